import Derived.Test.YtpephlhhdefdgaaDoorScI
set_option linter.unusedVariables false
set_option linter.unusedSimpArgs false
set_option maxRecDepth 100000
namespace Go.Proofs.ScA
open Go Go.Am Go.Proofs Go.RowKit
set_option linter.unusedSectionVars false

/-- The greatest number at which something holds. -/
def firstHit (hit : Nat → Bool) : Nat → Option Nat
  | 0 => none
  | k + 1 => bif hit (k + 1) then some (k + 1) else firstHit hit k

theorem enclosing_spec (s : SA) (M : Mem) : ACalls Tryd.prog 20 [stA s] M fun e M' => ∃ r, M (.b r) = none ∧ e = .ret (.fn (.func 35) [] [.ptr r 0]) ∧ M' = M.set (.b r) (.cells (stC s)) := by
  refine enter20 _ ?_
  simp only [cc20]
  refine CWp.seq ?_
  refine CWp.reg tt_ok ?_
  simp only [go_sem, Nat.reduceAdd, Nat.reduceLeDiff, Nat.reduceMul, Nat.reduceSub, Nat.reduceEqDiff, stA, stC]
  intro r hr
  repeat (first | refine CWp.seq ?_ | refine CWp.block ?_ | (refine CWp.ret ?_; try simp only [go_sem, Nat.reduceAdd, Nat.reduceLeDiff, Nat.reduceMul, Nat.reduceSub, Nat.reduceEqDiff]) | (refine CWp.skip ?_; try simp only [go_sem, Nat.reduceAdd, Nat.reduceLeDiff, Nat.reduceMul, Nat.reduceSub, Nat.reduceEqDiff]) | (refine CWp.reg tt_ok ?_; simp only [go_sem, Nat.reduceAdd, Nat.reduceLeDiff, Nat.reduceMul, Nat.reduceSub, Nat.reduceEqDiff]))
  exact Fin.ret1 (.inl rfl) rfl rfl rfl (Mem.sub.refl _) ⟨r, hr, rfl, rfl⟩

theorem encl_loop (s : SA) (hns : s.ns.length ≤ 1000) (hit : Nat → Bool) (l r : Nat) (MI : Mem) (hr : MI (.b r) = some (.cells (stC s))) (R : Nat → Mem → Prop)
    (hy : ∀ k, k < s.ns.length → AYields Tryd.prog l [.sl .no 1 (strs (s.ns.take (k + 1)))] MI fun e M' => (e = .ret (.bool true) ∧ hit (k + 1) = false ∧ M' = MI) ∨ (e = .ret (.bool false) ∧ hit (k + 1) = true ∧ R (k + 1) M'))
    (Q : AExit → St → Prop) : ∀ (k : Nat), k ≤ s.ns.length →
    (∀ k', firstHit hit k = some k' → ∀ t M', R k' M' → Q .ret { tmps := t, loc := [], rows := [], defs := [], M := M' }) →
    (firstHit hit k = none → ∀ t, Q (.exit 0) { tmps := t, loc := [], rows := [], defs := [], M := MI }) →
    CLoop none Tryd.prog tt esc35 cc35_l0 Q { tmps := lp35_0 (.v (.fn (.yield l) [] [])) (.v (.ptr r 0)) (.v (.int .i64 (k : Int))), loc := [], rows := [], defs := [], M := MI } := by
  intro k
  induction k with
  | zero =>
    intro h1 hQ1 hQ2
    refine CLoop.unroll ?_
    generalize hK : CLoop none Tryd.prog tt esc35 cc35_l0 Q = K
    simp only [cc35_l0, lp35_0]
    repeat (first | refine CWp.seq ?_ | refine CWp.block ?_ | (refine CWp.ret ?_; try simp only [go_sem, Nat.reduceAdd, Nat.reduceLeDiff, Nat.reduceMul, Nat.reduceSub, Nat.reduceEqDiff]) | (refine CWp.skip ?_; try simp only [go_sem, Nat.reduceAdd, Nat.reduceLeDiff, Nat.reduceMul, Nat.reduceSub, Nat.reduceEqDiff]) | (refine CWp.reg tt_ok ?_; simp only [go_sem, Nat.reduceAdd, Nat.reduceLeDiff, Nat.reduceMul, Nat.reduceSub, Nat.reduceEqDiff]))
    refine CWp.cond rfl ?_ ?_ <;> intro hc
    · simp at hc
    · exact CWp.exit (hQ2 rfl _)
  | succ k ih =>
    intro h1 hQ1 hQ2
    refine CLoop.unroll ?_
    generalize hK : CLoop none Tryd.prog tt esc35 cc35_l0 Q = K
    simp only [cc35_l0, lp35_0]
    repeat (first | refine CWp.seq ?_ | refine CWp.block ?_ | (refine CWp.ret ?_; try simp only [go_sem, Nat.reduceAdd, Nat.reduceLeDiff, Nat.reduceMul, Nat.reduceSub, Nat.reduceEqDiff]) | (refine CWp.skip ?_; try simp only [go_sem, Nat.reduceAdd, Nat.reduceLeDiff, Nat.reduceMul, Nat.reduceSub, Nat.reduceEqDiff]) | (refine CWp.reg tt_ok ?_; simp only [go_sem, Nat.reduceAdd, Nat.reduceLeDiff, Nat.reduceMul, Nat.reduceSub, Nat.reduceEqDiff]))
    refine CWp.cond rfl ?_ ?_ <;> intro hc
    · simp only [firstHit] at hQ1 hQ2
      refine CWp.skip ?_
      simp only [go_sem, Nat.reduceAdd, Nat.reduceLeDiff, Nat.reduceMul, Nat.reduceSub, Nat.reduceEqDiff]
      refine CWp.seq ?_
      refine CWp.block ?_
      refine CWp.seq ?_
      refine CWp.reg tt_ok ?_
      simp only [go_sem, Nat.reduceAdd, Nat.reduceLeDiff, Nat.reduceMul, Nat.reduceSub, Nat.reduceEqDiff, hr, stC, strs_len]
      repeat (with_reducible refine And.intro (by first | exact True.intro | assumption | omega | (intros; omega) | (intro hg; simp only [Bool.and_eq_true, Bool.or_eq_true, decide_eq_true_eq, Bool.not_eq_true', decide_eq_false_iff_not] at hg; omega) | (simp only [decide_eq_true_eq, Bool.and_eq_true, Bool.or_eq_true, Bool.not_eq_true', decide_eq_false_iff_not]; omega) | (intros; simp_all; done) | (intros; simp_all; omega)) ?_)
      have e0 : Int.toNat 0 = 0 := rfl
      simp only [e0, List.drop_zero, Int.toNat_natCast, strs_take]
      refine COps.yield rfl rfl (by simp) ((hy k (by omega)).mono ?_)
      rintro x M' (⟨rfl, hh, rfl⟩ | ⟨rfl, hh, hR⟩)
      · refine evalC_sound tt_ok _ _ ?_
        rw [hh] at hQ1 hQ2
        simp only [cond_false] at hQ1 hQ2
        simp only [go_sem, Nat.reduceAdd, Nat.reduceLeDiff, Nat.reduceMul, Nat.reduceSub, Nat.reduceEqDiff]
        refine CWp.cond rfl (fun h => by cases h) fun _ => ?_
        repeat (first | refine CWp.seq ?_ | refine CWp.block ?_ | (refine CWp.ret ?_; try simp only [go_sem, Nat.reduceAdd, Nat.reduceLeDiff, Nat.reduceMul, Nat.reduceSub, Nat.reduceEqDiff]) | (refine CWp.skip ?_; try simp only [go_sem, Nat.reduceAdd, Nat.reduceLeDiff, Nat.reduceMul, Nat.reduceSub, Nat.reduceEqDiff]) | (refine CWp.reg tt_ok ?_; simp only [go_sem, Nat.reduceAdd, Nat.reduceLeDiff, Nat.reduceMul, Nat.reduceSub, Nat.reduceEqDiff]))
        repeat (with_reducible refine And.intro (by first | exact True.intro | assumption | omega | (intros; omega) | (intro hg; simp only [Bool.and_eq_true, Bool.or_eq_true, decide_eq_true_eq, Bool.not_eq_true', decide_eq_false_iff_not] at hg; omega) | (simp only [decide_eq_true_eq, Bool.and_eq_true, Bool.or_eq_true, Bool.not_eq_true', decide_eq_false_iff_not]; omega) | (intros; simp_all; done) | (intros; simp_all; omega)) ?_)
        rw [← hK]
        exact CLoop.junk (t := lp35_0 (.v (.fn (.yield l) [] [])) (.v (.ptr r 0)) (.v (.int .i64 (k : Int)))) (ih (by omega) hQ1 hQ2) (by simp [Junked, lp35_0])
      · refine evalC_sound tt_ok _ _ ?_
        rw [hh] at hQ1
        simp only [go_sem, Nat.reduceAdd, Nat.reduceLeDiff, Nat.reduceMul, Nat.reduceSub, Nat.reduceEqDiff]
        refine CWp.cond rfl (fun _ => ?_) (fun h => by cases h)
        repeat (first | refine CWp.seq ?_ | refine CWp.block ?_ | (refine CWp.ret ?_; try simp only [go_sem, Nat.reduceAdd, Nat.reduceLeDiff, Nat.reduceMul, Nat.reduceSub, Nat.reduceEqDiff]) | (refine CWp.skip ?_; try simp only [go_sem, Nat.reduceAdd, Nat.reduceLeDiff, Nat.reduceMul, Nat.reduceSub, Nat.reduceEqDiff]) | (refine CWp.reg tt_ok ?_; simp only [go_sem, Nat.reduceAdd, Nat.reduceLeDiff, Nat.reduceMul, Nat.reduceSub, Nat.reduceEqDiff]))
        exact hQ1 (k + 1) rfl _ _ hR
    · first | (simp at hc; done) | (simp at hc; omega)

theorem encl_iter (s : SA) (hns : s.ns.length ≤ 1000) (hit : Nat → Bool) (l r : Nat) (MI : Mem) (hr : MI (.b r) = some (.cells (stC s))) (R : Nat → Mem → Prop)
    (hy : ∀ k, k < s.ns.length → AYields Tryd.prog l [.sl .no 1 (strs (s.ns.take (k + 1)))] MI fun e M' => (e = .ret (.bool true) ∧ hit (k + 1) = false ∧ M' = MI) ∨ (e = .ret (.bool false) ∧ hit (k + 1) = true ∧ R (k + 1) M')) :
    ACalls Tryd.prog 35 [.fn (.yield l) [] [], .ptr r 0] MI fun e M' => e = .ret (.tup []) ∧ ((firstHit hit s.ns.length = none ∧ M' = MI) ∨ ∃ k, firstHit hit s.ns.length = some k ∧ R k M') := by
  refine enter35 _ _ ?_
  simp only [cc35]
  refine CWp.seq ?_
  refine CWp.reg tt_ok ?_
  simp only [go_sem, Nat.reduceAdd, Nat.reduceLeDiff, Nat.reduceMul, Nat.reduceSub, Nat.reduceEqDiff, hr, stC, strs_len]
  repeat (first | refine CWp.seq ?_ | refine CWp.block ?_ | (refine CWp.ret ?_; try simp only [go_sem, Nat.reduceAdd, Nat.reduceLeDiff, Nat.reduceMul, Nat.reduceSub, Nat.reduceEqDiff]) | (refine CWp.skip ?_; try simp only [go_sem, Nat.reduceAdd, Nat.reduceLeDiff, Nat.reduceMul, Nat.reduceSub, Nat.reduceEqDiff]) | (refine CWp.reg tt_ok ?_; simp only [go_sem, Nat.reduceAdd, Nat.reduceLeDiff, Nat.reduceMul, Nat.reduceSub, Nat.reduceEqDiff]))
  refine CWp.loop (CLoop.junk (t := lp35_0 (.v (.fn (.yield l) [] [])) (.v (.ptr r 0)) (.v (.int .i64 (s.ns.length : Int)))) (encl_loop s hns hit l r MI hr R hy _ s.ns.length (Nat.le_refl _) ?_ ?_) (by simp [Junked, lp35_0]))
  · intro k hk t M' hR
    simp only [go_sem, Nat.reduceAdd, Nat.reduceLeDiff, Nat.reduceMul, Nat.reduceSub, Nat.reduceEqDiff]
    exact Fin.ret0 (.inl rfl) rfl rfl (Mem.sub.refl _) ⟨rfl, .inr ⟨k, hk, hR⟩⟩
  · intro hk t
    simp only [go_sem, Nat.reduceAdd, Nat.reduceLeDiff, Nat.reduceMul, Nat.reduceSub, Nat.reduceEqDiff]
    exact Fin.ret0 (.inr rfl) rfl rfl (Mem.sub.refl _) ⟨rfl, .inl ⟨hk, rfl⟩⟩

theorem encl_hit (s : SA) (nm : List UInt8) : ∀ k, encl s nm k = (firstHit (fun k => declaredM s (joinedM (s.ns.take k) nm)) k).map fun k => joinedM (s.ns.take k) nm
  | 0 => rfl
  | k + 1 => by
    simp only [encl, firstHit]
    cases declaredM s (joinedM (s.ns.take (k + 1)) nm) with
    | true => rfl
    | false => exact encl_hit s nm k

theorem contains_one (x y : List UInt8) : ([x] : List (List UInt8)).contains y = decide (x = y) := by
  rw [Bool.eq_iff_iff]; simp [eq_comm]

/-- What the names in open namespaces come to. -/
def openedRes : List (List UInt8) → Option (List UInt8)
  | [] => some []
  | [a] => some a
  | _ => none
theorem openedL_two (s : SA) (nm : List UInt8) : ∀ (r acc : List (List UInt8)), 2 ≤ acc.length → 2 ≤ (openedL s nm r acc).length
  | [], acc, h => h
  | o :: r, acc, h => by
    simp only [openedL]
    cases (declaredM s (joinedM [o] nm) && !acc.contains (joinedM [o] nm)) with
    | true => exact openedL_two s nm r _ (by simp; omega)
    | false => exact openedL_two s nm r _ h
theorem openedRes_two {l : List (List UInt8)} (h : 2 ≤ l.length) : openedRes l = none := by
  match l, h with
  | _ :: _ :: _, _ => rfl
theorem found_opened (s : SA) (nm : List UInt8) : ∀ (r acc : List (List UInt8)) (f : List UInt8), (acc = [] ∧ f = []) ∨ (acc = [f] ∧ f ≠ []) → foundR s nm r f = openedRes (openedL s nm r acc)
  | [], acc, f, h => by
    rcases h with ⟨rfl, rfl⟩ | ⟨rfl, _⟩ <;> rfl
  | o :: r, acc, f, h => by
    have hne : joinedM [o] nm ≠ [] := by rw [joinedM_eq]; simp [joinR]
    simp only [foundR, openedL]
    generalize joinedM [o] nm = x at *
    cases hd : declaredM s x with
    | false =>
      simp only [Bool.not_false, cond_true, Bool.false_and, cond_false]
      exact found_opened s nm r acc f h
    | true =>
      simp only [Bool.not_true, cond_false, Bool.true_and]
      rcases h with ⟨rfl, rfl⟩ | ⟨rfl, hf⟩
      · have e1 : ([] : List (List UInt8)).contains x = false := rfl
        simp only [e1, Bool.not_false, cond_true, decide_true, Bool.not_true, Bool.false_and, cond_false]
        exact found_opened s nm r _ x (.inr ⟨rfl, hne⟩)
      · rw [contains_one]
        have e0 : decide (f = []) = false := decide_eq_false hf
        rw [e0]
        by_cases e : f = x
        · subst e
          simp only [decide_true, Bool.not_true, Bool.and_false, cond_false]
          exact found_opened s nm r _ f (.inr ⟨rfl, hf⟩)
        · rw [decide_eq_false e]
          simp only [Bool.not_false, Bool.and_self, cond_true]
          exact (openedRes_two (openedL_two s nm r _ (by simp))).symm

theorem resolve_spec (s : SA) (hs : s.fine) (nm : List UInt8) (hnm : nm.length ≤ 1000) : Pure Tryd.prog 6 [stA s, .str nm] (resA (resolveM s nm)) := fun M => by
  refine enter6 _ _ ?_
  simp only [cc6]
  refine CWp.seq ?_
  refine CWp.reg tt_ok ?_
  simp only [go_sem, Nat.reduceAdd, Nat.reduceLeDiff, Nat.reduceMul, Nat.reduceSub, Nat.reduceEqDiff, stA, stC]
  intro r2 h2 r3 h3 r4 h4 r5 h5
  obtain ⟨n32, h3⟩ := Mem.set_none h3
  obtain ⟨n43, h4⟩ := Mem.set_none h4
  obtain ⟨n42, h4⟩ := Mem.set_none h4
  obtain ⟨n54, h5⟩ := Mem.set_none h5
  obtain ⟨n53, h5⟩ := Mem.set_none h5
  obtain ⟨n52, h5⟩ := Mem.set_none h5
  simp only [ne_eq, Key.b.injEq] at n32 n43 n42 n54 n53 n52
  obtain ⟨M1, hM1⟩ : ∃ M1, M1 = (((M.set (.b r2) (.cells (stC s))).set (.b r3) (.cells [.str nm])).set (.b r4) (.cells [.str []])).set (.b r5) (.cells [.int .i64 0]) := ⟨_, rfl⟩
  have g2 : M1 (.b r2) = some (.cells (stC s)) := by rw [hM1, Mem.set_b (Ne.symm n52), Mem.set_b (Ne.symm n42), Mem.set_b (Ne.symm n32), Mem.set_same]
  have g3 : M1 (.b r3) = some (.cells [.str nm]) := by rw [hM1, Mem.set_b (Ne.symm n53), Mem.set_b (Ne.symm n43), Mem.set_same]
  have g4 : M1 (.b r4) = some (.cells [.str []]) := by rw [hM1, Mem.set_b (Ne.symm n54), Mem.set_same]
  have g5 : M1 (.b r5) = some (.cells [.int .i64 0]) := by rw [hM1, Mem.set_same]
  have gs : M.sub M1 := by
    rw [hM1]
    exact ((((Mem.sub.refl M).set_new h2).set_new h3).set_new h4).set_new h5
  simp only [stC] at hM1
  rw [← hM1]
  clear hM1
  have fin : ∀ (t : List TV) (Mx : Mem) (ds : List Nat) (x : List UInt8) (e : Nat) (ex : AExit), (ex = .ret ∨ ex = .normal) → t[4]? = some (.v (.ptr r4 0)) → t[5]? = some (.v (.ptr r5 0)) → Mx (.b r4) = some (.cells [.str x]) → Mx (.b r5) = some (.cells [.int .i64 (e : Int)]) →
      defbs ds Mx → r4 ∉ ds → r5 ∉ ds → M.sub Mx → (∀ d ∈ ds, M (.b d) = none) → resolveM s nm = (x, e) →
      FinM Tryd.prog Tryd.f6 (fun e' M' => e' = .ret (resA (resolveM s nm)) ∧ M' = M) ex { tmps := t, loc := [], rows := [], defs := ds.map .mark, M := Mx } := by
    intro t Mx ds x e ex hex ht4 ht5 hm4 hm5 hdb hn4 hn5 hsub hdn hres
    refine FinM.two hex Tryd.results6 tok9 tok30 rfl hdb (by rw [ht4]; rfl) (by rw [ht5]; rfl) hm4 hm5 (v := .str x) (v' := .int .i64 (e : Int)) rfl rfl hn4 hn5 hsub hdn ⟨?_, rfl⟩
    rw [hres]; rfl
  refine CWp.seq ?_
  refine CWp.seq ?_
  refine CWp.reg tt_ok ?_
  simp only [go_sem, Nat.reduceAdd, Nat.reduceLeDiff, Nat.reduceMul, Nat.reduceSub, Nat.reduceEqDiff, g3]
  refine COps.pure has19 rfl rfl (by simp) (fun _ => name_spec nm (by omega)) (evalC_sound tt_ok _ _ ?_)
  simp only [go_sem, Nat.reduceAdd, Nat.reduceLeDiff, Nat.reduceMul, Nat.reduceSub, Nat.reduceEqDiff]
  refine CWp.cond rfl ?_ ?_ <;> intro h0
  · refine CWp.seq ?_
    refine CWp.reg tt_ok ?_
    simp only [go_sem, Nat.reduceAdd, Nat.reduceLeDiff, Nat.reduceMul, Nat.reduceSub, Nat.reduceEqDiff, g4, g5, Mem.set_b n54]
    refine CWp.ret ?_
    refine fin _ _ [] [] 29 _ (.inl rfl) rfl rfl ?_ (Mem.set_same _ _ _) True.intro (by simp) (by simp) ?_ (by simp) (by simp only [resolveM, h0, cond_true])
    · rw [Mem.set_b (Ne.symm n54), Mem.set_same]
    · exact (gs.set_new h4).set_new h5
  · refine CWp.skip ?_
    simp only [go_sem, Nat.reduceAdd, Nat.reduceLeDiff, Nat.reduceMul, Nat.reduceSub, Nat.reduceEqDiff]
    refine CWp.seq ?_
    refine CWp.seq ?_
    refine CWp.reg tt_ok ?_
    simp only [go_sem, Nat.reduceAdd, Nat.reduceLeDiff, Nat.reduceMul, Nat.reduceSub, Nat.reduceEqDiff, g2, stC]
    have he := enclosing_spec s M1
    simp only [stA, stC] at he
    refine COps.call has20 rfl (by simp) (he.mono ?_)
    rintro x M' ⟨rc, hrc, rfl, rfl⟩
    refine evalC_sound tt_ok _ _ ?_
    simp only [go_sem, Nat.reduceAdd, Nat.reduceLeDiff, Nat.reduceMul, Nat.reduceSub, Nat.reduceEqDiff]
    obtain ⟨M2, hM2⟩ : ∃ M2, M2 = M1.set (.b rc) (.cells (stC s)) := ⟨_, rfl⟩
    have nc : ∀ r o, M1 (.b r) = some o → r ≠ rc := by
      intro r o h e; subst e; rw [hrc] at h; cases h
    have k2 : M2 (.b r2) = some (.cells (stC s)) := by rw [hM2, Mem.set_b (nc _ _ g2)]; exact g2
    have k3 : M2 (.b r3) = some (.cells [.str nm]) := by rw [hM2, Mem.set_b (nc _ _ g3)]; exact g3
    have k4 : M2 (.b r4) = some (.cells [.str []]) := by rw [hM2, Mem.set_b (nc _ _ g4)]; exact g4
    have k5 : M2 (.b r5) = some (.cells [.int .i64 0]) := by rw [hM2, Mem.set_b (nc _ _ g5)]; exact g5
    have kc : M2 (.b rc) = some (.cells (stC s)) := by rw [hM2, Mem.set_same]
    have ks : M.sub M2 := by rw [hM2]; exact gs.trans ((Mem.sub.refl M1).set_new hrc)
    simp only [stC] at hM2
    rw [← hM2]
    clear hM2
    refine CWp.block ?_
    refine CWp.rangeF (f := 35) (first := []) (cap := [.ptr rc 0]) rfl has35 ?_
    intro l d fn ca cb hca hcb hl hd hld
    have hl : M2 (.b l) = none := hl
    have hd : M2 (.b d) = none := hd
    have nl : ∀ r o, M2 (.b r) = some o → r ≠ l := by intro r o h e; subst e; rw [hl] at h; cases h
    have nd : ∀ r o, M2 (.b r) = some o → r ≠ d := by intro r o h e; subst e; rw [hd] at h; cases h
    have hMl : M (.b l) = none := by
      cases h : M (.b l) with
      | none => rfl
      | some o => rw [ks _ _ h] at hl; cases hl
    have hMd : M (.b d) = none := by
      cases h : M (.b d) with
      | none => rfl
      | some o => rw [ks _ _ h] at hd; cases hd
    simp only [loopM, List.map_cons, List.map_nil, TV.av]
    generalize hL0 : (LoopRec.mk LoopState.ready none fn _ _ ca cb d) = L0
    have p1 : L0.state = .ready := by rw [← hL0]
    have p2 : L0.pend = none := by rw [← hL0]
    have p3 : L0.ps = #[14] := by rw [← hL0]
    have p4 : L0.assign = ca := by rw [← hL0]
    have p5 : L0.body = cb := by rw [← hL0]
    have p6 := congrArg LoopRec.vs hL0.symm
    simp only at p6
    clear hL0
    obtain ⟨MI, hMI⟩ : ∃ MI, MI = (M2.set (.b d) .defb).set (.b l) (.loop L0) := ⟨_, rfl⟩
    have look : ∀ r o, M2 (.b r) = some o → MI (.b r) = some o := by
      intro r o h
      rw [hMI, Mem.set_b (nl r o h), Mem.set_b (nd r o h)]; exact h
    have il : MI (.b l) = some (.loop L0) := by rw [hMI, Mem.set_same]
    have id_ : MI (.b d) = some .defb := by rw [hMI, Mem.set_b (Ne.symm hld), Mem.set_same]
    have is_ : M.sub MI := by rw [hMI]; exact (ks.set_new hMd).set_new hMl
    rw [← hMI]
    clear hMI
    have hns := hs.1.2.2.1
    have nrl : ∀ r o, M2 (.b r) = some o → ¬ r = l := fun r o h => nl r o h
    have b2 : ∀ o, (MI.set (.b l) o) (.b r2) = some (.cells (stC s)) := fun o => by rw [Mem.set_b (nl _ _ k2)]; exact look _ _ k2
    have b3 : ∀ o, (MI.set (.b l) o) (.b r3) = some (.cells [.str nm]) := fun o => by rw [Mem.set_b (nl _ _ k3)]; exact look _ _ k3
    have b4 : ∀ o, (MI.set (.b l) o) (.b r4) = some (.cells [.str []]) := fun o => by rw [Mem.set_b (nl _ _ k4)]; exact look _ _ k4
    have b5 : ∀ o, (MI.set (.b l) o) (.b r5) = some (.cells [.int .i64 0]) := fun o => by rw [Mem.set_b (nl _ _ k5)]; exact look _ _ k5
    have bd : ∀ o, (MI.set (.b l) o) (.b d) = some .defb := fun o => by rw [Mem.set_b (Ne.symm hld)]; exact id_
    have bs : ∀ o, M.sub (MI.set (.b l) o) := fun o => is_.set_new hMl
    refine (encl_iter s hns (fun k => declaredM s (joinedM (s.ns.take k) nm)) l rc MI (look rc _ kc) (fun k M' => (∃ L, M' (.b l) = some (.loop L) ∧ L.state = .done ∧ L.pend = some .ret) ∧ M' (.b r4) = some (.cells [.str (joinedM (s.ns.take k) nm)]) ∧ M' (.b r5) = some (.cells [.int .i64 0]) ∧ M' (.b d) = some .defb ∧ M.sub M') ?_).mono ?_
    · intro k hk
      refine AYields.of_cc (p := cc6_a0) (q := cc6_b0) (T := tt) (esc := esc6) il (by rw [p3]; rfl) (by rw [p4]; exact hca) (by rw [p5]; exact hcb) ?_
      simp only [p3, p6, roundT, avT, List.map_cons, List.map_nil, List.set_cons_succ, List.set_cons_zero]
      simp only [cc6_a0]
      refine CWp.reg tt_ok ?_
      simp only [go_sem, Nat.reduceAdd, Nat.reduceLeDiff, Nat.reduceMul, Nat.reduceSub, Nat.reduceEqDiff]
      refine ⟨L0, il, p1, ?_⟩
      generalize hLB : ({ L0 with state := .busy } : LoopRec) = LB
      have hj := joined_spec .no (s.ns.take (k + 1)) nm (by simp; omega) (Nat.le_trans (sizes_take _ _) (Nat.le_trans hs.2 (by omega))) (by omega)
      have hjl := joinedM_len (s.ns.take (k + 1)) nm (Nat.le_trans (sizes_take _ _) hs.2) hnm
      generalize joinedM (s.ns.take (k + 1)) nm = x at *
      simp only [cc6_b0]
      refine CWp.block ?_
      refine CWp.seq ?_
      refine CWp.reg tt_ok ?_
      simp only [go_sem, Nat.reduceAdd, Nat.reduceLeDiff, Nat.reduceMul, Nat.reduceSub, Nat.reduceEqDiff, b3]
      refine COps.pure has21 rfl rfl (by simp) (fun _ => hj) (evalC_sound tt_ok _ _ ?_)
      simp only [go_sem, Nat.reduceAdd, Nat.reduceLeDiff, Nat.reduceMul, Nat.reduceSub, Nat.reduceEqDiff]
      refine CWp.seq ?_
      refine CWp.reg tt_ok ?_
      simp only [go_sem, Nat.reduceAdd, Nat.reduceLeDiff, Nat.reduceMul, Nat.reduceSub, Nat.reduceEqDiff, b2, stC]
      have hd2 := declared_spec s hs.1 x hjl
      simp only [stA, stC] at hd2
      refine COps.pure has10 rfl rfl (by simp) (fun _ => hd2) (evalC_sound tt_ok _ _ ?_)
      simp only [go_sem, Nat.reduceAdd, Nat.reduceLeDiff, Nat.reduceMul, Nat.reduceSub, Nat.reduceEqDiff]
      refine CWp.cond rfl ?_ ?_ <;> intro hc
      · refine CWp.seq ?_
        refine CWp.reg tt_ok ?_
        have c5 : ∀ o o', ((MI.set (.b l) o).set (.b r4) o') (.b r5) = some (.cells [.int .i64 0]) := fun o o' => by rw [Mem.set_b n54]; exact b5 o
        simp only [go_sem, Nat.reduceAdd, Nat.reduceLeDiff, Nat.reduceMul, Nat.reduceSub, Nat.reduceEqDiff, b4, b5, c5]
        refine CWp.ret ?_
        have e4l : ¬ r4 = l := nl _ _ k4
        have e5l : ¬ r5 = l := nl _ _ k5
        refine ⟨LB, ?_, _, Mem.sub.refl _, .inr ⟨rfl, hc, ⟨_, Mem.set_same _ _ _, rfl, rfl⟩, ?_, ?_, ?_, ?_⟩⟩
        · show ((Mem.set _ _ _).set _ _) (.b l) = _
          rw [Mem.set_b (Ne.symm e5l), Mem.set_b (Ne.symm e4l), Mem.set_same]
        · rw [Mem.set_b e4l]
          show ((Mem.set _ _ _).set _ _) (.b r4) = _
          rw [Mem.set_b (Ne.symm n54), Mem.set_same]
        · rw [Mem.set_b e5l]
          show ((Mem.set _ _ _).set _ _) (.b r5) = _
          rw [Mem.set_same]
        · rw [Mem.set_b (Ne.symm hld)]
          show ((Mem.set _ _ _).set _ _) (.b d) = _
          rw [Mem.set_b (Ne.symm (nd _ _ k5)), Mem.set_b (Ne.symm (nd _ _ k4))]
          exact bd _
        · exact (((bs _).set_new h4).set_new h5).set_new hMl
      · refine CWp.skip ?_
        simp only [go_sem, Nat.reduceAdd, Nat.reduceLeDiff, Nat.reduceMul, Nat.reduceSub, Nat.reduceEqDiff]
        refine ⟨LB, Mem.set_same _ _ _, MI, ?_, .inl ⟨rfl, hc, rfl⟩⟩
        rw [Mem.set_set]
        have : ({ LB with state := .ready, pend := none } : LoopRec) = L0 := by
          rw [← hLB, ← p1, ← p2]
        rw [this, Mem.set_self _ _ _ il]
        exact Mem.sub.refl _
    · rintro e M' ⟨rfl, (⟨hnone, hM'⟩ | ⟨k, hk, ⟨L, q0, q1, q2⟩, q4, q5, qd, qs⟩)⟩
      · rw [hM']
        refine ⟨L0, il, by rw [p1]; simp, ?_⟩
        rw [p2]
        simp only [jumpA]
        simp only [go_sem, Nat.reduceAdd, Nat.reduceLeDiff, Nat.reduceMul, Nat.reduceSub, Nat.reduceEqDiff]
        have hen : encl s nm s.ns.length = none := by rw [encl_hit, hnone]; rfl
        have hfr := found_opened s nm s.opens [] [] (.inl ⟨rfl, rfl⟩)
        have hop := opened_spec s hs.1 nm hnm
        simp only [stA, stC] at hop
        have hres : resolveM s nm = restM s nm (openedRes (openedL s nm s.opens [])) := by
          simp only [resolveM, h0, cond_false, hen, hfr]
        refine CWp.seq ?_
        refine CWp.seq ?_
        refine CWp.reg tt_ok ?_
        simp only [go_sem, Nat.reduceAdd, Nat.reduceLeDiff, Nat.reduceMul, Nat.reduceSub, Nat.reduceEqDiff, b2, b3, stC]
        refine COps.pure has22 rfl rfl (by simp) (fun _ => hop) (evalC_sound tt_ok _ _ ?_)
        generalize hol : openedL s nm s.opens [] = ol at hres
        simp only [go_sem, Nat.reduceAdd, Nat.reduceLeDiff, Nat.reduceMul, Nat.reduceSub, Nat.reduceEqDiff]
        refine CWp.block ?_
        refine CWp.seq ?_
        refine CWp.reg tt_ok ?_
        simp only [go_sem, Nat.reduceAdd, Nat.reduceLeDiff, Nat.reduceMul, Nat.reduceSub, Nat.reduceEqDiff, strs_len]
        have c5 : ∀ o o', ((MI.set (.b l) o).set (.b r4) o') (.b r5) = some (.cells [.int .i64 0]) := fun o o' => by rw [Mem.set_b n54]; exact b5 o
        have out : ∀ (t : List TV) (x : List UInt8) (e : Nat), t[4]? = some (.v (.ptr r4 0)) → t[5]? = some (.v (.ptr r5 0)) → resolveM s nm = (x, e) → FinM Tryd.prog Tryd.f6 (fun e' M' => e' = .ret (resA (resolveM s nm)) ∧ M' = M) .ret { tmps := t, loc := [], rows := [], defs := [.mark d], M := ((MI.set (.b l) .dead).set (.b r4) (.cells [.str x])).set (.b r5) (.cells [.int .i64 (e : Int)]) } := by
          intro t x e ht4 ht5 hr
          refine fin _ _ [d] x e _ (.inl rfl) ht4 ht5 (by rw [Mem.set_b (Ne.symm n54), Mem.set_same]) (Mem.set_same _ _ _) ⟨?_, True.intro⟩ (by simpa using nd _ _ k4) (by simpa using nd _ _ k5) (((bs _).set_new h4).set_new h5) (by simpa using hMd) hr
          rw [Mem.set_b (Ne.symm (nd _ _ k5)), Mem.set_b (Ne.symm (nd _ _ k4))]
          exact bd _
        rcases ol with _ | ⟨a, _ | ⟨b, ol⟩⟩
        · refine CWp.cond rfl (fun h => by simp at h) fun _ => ?_
          refine CWp.seq ?_
          refine CWp.reg tt_ok ?_
          simp only [go_sem, Nat.reduceAdd, Nat.reduceLeDiff, Nat.reduceMul, Nat.reduceSub, Nat.reduceEqDiff, strs_len]
          refine CWp.cond rfl (fun h => by simp at h) fun _ => ?_
          refine CWp.seq ?_
          refine CWp.reg tt_ok ?_
          simp only [go_sem, Nat.reduceAdd, Nat.reduceLeDiff, Nat.reduceMul, Nat.reduceSub, Nat.reduceEqDiff, b2, b3, stC]
          have hd2 := declared_spec s hs.1 nm (by omega)
          simp only [stA, stC] at hd2
          refine COps.pure has10 rfl rfl (by simp) (fun _ => hd2) (evalC_sound tt_ok _ _ ?_)
          simp only [go_sem, Nat.reduceAdd, Nat.reduceLeDiff, Nat.reduceMul, Nat.reduceSub, Nat.reduceEqDiff]
          refine CWp.cond rfl ?_ ?_ <;> intro hc
          · refine CWp.seq ?_
            refine CWp.reg tt_ok ?_
            simp only [go_sem, Nat.reduceAdd, Nat.reduceLeDiff, Nat.reduceMul, Nat.reduceSub, Nat.reduceEqDiff, b3, b4, b5, c5]
            refine CWp.ret ?_
            try simp only [go_sem, Nat.reduceAdd, Nat.reduceLeDiff, Nat.reduceMul, Nat.reduceSub, Nat.reduceEqDiff]
            refine out _ nm 0 rfl rfl ?_
            rw [hres]
            simp only [openedRes, restM, decide_true, Bool.not_true, cond_false, hc, cond_true]
          · refine CWp.skip ?_
            simp only [go_sem, Nat.reduceAdd, Nat.reduceLeDiff, Nat.reduceMul, Nat.reduceSub, Nat.reduceEqDiff]
            refine CWp.seq ?_
            refine CWp.reg tt_ok ?_
            simp only [go_sem, Nat.reduceAdd, Nat.reduceLeDiff, Nat.reduceMul, Nat.reduceSub, Nat.reduceEqDiff, b4, b5, c5]
            refine CWp.ret ?_
            try simp only [go_sem, Nat.reduceAdd, Nat.reduceLeDiff, Nat.reduceMul, Nat.reduceSub, Nat.reduceEqDiff]
            refine out _ [] 9 rfl rfl ?_
            rw [hres]
            simp only [openedRes, restM, decide_true, Bool.not_true, cond_false, hc]
        · refine CWp.cond rfl (fun h => by simp at h) fun _ => ?_
          refine CWp.seq ?_
          refine CWp.reg tt_ok ?_
          simp only [go_sem, Nat.reduceAdd, Nat.reduceLeDiff, Nat.reduceMul, Nat.reduceSub, Nat.reduceEqDiff, strs_len]
          refine CWp.cond rfl (fun _ => ?_) (fun h => by simp at h)
          have hne : decide (a = []) = false := by
            refine decide_eq_false fun h => ?_
            subst h
            have : foundR s nm s.opens [] = openedRes [[]] := by rw [hfr, hol]
            have hbad : ∀ (r : List (List UInt8)) (f : List UInt8), f ≠ [] → foundR s nm r f ≠ some [] := by
              intro r
              induction r with
              | nil => intro f hf h; simp only [foundR, Option.some.injEq] at h; exact hf h
              | cons o r ih =>
                intro f hf
                simp only [foundR]
                cases (!declaredM s (joinedM [o] nm)) with
                | true => exact ih f hf
                | false =>
                  simp only [cond_false]
                  cases (!decide (f = []) && !decide (f = joinedM [o] nm)) with
                  | true => simp
                  | false => exact ih _ (by rw [joinedM_eq]; simp [joinR])
            have hin : ∀ (r acc : List (List UInt8)), (∀ x ∈ acc, x ≠ []) → ∀ x ∈ openedL s nm r acc, x ≠ [] := by
              intro r
              induction r with
              | nil => intro acc ha; exact ha
              | cons o r ih =>
                intro acc ha
                simp only [openedL]
                cases (declaredM s (joinedM [o] nm) && !acc.contains (joinedM [o] nm)) with
                | true =>
                  refine ih _ ?_
                  intro x hx
                  rcases List.mem_append.1 hx with h | h
                  · exact ha x h
                  · simp only [List.mem_singleton] at h
                    subst h
                    rw [joinedM_eq]; simp [joinR]
                | false => exact ih _ ha
            exact hin s.opens [] (by simp) [] (by rw [hol]; simp) rfl
          refine CWp.seq ?_
          refine CWp.reg tt_ok ?_
          have e0 : Int.toNat 0 = 0 := rfl
          simp only [go_sem, Nat.reduceAdd, Nat.reduceLeDiff, Nat.reduceMul, Nat.reduceSub, Nat.reduceEqDiff, strs_cons, strs_nil, b4, b5, c5, e0]
          refine ⟨by decide, ?_⟩
          refine CWp.ret ?_
          try simp only [go_sem, Nat.reduceAdd, Nat.reduceLeDiff, Nat.reduceMul, Nat.reduceSub, Nat.reduceEqDiff]
          refine out _ a 0 rfl rfl ?_
          rw [hres]
          simp only [openedRes, restM, hne, Bool.not_false, cond_true]
        · refine CWp.cond rfl (fun _ => ?_) (fun h => by simp at h; omega)
          refine CWp.seq ?_
          refine CWp.reg tt_ok ?_
          simp only [go_sem, Nat.reduceAdd, Nat.reduceLeDiff, Nat.reduceMul, Nat.reduceSub, Nat.reduceEqDiff, b4, b5, c5]
          refine CWp.ret ?_
          try simp only [go_sem, Nat.reduceAdd, Nat.reduceLeDiff, Nat.reduceMul, Nat.reduceSub, Nat.reduceEqDiff]
          refine out _ [] 8 rfl rfl ?_
          rw [hres]
          rfl
      · refine ⟨L, q0, by rw [q1]; simp, ?_⟩
        rw [q2]
        simp only [jumpA, thenA, blockA]
        have e4l : ¬ r4 = l := nl _ _ k4
        have e5l : ¬ r5 = l := nl _ _ k5
        refine fin _ _ [d] _ 0 _ (.inl rfl) rfl rfl (by rw [Mem.set_b e4l]; exact q4) (by rw [Mem.set_b e5l]; exact q5) ⟨by rw [Mem.set_b (Ne.symm hld)]; exact qd, True.intro⟩ (by simpa using nd _ _ k4) (by simpa using nd _ _ k5) (qs.set_new hMl) (by simpa using hMd) ?_
        simp only [resolveM, h0, cond_false, encl_hit, hk, Option.map_some]
end Go.Proofs.ScA
