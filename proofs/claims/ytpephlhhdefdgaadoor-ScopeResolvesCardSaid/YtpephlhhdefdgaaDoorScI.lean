import Derived.Test.YtpephlhhdefdgaaDoorScH
set_option linter.unusedVariables false
set_option linter.unusedSimpArgs false
set_option maxRecDepth 100000
namespace Go.Proofs.ScA
open Go Go.Am Go.Proofs Go.RowKit
set_option linter.unusedSectionVars false

def encl (s : SA) (nm : List UInt8) : Nat → Option (List UInt8)
  | 0 => none
  | k + 1 => bif declaredM s (joinedM (s.ns.take (k + 1)) nm) then some (joinedM (s.ns.take (k + 1)) nm) else encl s nm k
def foundR (s : SA) (nm : List UInt8) : List (List UInt8) → List UInt8 → Option (List UInt8)
  | [], f => some f
  | o :: r, f => bif !declaredM s (joinedM [o] nm) then foundR s nm r f
    else bif !decide (f = []) && !decide (f = joinedM [o] nm) then none else foundR s nm r (joinedM [o] nm)
def restM (s : SA) (nm : List UInt8) : Option (List UInt8) → List UInt8 × Nat
  | none => ([], 8)
  | some f => bif !decide (f = []) then (f, 0) else bif declaredM s nm then (nm, 0) else ([], 9)
def resolveM (s : SA) (nm : List UInt8) : List UInt8 × Nat :=
  bif !nameM nm then ([], 29) else match encl s nm s.ns.length with
    | some x => (x, 0)
    | none => restM s nm (foundR s nm s.opens [])
def resA (x : List UInt8 × Nat) : AV := .tup [.str x.1, .int .i64 (x.2 : Int)]

/-- The names of a state's namespaces are short. -/
def SA.fine (s : SA) : Prop := s.small ∧ sizesS s.ns ≤ 900000
theorem sizes_take (l : List (List UInt8)) (k : Nat) : sizesS (l.take k) ≤ sizesS l := by
  unfold sizesS
  have : (l.map (· ++ [46])).flatten = ((l.take k).map (· ++ [46])).flatten ++ ((l.drop k).map (· ++ [46])).flatten := by
    rw [← List.flatten_append, ← List.map_append, List.take_append_drop]
  rw [this, List.length_append]
  exact Nat.le_add_right _ _
theorem joinedM_len (l : List (List UInt8)) (nm : List UInt8) (h : sizesS l ≤ 900000) (hnm : nm.length ≤ 1000) : (joinedM l nm).length ≤ 1000000 := by
  rw [joinedM_eq]; unfold joinR; unfold sizesS at h; rw [List.length_append]; omega

theorem encl_loopR (s : SA) (hs : s.fine) (nm : List UInt8) (hnm : nm.length ≤ 1000) (M : Mem) (Q : AExit → St → Prop) : ∀ (k : Nat), k ≤ s.ns.length →
    (∀ x, encl s nm k = some x → ∀ t, t[4]? = some (.v (.str x)) → t[5]? = some (.v (.int .i64 0)) → Q .ret { tmps := t, loc := [some ((stC s).map .v)], rows := [], defs := [], M := M }) →
    (encl s nm k = none → Q (.exit 0) { tmps := lp7_0 (.v (.str nm)) (.lptr 0 0) (.v (.int .i64 0)), loc := [some ((stC s).map .v)], rows := [], defs := [], M := M }) →
    CLoop none Tryd.prog tt esc7 cc7_l0 Q { tmps := lp7_0 (.v (.str nm)) (.lptr 0 0) (.v (.int .i64 (k : Int))), loc := [some ((stC s).map .v)], rows := [], defs := [], M := M } := by
  intro k
  induction k with
  | zero =>
    intro h1 hQ1 hQ2
    refine CLoop.unroll ?_
    generalize hK : CLoop none Tryd.prog tt esc7 cc7_l0 Q = K
    simp only [cc7_l0, lp7_0, stC]
    repeat (first | refine CWp.seq ?_ | refine CWp.block ?_ | (refine CWp.ret ?_; try simp only [go_sem, Nat.reduceAdd, Nat.reduceLeDiff, Nat.reduceMul, Nat.reduceSub, Nat.reduceEqDiff]) | (refine CWp.skip ?_; try simp only [go_sem, Nat.reduceAdd, Nat.reduceLeDiff, Nat.reduceMul, Nat.reduceSub, Nat.reduceEqDiff]) | (refine CWp.reg tt_ok ?_; simp only [go_sem, Nat.reduceAdd, Nat.reduceLeDiff, Nat.reduceMul, Nat.reduceSub, Nat.reduceEqDiff]))
    refine CWp.cond rfl ?_ ?_ <;> intro hc
    · simp at hc
    · exact CWp.junk (t := lp7_0 (.v (.str nm)) (.lptr 0 0) (.v (.int .i64 0))) (CWp.exit (hQ2 rfl)) (by simp [Junked, lp7_0])
  | succ k ih =>
    intro h1 hQ1 hQ2
    refine CLoop.unroll ?_
    generalize hK : CLoop none Tryd.prog tt esc7 cc7_l0 Q = K
    simp only [cc7_l0, lp7_0, stC]
    have hcl := hs.1.2.2.1
    repeat (first | refine CWp.seq ?_ | refine CWp.block ?_ | (refine CWp.ret ?_; try simp only [go_sem, Nat.reduceAdd, Nat.reduceLeDiff, Nat.reduceMul, Nat.reduceSub, Nat.reduceEqDiff]) | (refine CWp.skip ?_; try simp only [go_sem, Nat.reduceAdd, Nat.reduceLeDiff, Nat.reduceMul, Nat.reduceSub, Nat.reduceEqDiff]) | (refine CWp.reg tt_ok ?_; simp only [go_sem, Nat.reduceAdd, Nat.reduceLeDiff, Nat.reduceMul, Nat.reduceSub, Nat.reduceEqDiff]))
    refine CWp.cond rfl ?_ ?_ <;> intro hc
    · simp only [encl] at hQ1 hQ2
      refine CWp.skip ?_
      simp only [go_sem, Nat.reduceAdd, Nat.reduceLeDiff, Nat.reduceMul, Nat.reduceSub, Nat.reduceEqDiff]
      repeat (first | refine CWp.seq ?_ | refine CWp.block ?_ | (refine CWp.ret ?_; try simp only [go_sem, Nat.reduceAdd, Nat.reduceLeDiff, Nat.reduceMul, Nat.reduceSub, Nat.reduceEqDiff]) | (refine CWp.skip ?_; try simp only [go_sem, Nat.reduceAdd, Nat.reduceLeDiff, Nat.reduceMul, Nat.reduceSub, Nat.reduceEqDiff]) | (refine CWp.reg tt_ok ?_; simp only [go_sem, Nat.reduceAdd, Nat.reduceLeDiff, Nat.reduceMul, Nat.reduceSub, Nat.reduceEqDiff]))
      have hj := joinR_spec s.o5 s.ns (k + 1) h1 nm (by omega) (Nat.le_trans (sizes_take s.ns (k + 1)) (Nat.le_trans hs.2 (by omega))) (by omega)
      rw [← joinedM_eq] at hj
      refine COps.pure has24 rfl rfl (by simp) (fun _ => hj) (evalC_sound tt_ok _ _ ?_)
      simp only [go_sem, Nat.reduceAdd, Nat.reduceLeDiff, Nat.reduceMul, Nat.reduceSub, Nat.reduceEqDiff]
      repeat (first | refine CWp.seq ?_ | refine CWp.block ?_ | (refine CWp.ret ?_; try simp only [go_sem, Nat.reduceAdd, Nat.reduceLeDiff, Nat.reduceMul, Nat.reduceSub, Nat.reduceEqDiff]) | (refine CWp.skip ?_; try simp only [go_sem, Nat.reduceAdd, Nat.reduceLeDiff, Nat.reduceMul, Nat.reduceSub, Nat.reduceEqDiff]) | (refine CWp.reg tt_ok ?_; simp only [go_sem, Nat.reduceAdd, Nat.reduceLeDiff, Nat.reduceMul, Nat.reduceSub, Nat.reduceEqDiff]))
      have hjl := joinedM_len (s.ns.take (k + 1)) nm (Nat.le_trans (sizes_take s.ns (k + 1)) hs.2) hnm
      generalize joinedM (s.ns.take (k + 1)) nm = x at *
      have hd := declaredR_spec s hs.1 x hjl
      simp only [stA, stC] at hd
      refine COps.pure has11 rfl rfl (by simp) (fun _ => hd) (evalC_sound tt_ok _ _ ?_)
      simp only [go_sem, Nat.reduceAdd, Nat.reduceLeDiff, Nat.reduceMul, Nat.reduceSub, Nat.reduceEqDiff]
      refine CWp.cond rfl ?_ ?_ <;> intro hc2
      · rw [hc2] at hQ1
        repeat (first | refine CWp.seq ?_ | refine CWp.block ?_ | (refine CWp.ret ?_; try simp only [go_sem, Nat.reduceAdd, Nat.reduceLeDiff, Nat.reduceMul, Nat.reduceSub, Nat.reduceEqDiff]) | (refine CWp.skip ?_; try simp only [go_sem, Nat.reduceAdd, Nat.reduceLeDiff, Nat.reduceMul, Nat.reduceSub, Nat.reduceEqDiff]) | (refine CWp.reg tt_ok ?_; simp only [go_sem, Nat.reduceAdd, Nat.reduceLeDiff, Nat.reduceMul, Nat.reduceSub, Nat.reduceEqDiff]))
        exact hQ1 x rfl _ rfl rfl
      · rw [hc2] at hQ1 hQ2
        simp only [cond_false] at hQ1 hQ2
        repeat (first | refine CWp.seq ?_ | refine CWp.block ?_ | (refine CWp.ret ?_; try simp only [go_sem, Nat.reduceAdd, Nat.reduceLeDiff, Nat.reduceMul, Nat.reduceSub, Nat.reduceEqDiff]) | (refine CWp.skip ?_; try simp only [go_sem, Nat.reduceAdd, Nat.reduceLeDiff, Nat.reduceMul, Nat.reduceSub, Nat.reduceEqDiff]) | (refine CWp.reg tt_ok ?_; simp only [go_sem, Nat.reduceAdd, Nat.reduceLeDiff, Nat.reduceMul, Nat.reduceSub, Nat.reduceEqDiff]))
        repeat (with_reducible refine And.intro (by first | exact True.intro | assumption | omega | (intros; omega) | (intro hg; simp only [Bool.and_eq_true, Bool.or_eq_true, decide_eq_true_eq, Bool.not_eq_true', decide_eq_false_iff_not] at hg; omega) | (simp only [decide_eq_true_eq, Bool.and_eq_true, Bool.or_eq_true, Bool.not_eq_true', decide_eq_false_iff_not]; omega) | (intros; simp_all; done) | (intros; simp_all; omega)) ?_)
        rw [← hK]
        exact CLoop.junk (t := lp7_0 (.v (.str nm)) (.lptr 0 0) (.v (.int .i64 ((k : Nat) : Int)))) (ih (by omega) hQ1 hQ2) (by simp [Junked, lp7_0])
    · have : ¬ (k + 1 : Nat) ≤ 0 := by omega
      first | (simp at hc; done) | (simp at hc; omega)

theorem found_loopR (s : SA) (hs : s.fine) (nm : List UInt8) (hnm : nm.length ≤ 1000) (M : Mem) (Q : AExit → St → Prop) : ∀ (n i : Nat) (f : List UInt8), s.opens.length - i < n → i ≤ s.opens.length → f.length ≤ 10000 →
    (foundR s nm (s.opens.drop i) f = none → ∀ t, t[4]? = some (.v (.str [])) → t[5]? = some (.v (.int .i64 8)) → Q .ret { tmps := t, loc := [some ((stC s).map .v)], rows := [], defs := [], M := M }) →
    (∀ f', foundR s nm (s.opens.drop i) f = some f' → Q (.exit 2) { tmps := lp7_1 (.v (.str nm)) (.lptr 0 0) (.v (.str f')) (.v (.int .i64 (s.opens.length : Int))), loc := [some ((stC s).map .v)], rows := [], defs := [], M := M }) →
    CLoop none Tryd.prog tt esc7 cc7_l1 Q { tmps := lp7_1 (.v (.str nm)) (.lptr 0 0) (.v (.str f)) (.v (.int .i64 (i : Int))), loc := [some ((stC s).map .v)], rows := [], defs := [], M := M } := by
  intro n
  induction n with
  | zero => intro i f h0 h1 h2 hQ1 hQ2; omega
  | succ n ih =>
    intro i f h0 h1 h2 hQ1 hQ2
    refine CLoop.unroll ?_
    generalize hK : CLoop none Tryd.prog tt esc7 cc7_l1 Q = K
    simp only [cc7_l1, lp7_1, stC]
    have hcl := hs.1.2.2.2.1
    repeat (first | refine CWp.seq ?_ | refine CWp.block ?_ | (refine CWp.ret ?_; try simp only [go_sem, Nat.reduceAdd, Nat.reduceLeDiff, Nat.reduceMul, Nat.reduceSub, Nat.reduceEqDiff]) | (refine CWp.skip ?_; try simp only [go_sem, Nat.reduceAdd, Nat.reduceLeDiff, Nat.reduceMul, Nat.reduceSub, Nat.reduceEqDiff]) | (refine CWp.reg tt_ok ?_; simp only [go_sem, Nat.reduceAdd, Nat.reduceLeDiff, Nat.reduceMul, Nat.reduceSub, Nat.reduceEqDiff]))
    simp only [strs_len]
    refine CWp.cond rfl ?_ ?_ <;> intro hc
    · have hi : i < s.opens.length := by simpa using hc
      have hx := strs_at s.opens i s.opens[i] (List.getElem?_eq_getElem hi)
      have ho := hs.1.2.2.2.2.2 s.opens[i] (List.getElem_mem hi)
      rw [List.drop_eq_getElem_cons hi] at hQ1 hQ2
      have ej : joinedM [s.opens[i]] nm = s.opens[i] ++ [46] ++ nm := by rw [joinedM_eq]; simp [joinR]
      simp only [foundR, ej] at hQ1 hQ2
      refine CWp.skip ?_
      simp only [go_sem, Nat.reduceAdd, Nat.reduceLeDiff, Nat.reduceMul, Nat.reduceSub, Nat.reduceEqDiff]
      refine CWp.seq ?_
      refine CWp.block ?_
      refine CWp.seq ?_
      refine CWp.reg tt_ok ?_
      simp only [go_sem, Nat.reduceAdd, Nat.reduceLeDiff, Nat.reduceMul, Nat.reduceSub, Nat.reduceEqDiff, hx, strs_len]
      repeat (with_reducible refine And.intro (by first | exact True.intro | assumption | omega | (intros; omega) | (intro hg; simp only [Bool.and_eq_true, Bool.or_eq_true, decide_eq_true_eq, Bool.not_eq_true', decide_eq_false_iff_not] at hg; omega) | (simp only [decide_eq_true_eq, Bool.and_eq_true, Bool.or_eq_true, Bool.not_eq_true', decide_eq_false_iff_not]; omega) | (intros; simp_all; done) | (intros; simp_all; omega)) ?_)
      repeat (first | refine CWp.seq ?_ | refine CWp.block ?_ | (refine CWp.ret ?_; try simp only [go_sem, Nat.reduceAdd, Nat.reduceLeDiff, Nat.reduceMul, Nat.reduceSub, Nat.reduceEqDiff]) | (refine CWp.skip ?_; try simp only [go_sem, Nat.reduceAdd, Nat.reduceLeDiff, Nat.reduceMul, Nat.reduceSub, Nat.reduceEqDiff]) | (refine CWp.reg tt_ok ?_; simp only [go_sem, Nat.reduceAdd, Nat.reduceLeDiff, Nat.reduceMul, Nat.reduceSub, Nat.reduceEqDiff]))
      have hxl : (s.opens[i] ++ [46] ++ nm).length ≤ 10000 := by simp; omega
      generalize s.opens[i] ++ [46] ++ nm = x at *
      have hd := declaredR_spec s hs.1 x (by omega)
      simp only [stA, stC] at hd
      refine COps.pure has11 rfl rfl (by simp) (fun _ => hd) (evalC_sound tt_ok _ _ ?_)
      simp only [go_sem, Nat.reduceAdd, Nat.reduceLeDiff, Nat.reduceMul, Nat.reduceSub, Nat.reduceEqDiff]
      refine CWp.cond rfl ?_ ?_ <;> intro hc2
      · rw [hc2] at hQ1 hQ2
        simp only [cond_true] at hQ1 hQ2
        refine CWp.exit ?_
        simp only [go_sem, Nat.reduceAdd, Nat.reduceLeDiff, Nat.reduceMul, Nat.reduceSub, Nat.reduceEqDiff]
        repeat (first | refine CWp.seq ?_ | refine CWp.block ?_ | (refine CWp.ret ?_; try simp only [go_sem, Nat.reduceAdd, Nat.reduceLeDiff, Nat.reduceMul, Nat.reduceSub, Nat.reduceEqDiff]) | (refine CWp.skip ?_; try simp only [go_sem, Nat.reduceAdd, Nat.reduceLeDiff, Nat.reduceMul, Nat.reduceSub, Nat.reduceEqDiff]) | (refine CWp.reg tt_ok ?_; simp only [go_sem, Nat.reduceAdd, Nat.reduceLeDiff, Nat.reduceMul, Nat.reduceSub, Nat.reduceEqDiff]))
        repeat (with_reducible refine And.intro (by first | exact True.intro | assumption | omega | (intros; omega) | (intro hg; simp only [Bool.and_eq_true, Bool.or_eq_true, decide_eq_true_eq, Bool.not_eq_true', decide_eq_false_iff_not] at hg; omega) | (simp only [decide_eq_true_eq, Bool.and_eq_true, Bool.or_eq_true, Bool.not_eq_true', decide_eq_false_iff_not]; omega) | (intros; simp_all; done) | (intros; simp_all; omega)) ?_)
        rw [← hK]
        exact CLoop.junk (t := lp7_1 (.v (.str nm)) (.lptr 0 0) (.v (.str f)) (.v (.int .i64 ((i + 1 : Nat) : Int)))) (ih (i + 1) f (by omega) (by omega) h2 hQ1 hQ2) (by simp [Junked, lp7_1])
      · rw [hc2] at hQ1 hQ2
        simp only [cond_false] at hQ1 hQ2
        repeat (first | refine CWp.seq ?_ | refine CWp.block ?_ | (refine CWp.ret ?_; try simp only [go_sem, Nat.reduceAdd, Nat.reduceLeDiff, Nat.reduceMul, Nat.reduceSub, Nat.reduceEqDiff]) | (refine CWp.skip ?_; try simp only [go_sem, Nat.reduceAdd, Nat.reduceLeDiff, Nat.reduceMul, Nat.reduceSub, Nat.reduceEqDiff]) | (refine CWp.reg tt_ok ?_; simp only [go_sem, Nat.reduceAdd, Nat.reduceLeDiff, Nat.reduceMul, Nat.reduceSub, Nat.reduceEqDiff]))
        refine CWp.cond rfl ?_ ?_ <;> intro hc3
        · rw [hc3] at hQ1
          repeat (first | refine CWp.seq ?_ | refine CWp.block ?_ | (refine CWp.ret ?_; try simp only [go_sem, Nat.reduceAdd, Nat.reduceLeDiff, Nat.reduceMul, Nat.reduceSub, Nat.reduceEqDiff]) | (refine CWp.skip ?_; try simp only [go_sem, Nat.reduceAdd, Nat.reduceLeDiff, Nat.reduceMul, Nat.reduceSub, Nat.reduceEqDiff]) | (refine CWp.reg tt_ok ?_; simp only [go_sem, Nat.reduceAdd, Nat.reduceLeDiff, Nat.reduceMul, Nat.reduceSub, Nat.reduceEqDiff]))
          exact hQ1 rfl _ rfl rfl
        · rw [hc3] at hQ1 hQ2
          simp only [cond_false] at hQ1 hQ2
          repeat (first | refine CWp.seq ?_ | refine CWp.block ?_ | (refine CWp.ret ?_; try simp only [go_sem, Nat.reduceAdd, Nat.reduceLeDiff, Nat.reduceMul, Nat.reduceSub, Nat.reduceEqDiff]) | (refine CWp.skip ?_; try simp only [go_sem, Nat.reduceAdd, Nat.reduceLeDiff, Nat.reduceMul, Nat.reduceSub, Nat.reduceEqDiff]) | (refine CWp.reg tt_ok ?_; simp only [go_sem, Nat.reduceAdd, Nat.reduceLeDiff, Nat.reduceMul, Nat.reduceSub, Nat.reduceEqDiff]))
          repeat (with_reducible refine And.intro (by first | exact True.intro | assumption | omega | (intros; omega) | (intro hg; simp only [Bool.and_eq_true, Bool.or_eq_true, decide_eq_true_eq, Bool.not_eq_true', decide_eq_false_iff_not] at hg; omega) | (simp only [decide_eq_true_eq, Bool.and_eq_true, Bool.or_eq_true, Bool.not_eq_true', decide_eq_false_iff_not]; omega) | (intros; simp_all; done) | (intros; simp_all; omega)) ?_)
          rw [← hK]
          exact CLoop.junk (t := lp7_1 (.v (.str nm)) (.lptr 0 0) (.v (.str x)) (.v (.int .i64 ((i + 1 : Nat) : Int)))) (ih (i + 1) x (by omega) (by omega) hxl hQ1 hQ2) (by simp [Junked, lp7_1])
    · have hi : i = s.opens.length := by simp at hc; omega
      subst hi
      refine CWp.junk (t := lp7_1 (.v (.str nm)) (.lptr 0 0) (.v (.str f)) (.v (.int .i64 (s.opens.length : Int)))) (CWp.exit (hQ2 f (by simp [foundR]))) (by simp [Junked, lp7_1])

theorem resolveR_spec (s : SA) (hs : s.fine) (nm : List UInt8) (hnm : nm.length ≤ 1000) : Pure Tryd.prog 7 [stA s, .str nm] (resA (resolveM s nm)) := fun M => by
  refine enter7 _ _ ?_
  simp only [cc7]
  refine CWp.seq ?_
  refine CWp.reg tt_ok ?_
  simp only [go_sem, Nat.reduceAdd, Nat.reduceLeDiff, Nat.reduceMul, Nat.reduceSub, Nat.reduceEqDiff, stA, stC]
  repeat (first | refine CWp.seq ?_ | refine CWp.block ?_ | (refine CWp.ret ?_; try simp only [go_sem, Nat.reduceAdd, Nat.reduceLeDiff, Nat.reduceMul, Nat.reduceSub, Nat.reduceEqDiff]) | (refine CWp.skip ?_; try simp only [go_sem, Nat.reduceAdd, Nat.reduceLeDiff, Nat.reduceMul, Nat.reduceSub, Nat.reduceEqDiff]) | (refine CWp.reg tt_ok ?_; simp only [go_sem, Nat.reduceAdd, Nat.reduceLeDiff, Nat.reduceMul, Nat.reduceSub, Nat.reduceEqDiff]))
  refine COps.pure has23 rfl rfl (by simp) (fun _ => nameR_spec nm (by omega)) (evalC_sound tt_ok _ _ ?_)
  simp only [go_sem, Nat.reduceAdd, Nat.reduceLeDiff, Nat.reduceMul, Nat.reduceSub, Nat.reduceEqDiff]
  refine CWp.cond rfl ?_ ?_ <;> intro h0
  · repeat (first | refine CWp.seq ?_ | refine CWp.block ?_ | (refine CWp.ret ?_; try simp only [go_sem, Nat.reduceAdd, Nat.reduceLeDiff, Nat.reduceMul, Nat.reduceSub, Nat.reduceEqDiff]) | (refine CWp.skip ?_; try simp only [go_sem, Nat.reduceAdd, Nat.reduceLeDiff, Nat.reduceMul, Nat.reduceSub, Nat.reduceEqDiff]) | (refine CWp.reg tt_ok ?_; simp only [go_sem, Nat.reduceAdd, Nat.reduceLeDiff, Nat.reduceMul, Nat.reduceSub, Nat.reduceEqDiff]))
    refine Fin.ret2 (.inl rfl) rfl rfl rfl rfl (Mem.sub.refl _) ⟨?_, rfl⟩
    simp only [resolveM, h0, cond_true]; rfl
  · repeat (first | refine CWp.seq ?_ | refine CWp.block ?_ | (refine CWp.ret ?_; try simp only [go_sem, Nat.reduceAdd, Nat.reduceLeDiff, Nat.reduceMul, Nat.reduceSub, Nat.reduceEqDiff]) | (refine CWp.skip ?_; try simp only [go_sem, Nat.reduceAdd, Nat.reduceLeDiff, Nat.reduceMul, Nat.reduceSub, Nat.reduceEqDiff]) | (refine CWp.reg tt_ok ?_; simp only [go_sem, Nat.reduceAdd, Nat.reduceLeDiff, Nat.reduceMul, Nat.reduceSub, Nat.reduceEqDiff]))
    simp only [strs_len]
    refine CWp.loop (CLoop.junk (t := lp7_0 (.v (.str nm)) (.lptr 0 0) (.v (.int .i64 (s.ns.length : Int)))) (encl_loopR s hs nm hnm M _ s.ns.length (Nat.le_refl _) ?_ ?_) (by simp [Junked, lp7_0]))
    · intro x hx t h4 h5
      simp only [go_sem, Nat.reduceAdd, Nat.reduceLeDiff, Nat.reduceMul, Nat.reduceSub, Nat.reduceEqDiff]
      refine Fin.ret2 (.inl rfl) rfl rfl (by rw [h4]; rfl) (by rw [h5]; rfl) (Mem.sub.refl _) ⟨?_, rfl⟩
      simp only [resolveM, h0, hx, cond_false]; rfl
    · intro hx
      simp only [go_sem, Nat.reduceAdd, Nat.reduceLeDiff, Nat.reduceMul, Nat.reduceSub, Nat.reduceEqDiff, lp7_0]
      repeat (first | refine CWp.seq ?_ | refine CWp.block ?_ | (refine CWp.ret ?_; try simp only [go_sem, Nat.reduceAdd, Nat.reduceLeDiff, Nat.reduceMul, Nat.reduceSub, Nat.reduceEqDiff]) | (refine CWp.skip ?_; try simp only [go_sem, Nat.reduceAdd, Nat.reduceLeDiff, Nat.reduceMul, Nat.reduceSub, Nat.reduceEqDiff]) | (refine CWp.reg tt_ok ?_; simp only [go_sem, Nat.reduceAdd, Nat.reduceLeDiff, Nat.reduceMul, Nat.reduceSub, Nat.reduceEqDiff]))
      refine CWp.loop (CLoop.junk (t := lp7_1 (.v (.str nm)) (.lptr 0 0) (.v (.str [])) (.v (.int .i64 ((0 : Nat) : Int)))) (found_loopR s hs nm hnm M _ (s.opens.length + 1) 0 [] (by omega) (by omega) (by simp) ?_ ?_) (by simp [Junked, lp7_1]))
      · intro hf t h4 h5
        rw [List.drop_zero] at hf
        simp only [go_sem, Nat.reduceAdd, Nat.reduceLeDiff, Nat.reduceMul, Nat.reduceSub, Nat.reduceEqDiff]
        refine Fin.ret2 (.inl rfl) rfl rfl (by rw [h4]; rfl) (by rw [h5]; rfl) (Mem.sub.refl _) ⟨?_, rfl⟩
        simp only [resolveM, h0, hx, cond_false, hf, restM]; rfl
      · intro f hf
        rw [List.drop_zero] at hf
        simp only [go_sem, Nat.reduceAdd, Nat.reduceLeDiff, Nat.reduceMul, Nat.reduceSub, Nat.reduceEqDiff, lp7_1, stC]
        repeat (first | refine CWp.seq ?_ | refine CWp.block ?_ | (refine CWp.ret ?_; try simp only [go_sem, Nat.reduceAdd, Nat.reduceLeDiff, Nat.reduceMul, Nat.reduceSub, Nat.reduceEqDiff]) | (refine CWp.skip ?_; try simp only [go_sem, Nat.reduceAdd, Nat.reduceLeDiff, Nat.reduceMul, Nat.reduceSub, Nat.reduceEqDiff]) | (refine CWp.reg tt_ok ?_; simp only [go_sem, Nat.reduceAdd, Nat.reduceLeDiff, Nat.reduceMul, Nat.reduceSub, Nat.reduceEqDiff]))
        refine CWp.cond rfl ?_ ?_ <;> intro h1
        · repeat (first | refine CWp.seq ?_ | refine CWp.block ?_ | (refine CWp.ret ?_; try simp only [go_sem, Nat.reduceAdd, Nat.reduceLeDiff, Nat.reduceMul, Nat.reduceSub, Nat.reduceEqDiff]) | (refine CWp.skip ?_; try simp only [go_sem, Nat.reduceAdd, Nat.reduceLeDiff, Nat.reduceMul, Nat.reduceSub, Nat.reduceEqDiff]) | (refine CWp.reg tt_ok ?_; simp only [go_sem, Nat.reduceAdd, Nat.reduceLeDiff, Nat.reduceMul, Nat.reduceSub, Nat.reduceEqDiff]))
          refine Fin.ret2 (.inl rfl) rfl rfl rfl rfl (Mem.sub.refl _) ⟨?_, rfl⟩
          simp only [resolveM, h0, hx, cond_false, hf, restM, h1, cond_true]; rfl
        · repeat (first | refine CWp.seq ?_ | refine CWp.block ?_ | (refine CWp.ret ?_; try simp only [go_sem, Nat.reduceAdd, Nat.reduceLeDiff, Nat.reduceMul, Nat.reduceSub, Nat.reduceEqDiff]) | (refine CWp.skip ?_; try simp only [go_sem, Nat.reduceAdd, Nat.reduceLeDiff, Nat.reduceMul, Nat.reduceSub, Nat.reduceEqDiff]) | (refine CWp.reg tt_ok ?_; simp only [go_sem, Nat.reduceAdd, Nat.reduceLeDiff, Nat.reduceMul, Nat.reduceSub, Nat.reduceEqDiff]))
          have hd := declaredR_spec s hs.1 nm (by omega)
          simp only [stA, stC] at hd
          refine COps.pure has11 rfl rfl (by simp) (fun _ => hd) (evalC_sound tt_ok _ _ ?_)
          simp only [go_sem, Nat.reduceAdd, Nat.reduceLeDiff, Nat.reduceMul, Nat.reduceSub, Nat.reduceEqDiff]
          refine CWp.cond rfl ?_ ?_ <;> intro h2
          · repeat (first | refine CWp.seq ?_ | refine CWp.block ?_ | (refine CWp.ret ?_; try simp only [go_sem, Nat.reduceAdd, Nat.reduceLeDiff, Nat.reduceMul, Nat.reduceSub, Nat.reduceEqDiff]) | (refine CWp.skip ?_; try simp only [go_sem, Nat.reduceAdd, Nat.reduceLeDiff, Nat.reduceMul, Nat.reduceSub, Nat.reduceEqDiff]) | (refine CWp.reg tt_ok ?_; simp only [go_sem, Nat.reduceAdd, Nat.reduceLeDiff, Nat.reduceMul, Nat.reduceSub, Nat.reduceEqDiff]))
            refine Fin.ret2 (.inl rfl) rfl rfl rfl rfl (Mem.sub.refl _) ⟨?_, rfl⟩
            simp only [resolveM, h0, hx, cond_false, hf, restM, h1, h2, cond_true]; rfl
          · repeat (first | refine CWp.seq ?_ | refine CWp.block ?_ | (refine CWp.ret ?_; try simp only [go_sem, Nat.reduceAdd, Nat.reduceLeDiff, Nat.reduceMul, Nat.reduceSub, Nat.reduceEqDiff]) | (refine CWp.skip ?_; try simp only [go_sem, Nat.reduceAdd, Nat.reduceLeDiff, Nat.reduceMul, Nat.reduceSub, Nat.reduceEqDiff]) | (refine CWp.reg tt_ok ?_; simp only [go_sem, Nat.reduceAdd, Nat.reduceLeDiff, Nat.reduceMul, Nat.reduceSub, Nat.reduceEqDiff]))
            refine Fin.ret2 (.inl rfl) rfl rfl rfl rfl (Mem.sub.refl _) ⟨?_, rfl⟩
            simp only [resolveM, h0, hx, cond_false, hf, restM, h1, h2]; rfl
end Go.Proofs.ScA
