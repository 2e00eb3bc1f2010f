import Derived.Test.YtpephlhhdefdgaaDoorScL
set_option linter.unusedVariables false
set_option linter.unusedSimpArgs false
set_option maxRecDepth 100000
namespace Go.Proofs.ScA
open Go Go.Am Go.Proofs Go.RowKit
set_option linter.unusedSectionVars false

/-- No string or slice is longer than the model's bound. -/
def okL (n : Nat) : Prop := n ≤ 140737488355328
def okS (l : List (List UInt8)) : Prop := okL l.length ∧ ∀ x ∈ l, okL x.length

def shortM (l : List (List UInt8)) : Bool := decide (l.length ≤ 20) && !l.any fun x => decide (100 < x.length)

theorem short_spec (own : Own) (l : List (List UInt8)) (hl : okS l) : Pure Tryd.prog 14 [.sl own 1 (strs l)] (.bool (shortM l)) := fun M => by
  have h1 := hl.1
  unfold okL at h1
  refine enter14 _ ?_
  simp only [cc14]
  refine CWp.seq ?_
  refine CWp.reg tt_ok ?_
  simp only [go_sem, Nat.reduceAdd, Nat.reduceLeDiff, Nat.reduceMul, Nat.reduceSub, Nat.reduceEqDiff]
  refine CWp.seq ?_
  refine CWp.reg tt_ok ?_
  simp only [go_sem, Nat.reduceAdd, Nat.reduceLeDiff, Nat.reduceMul, Nat.reduceSub, Nat.reduceEqDiff, strs_len]
  have hk : decide ((l.length : Int) ≤ 20) = decide (l.length ≤ 20) := decide_eq_decide.2 (by omega)
  simp only [hk]
  have hp : ∀ M, decide (l.length ≤ 20) = true → ACalls Tryd.prog 15 [.sl own 1 (strs l), .fn (.func 32) [] []] M fun e M' => e = .ret (.bool (l.any fun x => decide (100 < x.length))) ∧ M' = M := fun M h => by
    have h : l.length ≤ 20 := of_decide_eq_true h
    exact containsF_spec own l 32 [] _ (by omega) M ⟨has32, fun x hx => long_spec x (hl.2 x hx) M⟩
  refine COps.pure has15 rfl rfl (by simp) (fun hg M => hp M (by simpa using hg)) (evalC_sound tt_ok _ _ ?_)
  simp only [go_sem, Nat.reduceAdd, Nat.reduceLeDiff, Nat.reduceMul, Nat.reduceSub, Nat.reduceEqDiff]
  repeat (with_reducible refine And.intro (by first | exact True.intro | assumption | omega | (intros; omega) | (intro hg; simp only [Bool.and_eq_true, Bool.or_eq_true, decide_eq_true_eq, Bool.not_eq_true', decide_eq_false_iff_not] at hg; omega) | (simp only [decide_eq_true_eq, Bool.and_eq_true, Bool.or_eq_true, Bool.not_eq_true', decide_eq_false_iff_not]; omega) | (intros; simp_all; done) | (intros; simp_all; omega)) ?_)
  repeat (first | refine CWp.seq ?_ | refine CWp.block ?_ | (refine CWp.ret ?_; try simp only [go_sem, Nat.reduceAdd, Nat.reduceLeDiff, Nat.reduceMul, Nat.reduceSub, Nat.reduceEqDiff]) | (refine CWp.skip ?_; try simp only [go_sem, Nat.reduceAdd, Nat.reduceLeDiff, Nat.reduceMul, Nat.reduceSub, Nat.reduceEqDiff]) | (refine CWp.reg tt_ok ?_; simp only [go_sem, Nat.reduceAdd, Nat.reduceLeDiff, Nat.reduceMul, Nat.reduceSub, Nat.reduceEqDiff]))
  exact Fin.ret1 (.inl rfl) rfl rfl rfl (Mem.sub.refl _) ⟨rfl, rfl⟩

def smallD (d : DA) : Bool := !(decide (100 < d.name.length) || decide (8 < d.ctors.length) || decide (8 < d.funs.length)) && (!d.ctors.any (fun c => decide (100 < c.name.length)) && !d.funs.any (fun c => decide (100 < c.name.length)))
def okD (d : DA) : Prop := okL d.name.length ∧ okL d.ctors.length ∧ okL d.funs.length ∧ (∀ c ∈ d.ctors, okL c.name.length) ∧ ∀ c ∈ d.funs, okL c.name.length
def okSt (s : SA) : Prop := okL s.env.length ∧ (∀ d ∈ s.env, okD d) ∧ okS s.ns ∧ okS s.opens ∧ okS s.classes ∧ okS s.insts
def fewM (s : SA) : Bool := s.env.all smallD && ((((((decide (s.env.length ≤ 30) && shortM s.ns) && decide (s.opens.length ≤ 101)) && !s.opens.any (fun x => decide (100 < x.length))) && shortM s.classes) && shortM s.insts))

theorem loc_n {α : Type} {L : List α} {x y : α} {k : Nat} (h : L[k]? = some y) : (L ++ [x])[k]? = some y := by
  have := (List.getElem?_eq_some_iff.1 h).1
  rw [List.getElem?_append_left this]; exact h

theorem few_loop1 (s : SA) (d : DA) (hd : okD d) (h8 : d.ctors.length ≤ 8) (x10 x11 x12 : TV) (m : Nat) (M : Mem) (Q : AExit → St → Prop) : ∀ (n i : Nat) (L : List (Option (List TV))), d.ctors.length - i < n → i ≤ d.ctors.length → L[0]? = some (some ((stC s).map .v)) → L[m]? = some (some ((declC d).map .v)) →
    ((d.ctors.drop i).any (fun c => decide (100 < c.name.length)) = true → ∀ t L', t[2]? = some (.v (.bool false)) → Q .ret { tmps := t, loc := L', rows := [], defs := [], M := M }) →
    ((d.ctors.drop i).any (fun c => decide (100 < c.name.length)) = false → ∀ L' : List (Option (List TV)), L'[0]? = some (some ((stC s).map .v)) → L'[m]? = some (some ((declC d).map .v)) → Q (.exit 2) { tmps := lp4_1 (.lptr 0 0) (.lptr m 0) x10 x11 x12 (.v (.sl d.oc 6 (d.ctors.map ctorA))) (.v (.int .i64 (d.ctors.length : Int))) (.v (.int .i64 (d.ctors.length : Int))), loc := L', rows := [], defs := [], M := M }) →
    CLoop none Tryd.prog tt esc4 cc4_l1 Q { tmps := lp4_1 (.lptr 0 0) (.lptr m 0) x10 x11 x12 (.v (.sl d.oc 6 (d.ctors.map ctorA))) (.v (.int .i64 (d.ctors.length : Int))) (.v (.int .i64 (i : Int))), loc := L, rows := [], defs := [], M := M } := by
  intro n
  induction n with
  | zero => intro i L h0 h1 hL0 hLm hQ1 hQ2; omega
  | succ n ih =>
    intro i L h0 h1 hL0 hLm hQ1 hQ2
    refine CLoop.unroll ?_
    generalize hK : CLoop none Tryd.prog tt esc4 cc4_l1 Q = K
    simp only [cc4_l1, lp4_1]
    repeat (first | refine CWp.seq ?_ | refine CWp.block ?_ | (refine CWp.ret ?_; try simp only [go_sem, Nat.reduceAdd, Nat.reduceLeDiff, Nat.reduceMul, Nat.reduceSub, Nat.reduceEqDiff]) | (refine CWp.skip ?_; try simp only [go_sem, Nat.reduceAdd, Nat.reduceLeDiff, Nat.reduceMul, Nat.reduceSub, Nat.reduceEqDiff]) | (refine CWp.reg tt_ok ?_; simp only [go_sem, Nat.reduceAdd, Nat.reduceLeDiff, Nat.reduceMul, Nat.reduceSub, Nat.reduceEqDiff]))
    refine CWp.cond rfl ?_ ?_ <;> intro hc
    · have hi : i < d.ctors.length := by simpa using hc
      have hx := map_at ctorA d.ctors i hi
      have hlen : (d.ctors.map ctorA).length = d.ctors.length := by simp
      have hb := hd.2.2.2.1 d.ctors[i] (List.getElem_mem hi)
      unfold okL at hb
      rw [List.drop_eq_getElem_cons hi] at hQ1 hQ2
      simp only [List.any_cons] at hQ1 hQ2
      refine CWp.skip ?_
      simp only [go_sem, Nat.reduceAdd, Nat.reduceLeDiff, Nat.reduceMul, Nat.reduceSub, Nat.reduceEqDiff]
      refine CWp.seq ?_
      refine CWp.block ?_
      refine CWp.seq ?_
      refine CWp.reg tt_ok ?_
      simp only [go_sem, Nat.reduceAdd, Nat.reduceLeDiff, Nat.reduceMul, Nat.reduceSub, Nat.reduceEqDiff, hx, hlen, ctorA, ctorC, loc_app, loc_set]
      repeat (with_reducible refine And.intro (by first | exact True.intro | assumption | omega | (intros; omega) | (intro hg; simp only [Bool.and_eq_true, Bool.or_eq_true, decide_eq_true_eq, Bool.not_eq_true', decide_eq_false_iff_not] at hg; omega) | (simp only [decide_eq_true_eq, Bool.and_eq_true, Bool.or_eq_true, Bool.not_eq_true', decide_eq_false_iff_not]; omega) | (intros; simp_all; done) | (intros; simp_all; omega)) ?_)
      refine CWp.seq ?_
      refine CWp.reg tt_ok ?_
      simp only [go_sem, Nat.reduceAdd, Nat.reduceLeDiff, Nat.reduceMul, Nat.reduceSub, Nat.reduceEqDiff, loc_app, loc_set]
      have hk : decide ((100 : Int) < (d.ctors[i].name.length : Int)) = decide (100 < d.ctors[i].name.length) := decide_eq_decide.2 (by omega)
      simp only [hk]
      refine CWp.cond rfl ?_ ?_ <;> intro hc2
      · repeat (first | refine CWp.seq ?_ | refine CWp.block ?_ | (refine CWp.ret ?_; try simp only [go_sem, Nat.reduceAdd, Nat.reduceLeDiff, Nat.reduceMul, Nat.reduceSub, Nat.reduceEqDiff]) | (refine CWp.skip ?_; try simp only [go_sem, Nat.reduceAdd, Nat.reduceLeDiff, Nat.reduceMul, Nat.reduceSub, Nat.reduceEqDiff]) | (refine CWp.reg tt_ok ?_; simp only [go_sem, Nat.reduceAdd, Nat.reduceLeDiff, Nat.reduceMul, Nat.reduceSub, Nat.reduceEqDiff]))
        exact hQ1 (by rw [hc2]; rfl) _ _ rfl
      · rw [hc2] at hQ1 hQ2
        simp only [Bool.false_or] at hQ1 hQ2
        repeat (first | refine CWp.seq ?_ | refine CWp.block ?_ | (refine CWp.ret ?_; try simp only [go_sem, Nat.reduceAdd, Nat.reduceLeDiff, Nat.reduceMul, Nat.reduceSub, Nat.reduceEqDiff]) | (refine CWp.skip ?_; try simp only [go_sem, Nat.reduceAdd, Nat.reduceLeDiff, Nat.reduceMul, Nat.reduceSub, Nat.reduceEqDiff]) | (refine CWp.reg tt_ok ?_; simp only [go_sem, Nat.reduceAdd, Nat.reduceLeDiff, Nat.reduceMul, Nat.reduceSub, Nat.reduceEqDiff]))
        repeat (with_reducible refine And.intro (by first | exact True.intro | assumption | omega | (intros; omega) | (intro hg; simp only [Bool.and_eq_true, Bool.or_eq_true, decide_eq_true_eq, Bool.not_eq_true', decide_eq_false_iff_not] at hg; omega) | (simp only [decide_eq_true_eq, Bool.and_eq_true, Bool.or_eq_true, Bool.not_eq_true', decide_eq_false_iff_not]; omega) | (intros; simp_all; done) | (intros; simp_all; omega)) ?_)
        rw [← hK]
        exact CLoop.junk (t := lp4_1 (.lptr 0 0) (.lptr m 0) x10 x11 x12 (.v (.sl d.oc 6 (d.ctors.map ctorA))) (.v (.int .i64 (d.ctors.length : Int))) (.v (.int .i64 ((i + 1 : Nat) : Int)))) (ih (i + 1) _ (by omega) (by omega) (loc_n hL0) (loc_n hLm) hQ1 hQ2) (by simp [Junked, lp4_1])
    · have hi : i = d.ctors.length := by simp at hc; omega
      subst hi
      exact CWp.junk (t := lp4_1 (.lptr 0 0) (.lptr m 0) x10 x11 x12 (.v (.sl d.oc 6 (d.ctors.map ctorA))) (.v (.int .i64 (d.ctors.length : Int))) (.v (.int .i64 (d.ctors.length : Int)))) (CWp.exit (hQ2 (by simp) L hL0 hLm)) (by simp [Junked, lp4_1])

theorem few_loop2 (s : SA) (d : DA) (hd : okD d) (h8 : d.funs.length ≤ 8) (x10 x11 x12 : TV) (M : Mem) (Q : AExit → St → Prop) : ∀ (n i : Nat) (L : List (Option (List TV))), d.funs.length - i < n → i ≤ d.funs.length → L[0]? = some (some ((stC s).map .v)) →
    ((d.funs.drop i).any (fun c => decide (100 < c.name.length)) = true → ∀ t L', t[2]? = some (.v (.bool false)) → Q .ret { tmps := t, loc := L', rows := [], defs := [], M := M }) →
    ((d.funs.drop i).any (fun c => decide (100 < c.name.length)) = false → ∀ L' : List (Option (List TV)), L'[0]? = some (some ((stC s).map .v)) → Q (.exit 4) { tmps := lp4_2 (.lptr 0 0) x10 x11 x12 (.v (.sl d.ofn 15 (d.funs.map funA))) (.v (.int .i64 (d.funs.length : Int))) (.v (.int .i64 (d.funs.length : Int))), loc := L', rows := [], defs := [], M := M }) →
    CLoop none Tryd.prog tt esc4 cc4_l2 Q { tmps := lp4_2 (.lptr 0 0) x10 x11 x12 (.v (.sl d.ofn 15 (d.funs.map funA))) (.v (.int .i64 (d.funs.length : Int))) (.v (.int .i64 (i : Int))), loc := L, rows := [], defs := [], M := M } := by
  intro n
  induction n with
  | zero => intro i L h0 h1 hL0 hQ1 hQ2; omega
  | succ n ih =>
    intro i L h0 h1 hL0 hQ1 hQ2
    refine CLoop.unroll ?_
    generalize hK : CLoop none Tryd.prog tt esc4 cc4_l2 Q = K
    simp only [cc4_l2, lp4_2]
    repeat (first | refine CWp.seq ?_ | refine CWp.block ?_ | (refine CWp.ret ?_; try simp only [go_sem, Nat.reduceAdd, Nat.reduceLeDiff, Nat.reduceMul, Nat.reduceSub, Nat.reduceEqDiff]) | (refine CWp.skip ?_; try simp only [go_sem, Nat.reduceAdd, Nat.reduceLeDiff, Nat.reduceMul, Nat.reduceSub, Nat.reduceEqDiff]) | (refine CWp.reg tt_ok ?_; simp only [go_sem, Nat.reduceAdd, Nat.reduceLeDiff, Nat.reduceMul, Nat.reduceSub, Nat.reduceEqDiff]))
    refine CWp.cond rfl ?_ ?_ <;> intro hc
    · have hi : i < d.funs.length := by simpa using hc
      have hx := map_at funA d.funs i hi
      have hlen : (d.funs.map funA).length = d.funs.length := by simp
      have hb := hd.2.2.2.2 d.funs[i] (List.getElem_mem hi)
      unfold okL at hb
      rw [List.drop_eq_getElem_cons hi] at hQ1 hQ2
      simp only [List.any_cons] at hQ1 hQ2
      refine CWp.skip ?_
      simp only [go_sem, Nat.reduceAdd, Nat.reduceLeDiff, Nat.reduceMul, Nat.reduceSub, Nat.reduceEqDiff]
      refine CWp.seq ?_
      refine CWp.block ?_
      refine CWp.seq ?_
      refine CWp.reg tt_ok ?_
      simp only [go_sem, Nat.reduceAdd, Nat.reduceLeDiff, Nat.reduceMul, Nat.reduceSub, Nat.reduceEqDiff, hx, hlen, funA, funC, loc_app, loc_set]
      repeat (with_reducible refine And.intro (by first | exact True.intro | assumption | omega | (intros; omega) | (intro hg; simp only [Bool.and_eq_true, Bool.or_eq_true, decide_eq_true_eq, Bool.not_eq_true', decide_eq_false_iff_not] at hg; omega) | (simp only [decide_eq_true_eq, Bool.and_eq_true, Bool.or_eq_true, Bool.not_eq_true', decide_eq_false_iff_not]; omega) | (intros; simp_all; done) | (intros; simp_all; omega)) ?_)
      refine CWp.seq ?_
      refine CWp.reg tt_ok ?_
      simp only [go_sem, Nat.reduceAdd, Nat.reduceLeDiff, Nat.reduceMul, Nat.reduceSub, Nat.reduceEqDiff, loc_app, loc_set]
      have hk : decide ((100 : Int) < (d.funs[i].name.length : Int)) = decide (100 < d.funs[i].name.length) := decide_eq_decide.2 (by omega)
      simp only [hk]
      refine CWp.cond rfl ?_ ?_ <;> intro hc2
      · repeat (first | refine CWp.seq ?_ | refine CWp.block ?_ | (refine CWp.ret ?_; try simp only [go_sem, Nat.reduceAdd, Nat.reduceLeDiff, Nat.reduceMul, Nat.reduceSub, Nat.reduceEqDiff]) | (refine CWp.skip ?_; try simp only [go_sem, Nat.reduceAdd, Nat.reduceLeDiff, Nat.reduceMul, Nat.reduceSub, Nat.reduceEqDiff]) | (refine CWp.reg tt_ok ?_; simp only [go_sem, Nat.reduceAdd, Nat.reduceLeDiff, Nat.reduceMul, Nat.reduceSub, Nat.reduceEqDiff]))
        exact hQ1 (by rw [hc2]; rfl) _ _ rfl
      · rw [hc2] at hQ1 hQ2
        simp only [Bool.false_or] at hQ1 hQ2
        repeat (first | refine CWp.seq ?_ | refine CWp.block ?_ | (refine CWp.ret ?_; try simp only [go_sem, Nat.reduceAdd, Nat.reduceLeDiff, Nat.reduceMul, Nat.reduceSub, Nat.reduceEqDiff]) | (refine CWp.skip ?_; try simp only [go_sem, Nat.reduceAdd, Nat.reduceLeDiff, Nat.reduceMul, Nat.reduceSub, Nat.reduceEqDiff]) | (refine CWp.reg tt_ok ?_; simp only [go_sem, Nat.reduceAdd, Nat.reduceLeDiff, Nat.reduceMul, Nat.reduceSub, Nat.reduceEqDiff]))
        repeat (with_reducible refine And.intro (by first | exact True.intro | assumption | omega | (intros; omega) | (intro hg; simp only [Bool.and_eq_true, Bool.or_eq_true, decide_eq_true_eq, Bool.not_eq_true', decide_eq_false_iff_not] at hg; omega) | (simp only [decide_eq_true_eq, Bool.and_eq_true, Bool.or_eq_true, Bool.not_eq_true', decide_eq_false_iff_not]; omega) | (intros; simp_all; done) | (intros; simp_all; omega)) ?_)
        rw [← hK]
        exact CLoop.junk (t := lp4_2 (.lptr 0 0) x10 x11 x12 (.v (.sl d.ofn 15 (d.funs.map funA))) (.v (.int .i64 (d.funs.length : Int))) (.v (.int .i64 ((i + 1 : Nat) : Int)))) (ih (i + 1) _ (by omega) (by omega) (loc_n hL0) hQ1 hQ2) (by simp [Junked, lp4_2])
    · have hi : i = d.funs.length := by simp at hc; omega
      subst hi
      exact CWp.junk (t := lp4_2 (.lptr 0 0) x10 x11 x12 (.v (.sl d.ofn 15 (d.funs.map funA))) (.v (.int .i64 (d.funs.length : Int))) (.v (.int .i64 (d.funs.length : Int)))) (CWp.exit (hQ2 (by simp) L hL0)) (by simp [Junked, lp4_2])

theorem few_loop0 (s : SA) (hs : okSt s) (M : Mem) (Q : AExit → St → Prop) : ∀ (n i : Nat) (L : List (Option (List TV))), s.env.length - i < n → i ≤ s.env.length → L[0]? = some (some ((stC s).map .v)) →
    ((s.env.drop i).all smallD = false → ∀ t L', t[2]? = some (.v (.bool false)) → Q .ret { tmps := t, loc := L', rows := [], defs := [], M := M }) →
    ((s.env.drop i).all smallD = true → ∀ L' : List (Option (List TV)), L'[0]? = some (some ((stC s).map .v)) → Q (.exit 0) { tmps := lp4_0 (.lptr 0 0) (.v (.sl s.o0 23 (s.env.map declA))) (.v (.int .i64 (s.env.length : Int))) (.v (.int .i64 (s.env.length : Int))), loc := L', rows := [], defs := [], M := M }) →
    CLoop none Tryd.prog tt esc4 cc4_l0 Q { tmps := lp4_0 (.lptr 0 0) (.v (.sl s.o0 23 (s.env.map declA))) (.v (.int .i64 (s.env.length : Int))) (.v (.int .i64 (i : Int))), loc := L, rows := [], defs := [], M := M } := by
  intro n
  induction n with
  | zero => intro i L h0 h1 hL0 hQ1 hQ2; omega
  | succ n ih =>
    intro i L h0 h1 hL0 hQ1 hQ2
    refine CLoop.unroll ?_
    generalize hK : CLoop none Tryd.prog tt esc4 cc4_l0 Q = K
    simp only [cc4_l0, lp4_0]
    have he := hs.1
    unfold okL at he
    repeat (first | refine CWp.seq ?_ | refine CWp.block ?_ | (refine CWp.ret ?_; try simp only [go_sem, Nat.reduceAdd, Nat.reduceLeDiff, Nat.reduceMul, Nat.reduceSub, Nat.reduceEqDiff]) | (refine CWp.skip ?_; try simp only [go_sem, Nat.reduceAdd, Nat.reduceLeDiff, Nat.reduceMul, Nat.reduceSub, Nat.reduceEqDiff]) | (refine CWp.reg tt_ok ?_; simp only [go_sem, Nat.reduceAdd, Nat.reduceLeDiff, Nat.reduceMul, Nat.reduceSub, Nat.reduceEqDiff]))
    refine CWp.cond rfl ?_ ?_ <;> intro hc
    · have hi : i < s.env.length := by simpa using hc
      have hx := map_at declA s.env i hi
      have hlen : (s.env.map declA).length = s.env.length := by simp
      have hd := hs.2.1 s.env[i] (List.getElem_mem hi)
      rw [List.drop_eq_getElem_cons hi] at hQ1 hQ2
      simp only [List.all_cons] at hQ1 hQ2
      generalize hdd : s.env[i] = d at *
      have q1 := hd.1
      have q2 := hd.2.1
      have q3 := hd.2.2.1
      unfold okL at q1 q2 q3
      refine CWp.skip ?_
      simp only [go_sem, Nat.reduceAdd, Nat.reduceLeDiff, Nat.reduceMul, Nat.reduceSub, Nat.reduceEqDiff]
      refine CWp.seq ?_
      refine CWp.block ?_
      refine CWp.seq ?_
      refine CWp.reg tt_ok ?_
      simp only [go_sem, Nat.reduceAdd, Nat.reduceLeDiff, Nat.reduceMul, Nat.reduceSub, Nat.reduceEqDiff, hx, hlen, declA, declC, loc_app, loc_set]
      repeat (with_reducible refine And.intro (by first | exact True.intro | assumption | omega | (intros; omega) | (intro hg; simp only [Bool.and_eq_true, Bool.or_eq_true, decide_eq_true_eq, Bool.not_eq_true', decide_eq_false_iff_not] at hg; omega) | (simp only [decide_eq_true_eq, Bool.and_eq_true, Bool.or_eq_true, Bool.not_eq_true', decide_eq_false_iff_not]; omega) | (intros; simp_all; done) | (intros; simp_all; omega)) ?_)
      refine CWp.seq ?_
      refine CWp.seq ?_
      refine CWp.reg tt_ok ?_
      simp only [go_sem, Nat.reduceAdd, Nat.reduceLeDiff, Nat.reduceMul, Nat.reduceSub, Nat.reduceEqDiff, loc_app, loc_set]
      repeat (with_reducible refine And.intro (by first | exact True.intro | assumption | omega | (intros; omega) | (intro hg; simp only [Bool.and_eq_true, Bool.or_eq_true, decide_eq_true_eq, Bool.not_eq_true', decide_eq_false_iff_not] at hg; omega) | (simp only [decide_eq_true_eq, Bool.and_eq_true, Bool.or_eq_true, Bool.not_eq_true', decide_eq_false_iff_not]; omega) | (intros; simp_all; done) | (intros; simp_all; omega)) ?_)
      have hl1 : (d.ctors.map ctorA).length = d.ctors.length := by simp
      have hl2 : (d.funs.map funA).length = d.funs.length := by simp
      simp only [hl1, hl2]
      have hk : ((decide ((100 : Int) < (d.name.length : Int)) || decide ((8 : Int) < (d.ctors.length : Int))) || decide ((8 : Int) < (d.funs.length : Int))) = ((decide (100 < d.name.length) || decide (8 < d.ctors.length)) || decide (8 < d.funs.length)) := by
        congr 1
        · congr 1
          · exact decide_eq_decide.2 (by omega)
          · exact decide_eq_decide.2 (by omega)
        · exact decide_eq_decide.2 (by omega)
      simp only [hk]
      refine CWp.cond rfl ?_ ?_ <;> intro hc2
      · have e : smallD d = false := by simp only [smallD, hc2, Bool.not_true, Bool.false_and]
        repeat (first | refine CWp.seq ?_ | refine CWp.block ?_ | (refine CWp.ret ?_; try simp only [go_sem, Nat.reduceAdd, Nat.reduceLeDiff, Nat.reduceMul, Nat.reduceSub, Nat.reduceEqDiff]) | (refine CWp.skip ?_; try simp only [go_sem, Nat.reduceAdd, Nat.reduceLeDiff, Nat.reduceMul, Nat.reduceSub, Nat.reduceEqDiff]) | (refine CWp.reg tt_ok ?_; simp only [go_sem, Nat.reduceAdd, Nat.reduceLeDiff, Nat.reduceMul, Nat.reduceSub, Nat.reduceEqDiff]))
        exact hQ1 (by rw [e]; rfl) _ _ rfl
      · have e : smallD d = (!d.ctors.any (fun c => decide (100 < c.name.length)) && !d.funs.any (fun c => decide (100 < c.name.length))) := by simp only [smallD, hc2, Bool.not_false, Bool.true_and]
        rw [e] at hQ1 hQ2
        have hc8 : d.ctors.length ≤ 8 ∧ d.funs.length ≤ 8 := by
          simp only [Bool.or_eq_false_iff, decide_eq_false_iff_not] at hc2
          omega
        refine CWp.skip ?_
        simp only [go_sem, Nat.reduceAdd, Nat.reduceLeDiff, Nat.reduceMul, Nat.reduceSub, Nat.reduceEqDiff]
        refine CWp.seq ?_
        refine CWp.seq ?_
        refine CWp.reg tt_ok ?_
        simp only [go_sem, Nat.reduceAdd, Nat.reduceLeDiff, Nat.reduceMul, Nat.reduceSub, Nat.reduceEqDiff, loc_app, loc_set, hl1]
        refine CWp.block ?_
        refine CWp.loop (CLoop.junk (t := lp4_1 (.lptr 0 0) (.lptr L.length 0) (.v (.sl s.o0 23 (s.env.map declA))) (.v (.int .i64 (s.env.length : Int))) (.v (.int .i64 (i : Int))) (.v (.sl d.oc 6 (d.ctors.map ctorA))) (.v (.int .i64 (d.ctors.length : Int))) (.v (.int .i64 ((0 : Nat) : Int)))) (few_loop1 s d hd hc8.1 _ _ _ L.length M _ (d.ctors.length + 1) 0 _ (by omega) (by omega) (loc_0 hL0) (by rw [loc_app]; rfl) ?_ ?_) (by simp [Junked, lp4_1]))
        · intro ha t L' ht
          rw [List.drop_zero] at ha
          rw [ha] at hQ1
          simp only [go_sem, Nat.reduceAdd, Nat.reduceLeDiff, Nat.reduceMul, Nat.reduceSub, Nat.reduceEqDiff]
          exact hQ1 rfl t L' ht
        · intro ha L' hL0' hLm'
          rw [List.drop_zero] at ha
          rw [ha] at hQ1 hQ2
          simp only [Bool.not_false, Bool.true_and] at hQ1 hQ2
          simp only [declC, List.map_cons, List.map_nil] at hLm'
          simp only [go_sem, Nat.reduceAdd, Nat.reduceLeDiff, Nat.reduceMul, Nat.reduceSub, Nat.reduceEqDiff, lp4_1]
          refine CWp.seq ?_
          refine CWp.reg tt_ok ?_
          simp only [go_sem, Nat.reduceAdd, Nat.reduceLeDiff, Nat.reduceMul, Nat.reduceSub, Nat.reduceEqDiff, hLm', hl2]
          refine CWp.block ?_
          refine CWp.loop (CLoop.junk (t := lp4_2 (.lptr 0 0) (.v (.sl s.o0 23 (s.env.map declA))) (.v (.int .i64 (s.env.length : Int))) (.v (.int .i64 (i : Int))) (.v (.sl d.ofn 15 (d.funs.map funA))) (.v (.int .i64 (d.funs.length : Int))) (.v (.int .i64 ((0 : Nat) : Int)))) (few_loop2 s d hd hc8.2 _ _ _ M _ (d.funs.length + 1) 0 L' (by omega) (by omega) hL0' ?_ ?_) (by simp [Junked, lp4_2]))
          · intro hb t L2 ht
            rw [List.drop_zero] at hb
            rw [hb] at hQ1
            simp only [go_sem, Nat.reduceAdd, Nat.reduceLeDiff, Nat.reduceMul, Nat.reduceSub, Nat.reduceEqDiff]
            exact hQ1 rfl t L2 ht
          · intro hb L2 hL2
            rw [List.drop_zero] at hb
            rw [hb] at hQ1 hQ2
            simp only [Bool.not_false, Bool.true_and] at hQ1 hQ2
            simp only [go_sem, Nat.reduceAdd, Nat.reduceLeDiff, Nat.reduceMul, Nat.reduceSub, Nat.reduceEqDiff, lp4_2]
            repeat (first | refine CWp.seq ?_ | refine CWp.block ?_ | (refine CWp.ret ?_; try simp only [go_sem, Nat.reduceAdd, Nat.reduceLeDiff, Nat.reduceMul, Nat.reduceSub, Nat.reduceEqDiff]) | (refine CWp.skip ?_; try simp only [go_sem, Nat.reduceAdd, Nat.reduceLeDiff, Nat.reduceMul, Nat.reduceSub, Nat.reduceEqDiff]) | (refine CWp.reg tt_ok ?_; simp only [go_sem, Nat.reduceAdd, Nat.reduceLeDiff, Nat.reduceMul, Nat.reduceSub, Nat.reduceEqDiff]))
            repeat (with_reducible refine And.intro (by first | exact True.intro | assumption | omega | (intros; omega) | (intro hg; simp only [Bool.and_eq_true, Bool.or_eq_true, decide_eq_true_eq, Bool.not_eq_true', decide_eq_false_iff_not] at hg; omega) | (simp only [decide_eq_true_eq, Bool.and_eq_true, Bool.or_eq_true, Bool.not_eq_true', decide_eq_false_iff_not]; omega) | (intros; simp_all; done) | (intros; simp_all; omega)) ?_)
            rw [← hK]
            exact CLoop.junk (t := lp4_0 (.lptr 0 0) (.v (.sl s.o0 23 (s.env.map declA))) (.v (.int .i64 (s.env.length : Int))) (.v (.int .i64 ((i + 1 : Nat) : Int)))) (ih (i + 1) _ (by omega) (by omega) hL2 hQ1 hQ2) (by simp [Junked, lp4_0])
    · have hi : i = s.env.length := by simp at hc; omega
      subst hi
      exact CWp.junk (t := lp4_0 (.lptr 0 0) (.v (.sl s.o0 23 (s.env.map declA))) (.v (.int .i64 (s.env.length : Int))) (.v (.int .i64 (s.env.length : Int)))) (CWp.exit (hQ2 (by simp) L hL0)) (by simp [Junked, lp4_0])

theorem few_spec (s : SA) (hs : okSt s) : Pure Tryd.prog 4 [stA s] (.bool (fewM s)) := fun M => by
  have he := hs.1
  have hop := hs.2.2.2.1.1
  unfold okL at he hop
  refine enter4 _ ?_
  simp only [cc4]
  refine CWp.seq ?_
  refine CWp.reg tt_ok ?_
  simp only [go_sem, Nat.reduceAdd, Nat.reduceLeDiff, Nat.reduceMul, Nat.reduceSub, Nat.reduceEqDiff, stA, stC]
  refine CWp.seq ?_
  refine CWp.seq ?_
  refine CWp.reg tt_ok ?_
  simp only [go_sem, Nat.reduceAdd, Nat.reduceLeDiff, Nat.reduceMul, Nat.reduceSub, Nat.reduceEqDiff]
  have hl1 : (s.env.map declA).length = s.env.length := by simp
  simp only [hl1]
  refine CWp.block ?_
  refine CWp.loop (CLoop.junk (t := lp4_0 (.lptr 0 0) (.v (.sl s.o0 23 (s.env.map declA))) (.v (.int .i64 (s.env.length : Int))) (.v (.int .i64 ((0 : Nat) : Int)))) (few_loop0 s hs M _ (s.env.length + 1) 0 _ (by omega) (by omega) rfl ?_ ?_) (by simp [Junked, lp4_0]))
  · intro h t L' ht
    rw [List.drop_zero] at h
    simp only [go_sem, Nat.reduceAdd, Nat.reduceLeDiff, Nat.reduceMul, Nat.reduceSub, Nat.reduceEqDiff]
    exact Fin.ret1 (.inl rfl) rfl rfl (by rw [ht]; rfl) (Mem.sub.refl _) ⟨by simp only [fewM, h, Bool.false_and], rfl⟩
  · intro h L' hL'
    rw [List.drop_zero] at h
    simp only [stC, List.map_cons, List.map_nil] at hL'
    simp only [go_sem, Nat.reduceAdd, Nat.reduceLeDiff, Nat.reduceMul, Nat.reduceSub, Nat.reduceEqDiff, lp4_0]
    have hk1 : decide ((s.env.length : Int) ≤ 30) = decide (s.env.length ≤ 30) := decide_eq_decide.2 (by omega)
    have hk2 : decide ((s.opens.length : Int) ≤ 101) = decide (s.opens.length ≤ 101) := decide_eq_decide.2 (by omega)
    refine CWp.seq ?_
    refine CWp.reg tt_ok ?_
    simp only [go_sem, Nat.reduceAdd, Nat.reduceLeDiff, Nat.reduceMul, Nat.reduceSub, Nat.reduceEqDiff, hL', hl1, hk1]
    refine COps.pure has14 rfl rfl (by simp) (fun _ => short_spec s.o5 s.ns hs.2.2.1) (evalC_sound tt_ok _ _ ?_)
    simp only [go_sem, Nat.reduceAdd, Nat.reduceLeDiff, Nat.reduceMul, Nat.reduceSub, Nat.reduceEqDiff, hL', strs_len, hk2]
    have hp : ∀ M, decide (s.opens.length ≤ 101) = true → ACalls Tryd.prog 15 [.sl s.o6 1 (strs s.opens), .fn (.func 16) [] []] M fun e M' => e = .ret (.bool (s.opens.any fun x => decide (100 < x.length))) ∧ M' = M := fun M h => by
      have h : s.opens.length ≤ 101 := of_decide_eq_true h
      exact containsF_spec s.o6 s.opens 16 [] _ (by omega) M ⟨has16, fun x hx => long2_spec x (hs.2.2.2.1.2 x hx) M⟩
    refine COps.pure has15 rfl rfl (by simp) (fun hg M => hp M ?_) (evalC_sound tt_ok _ _ ?_)
    · revert hg
      cases decide (s.opens.length ≤ 101) <;> simp
    simp only [go_sem, Nat.reduceAdd, Nat.reduceLeDiff, Nat.reduceMul, Nat.reduceSub, Nat.reduceEqDiff, hL', strs_len]
    refine COps.pure has14 rfl rfl (by simp) (fun _ => short_spec s.o2 s.classes hs.2.2.2.2.1) (evalC_sound tt_ok _ _ ?_)
    simp only [go_sem, Nat.reduceAdd, Nat.reduceLeDiff, Nat.reduceMul, Nat.reduceSub, Nat.reduceEqDiff, hL', strs_len]
    refine COps.pure has14 rfl rfl (by simp) (fun _ => short_spec s.o3 s.insts hs.2.2.2.2.2) (evalC_sound tt_ok _ _ ?_)
    simp only [go_sem, Nat.reduceAdd, Nat.reduceLeDiff, Nat.reduceMul, Nat.reduceSub, Nat.reduceEqDiff, hL', strs_len]
    try repeat (with_reducible refine And.intro (by first | exact True.intro | assumption | omega | (intros; omega) | (intro hg; simp only [Bool.and_eq_true, Bool.or_eq_true, decide_eq_true_eq, Bool.not_eq_true', decide_eq_false_iff_not] at hg; omega) | (simp only [decide_eq_true_eq, Bool.and_eq_true, Bool.or_eq_true, Bool.not_eq_true', decide_eq_false_iff_not]; omega) | (intros; simp_all; done) | (intros; simp_all; omega)) ?_)
    repeat (first | refine CWp.seq ?_ | refine CWp.block ?_ | (refine CWp.ret ?_; try simp only [go_sem, Nat.reduceAdd, Nat.reduceLeDiff, Nat.reduceMul, Nat.reduceSub, Nat.reduceEqDiff]) | (refine CWp.skip ?_; try simp only [go_sem, Nat.reduceAdd, Nat.reduceLeDiff, Nat.reduceMul, Nat.reduceSub, Nat.reduceEqDiff]) | (refine CWp.reg tt_ok ?_; simp only [go_sem, Nat.reduceAdd, Nat.reduceLeDiff, Nat.reduceMul, Nat.reduceSub, Nat.reduceEqDiff]))
    exact Fin.ret1 (.inl rfl) rfl rfl rfl (Mem.sub.refl _) ⟨by simp only [fewM, h, Bool.true_and], rfl⟩
end Go.Proofs.ScA
