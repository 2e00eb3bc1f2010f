import Derived.Test.YtpephlhhdefdgaaDoorScE
set_option linter.unusedVariables false
set_option linter.unusedSimpArgs false
set_option maxRecDepth 100000
namespace Go.Proofs.ScA
open Go Go.Am Go.Proofs Go.RowKit
set_option linter.unusedSectionVars false

theorem decl_loop0 (d : DA) (hd : d.small) (nm : List UInt8) (M : Mem) (Q : AExit → St → Prop) : ∀ (n i : Nat), d.ctors.length - i < n → i ≤ d.ctors.length →
    ((d.ctors.drop i).any (fun c => decide (c.name = nm)) = true → ∀ t, t[4]? = some (.v (.bool true)) → Q .ret { tmps := t, loc := [some ((declC d).map .v)], rows := [], defs := [], M := M }) →
    ((d.ctors.drop i).any (fun c => decide (c.name = nm)) = false → Q (.exit 1) { tmps := lp31_0 (.v (.str nm)) (.lptr 0 0) (.v (.int .i64 (d.ctors.length : Int))), loc := [some ((declC d).map .v)], rows := [], defs := [], M := M }) →
    CLoop none Tryd.prog tt esc31 cc31_l0 Q { tmps := lp31_0 (.v (.str nm)) (.lptr 0 0) (.v (.int .i64 (i : Int))), loc := [some ((declC d).map .v)], rows := [], defs := [], M := M } := by
  intro n
  induction n with
  | zero => intro i h0 h1 hQ1 hQ2; omega
  | succ n ih =>
    intro i h0 h1 hQ1 hQ2
    refine CLoop.unroll ?_
    generalize hK : CLoop none Tryd.prog tt esc31 cc31_l0 Q = K
    have hlen : (d.ctors.map ctorA).length = d.ctors.length := by simp
    have hcl := hd.2.1
    simp only [cc31_l0, lp31_0, declC]
    repeat (first | refine CWp.seq ?_ | refine CWp.block ?_ | (refine CWp.ret ?_; try simp only [go_sem, Nat.reduceAdd, Nat.reduceLeDiff, Nat.reduceMul, Nat.reduceSub, Nat.reduceEqDiff]) | (refine CWp.skip ?_; try simp only [go_sem, Nat.reduceAdd, Nat.reduceLeDiff, Nat.reduceMul, Nat.reduceSub, Nat.reduceEqDiff]) | (refine CWp.reg tt_ok ?_; simp only [go_sem, Nat.reduceAdd, Nat.reduceLeDiff, Nat.reduceMul, Nat.reduceSub, Nat.reduceEqDiff]))
    simp only [hlen]
    refine CWp.cond rfl ?_ ?_ <;> intro hc
    · have hi : i < d.ctors.length := by simpa using hc
      have hx := map_at ctorA d.ctors i hi
      rw [List.drop_eq_getElem_cons hi] at hQ1 hQ2
      simp only [List.any_cons] at hQ1 hQ2
      refine CWp.skip ?_
      simp only [go_sem, Nat.reduceAdd, Nat.reduceLeDiff, Nat.reduceMul, Nat.reduceSub, Nat.reduceEqDiff]
      refine CWp.seq ?_
      refine CWp.block ?_
      refine CWp.seq ?_
      refine CWp.reg tt_ok ?_
      simp only [go_sem, Nat.reduceAdd, Nat.reduceLeDiff, Nat.reduceMul, Nat.reduceSub, Nat.reduceEqDiff, hx, hlen, ctorA, ctorC]
      repeat (with_reducible refine And.intro (by first | exact True.intro | assumption | omega | (intros; omega) | (intro hg; simp only [Bool.and_eq_true, Bool.or_eq_true, decide_eq_true_eq, Bool.not_eq_true', decide_eq_false_iff_not] at hg; omega) | (simp only [decide_eq_true_eq, Bool.and_eq_true, Bool.or_eq_true, Bool.not_eq_true', decide_eq_false_iff_not]; omega) | (intros; simp_all; done) | (intros; simp_all; omega)) ?_)
      refine CWp.cond rfl ?_ ?_ <;> intro hc2
      · repeat (first | refine CWp.seq ?_ | refine CWp.block ?_ | (refine CWp.ret ?_; try simp only [go_sem, Nat.reduceAdd, Nat.reduceLeDiff, Nat.reduceMul, Nat.reduceSub, Nat.reduceEqDiff]) | (refine CWp.skip ?_; try simp only [go_sem, Nat.reduceAdd, Nat.reduceLeDiff, Nat.reduceMul, Nat.reduceSub, Nat.reduceEqDiff]) | (refine CWp.reg tt_ok ?_; simp only [go_sem, Nat.reduceAdd, Nat.reduceLeDiff, Nat.reduceMul, Nat.reduceSub, Nat.reduceEqDiff]))
        refine hQ1 ?_ _ rfl
        rw [hc2]; rfl
      · rw [hc2] at hQ1 hQ2
        simp only [Bool.false_or] at hQ1 hQ2
        repeat (first | refine CWp.seq ?_ | refine CWp.block ?_ | (refine CWp.ret ?_; try simp only [go_sem, Nat.reduceAdd, Nat.reduceLeDiff, Nat.reduceMul, Nat.reduceSub, Nat.reduceEqDiff]) | (refine CWp.skip ?_; try simp only [go_sem, Nat.reduceAdd, Nat.reduceLeDiff, Nat.reduceMul, Nat.reduceSub, Nat.reduceEqDiff]) | (refine CWp.reg tt_ok ?_; simp only [go_sem, Nat.reduceAdd, Nat.reduceLeDiff, Nat.reduceMul, Nat.reduceSub, Nat.reduceEqDiff]))
        repeat (with_reducible refine And.intro (by first | exact True.intro | assumption | omega | (intros; omega) | (intro hg; simp only [Bool.and_eq_true, Bool.or_eq_true, decide_eq_true_eq, Bool.not_eq_true', decide_eq_false_iff_not] at hg; omega) | (simp only [decide_eq_true_eq, Bool.and_eq_true, Bool.or_eq_true, Bool.not_eq_true', decide_eq_false_iff_not]; omega) | (intros; simp_all; done) | (intros; simp_all; omega)) ?_)
        rw [← hK]
        exact CLoop.junk (t := lp31_0 (.v (.str nm)) (.lptr 0 0) (.v (.int .i64 ((i + 1 : Nat) : Int)))) (ih (i + 1) (by omega) (by omega) hQ1 hQ2) (by simp [Junked, lp31_0])
    · have hi : i = d.ctors.length := by simp at hc; omega
      subst hi
      exact CWp.junk (t := lp31_0 (.v (.str nm)) (.lptr 0 0) (.v (.int .i64 (d.ctors.length : Int)))) (CWp.exit (hQ2 (by simp))) (by simp [Junked, lp31_0])

theorem decl_loop1 (d : DA) (hd : d.small) (nm : List UInt8) (M : Mem) (Q : AExit → St → Prop) : ∀ (n i : Nat), d.funs.length - i < n → i ≤ d.funs.length →
    ((d.funs.drop i).any (fun c => decide (c.name = nm)) = true → ∀ t, t[4]? = some (.v (.bool true)) → Q .ret { tmps := t, loc := [some ((declC d).map .v)], rows := [], defs := [], M := M }) →
    ((d.funs.drop i).any (fun c => decide (c.name = nm)) = false → Q (.exit 3) { tmps := lp31_1 (.v (.str nm)) (.lptr 0 0) (.v (.int .i64 (d.funs.length : Int))), loc := [some ((declC d).map .v)], rows := [], defs := [], M := M }) →
    CLoop none Tryd.prog tt esc31 cc31_l1 Q { tmps := lp31_1 (.v (.str nm)) (.lptr 0 0) (.v (.int .i64 (i : Int))), loc := [some ((declC d).map .v)], rows := [], defs := [], M := M } := by
  intro n
  induction n with
  | zero => intro i h0 h1 hQ1 hQ2; omega
  | succ n ih =>
    intro i h0 h1 hQ1 hQ2
    refine CLoop.unroll ?_
    generalize hK : CLoop none Tryd.prog tt esc31 cc31_l1 Q = K
    have hlen : (d.funs.map funA).length = d.funs.length := by simp
    have hcl := hd.2.2.1
    simp only [cc31_l1, lp31_1, declC]
    repeat (first | refine CWp.seq ?_ | refine CWp.block ?_ | (refine CWp.ret ?_; try simp only [go_sem, Nat.reduceAdd, Nat.reduceLeDiff, Nat.reduceMul, Nat.reduceSub, Nat.reduceEqDiff]) | (refine CWp.skip ?_; try simp only [go_sem, Nat.reduceAdd, Nat.reduceLeDiff, Nat.reduceMul, Nat.reduceSub, Nat.reduceEqDiff]) | (refine CWp.reg tt_ok ?_; simp only [go_sem, Nat.reduceAdd, Nat.reduceLeDiff, Nat.reduceMul, Nat.reduceSub, Nat.reduceEqDiff]))
    simp only [hlen]
    refine CWp.cond rfl ?_ ?_ <;> intro hc
    · have hi : i < d.funs.length := by simpa using hc
      have hx := map_at funA d.funs i hi
      rw [List.drop_eq_getElem_cons hi] at hQ1 hQ2
      simp only [List.any_cons] at hQ1 hQ2
      refine CWp.skip ?_
      simp only [go_sem, Nat.reduceAdd, Nat.reduceLeDiff, Nat.reduceMul, Nat.reduceSub, Nat.reduceEqDiff]
      refine CWp.seq ?_
      refine CWp.block ?_
      refine CWp.seq ?_
      refine CWp.reg tt_ok ?_
      simp only [go_sem, Nat.reduceAdd, Nat.reduceLeDiff, Nat.reduceMul, Nat.reduceSub, Nat.reduceEqDiff, hx, hlen, funA, funC]
      repeat (with_reducible refine And.intro (by first | exact True.intro | assumption | omega | (intros; omega) | (intro hg; simp only [Bool.and_eq_true, Bool.or_eq_true, decide_eq_true_eq, Bool.not_eq_true', decide_eq_false_iff_not] at hg; omega) | (simp only [decide_eq_true_eq, Bool.and_eq_true, Bool.or_eq_true, Bool.not_eq_true', decide_eq_false_iff_not]; omega) | (intros; simp_all; done) | (intros; simp_all; omega)) ?_)
      refine CWp.cond rfl ?_ ?_ <;> intro hc2
      · repeat (first | refine CWp.seq ?_ | refine CWp.block ?_ | (refine CWp.ret ?_; try simp only [go_sem, Nat.reduceAdd, Nat.reduceLeDiff, Nat.reduceMul, Nat.reduceSub, Nat.reduceEqDiff]) | (refine CWp.skip ?_; try simp only [go_sem, Nat.reduceAdd, Nat.reduceLeDiff, Nat.reduceMul, Nat.reduceSub, Nat.reduceEqDiff]) | (refine CWp.reg tt_ok ?_; simp only [go_sem, Nat.reduceAdd, Nat.reduceLeDiff, Nat.reduceMul, Nat.reduceSub, Nat.reduceEqDiff]))
        refine hQ1 ?_ _ rfl
        rw [hc2]; rfl
      · rw [hc2] at hQ1 hQ2
        simp only [Bool.false_or] at hQ1 hQ2
        repeat (first | refine CWp.seq ?_ | refine CWp.block ?_ | (refine CWp.ret ?_; try simp only [go_sem, Nat.reduceAdd, Nat.reduceLeDiff, Nat.reduceMul, Nat.reduceSub, Nat.reduceEqDiff]) | (refine CWp.skip ?_; try simp only [go_sem, Nat.reduceAdd, Nat.reduceLeDiff, Nat.reduceMul, Nat.reduceSub, Nat.reduceEqDiff]) | (refine CWp.reg tt_ok ?_; simp only [go_sem, Nat.reduceAdd, Nat.reduceLeDiff, Nat.reduceMul, Nat.reduceSub, Nat.reduceEqDiff]))
        repeat (with_reducible refine And.intro (by first | exact True.intro | assumption | omega | (intros; omega) | (intro hg; simp only [Bool.and_eq_true, Bool.or_eq_true, decide_eq_true_eq, Bool.not_eq_true', decide_eq_false_iff_not] at hg; omega) | (simp only [decide_eq_true_eq, Bool.and_eq_true, Bool.or_eq_true, Bool.not_eq_true', decide_eq_false_iff_not]; omega) | (intros; simp_all; done) | (intros; simp_all; omega)) ?_)
        rw [← hK]
        exact CLoop.junk (t := lp31_1 (.v (.str nm)) (.lptr 0 0) (.v (.int .i64 ((i + 1 : Nat) : Int)))) (ih (i + 1) (by omega) (by omega) hQ1 hQ2) (by simp [Junked, lp31_1])
    · have hi : i = d.funs.length := by simp at hc; omega
      subst hi
      exact CWp.junk (t := lp31_1 (.v (.str nm)) (.lptr 0 0) (.v (.int .i64 (d.funs.length : Int)))) (CWp.exit (hQ2 (by simp))) (by simp [Junked, lp31_1])

/-- What the reference computes. -/
def declR (d : DA) (nm : List UInt8) : Bool :=
  bif (decide (d.kind = 0) || decide (d.kind = 1)) || decide (d.kind = 2) then decide (nm = d.name)
  else bif decide (d.kind = 3) then d.ctors.any (fun c => decide (c.name = nm)) || (decide (nm = d.name) || (decide (nm.length = d.name.length + 4) && decide (nm.take d.name.length = d.name) && decide (nm.drop d.name.length = [46, 114, 101, 99])))
  else bif decide (d.kind = 4) then d.funs.any (fun c => decide (c.name = nm)) else false

theorem beq_dec (a b : List UInt8) : (a == b) = decide (b = a) := by
  rw [Bool.eq_iff_iff]
  constructor
  · intro h; exact decide_eq_true (eq_of_beq h).symm
  · intro h; exact beq_iff_eq.2 (of_decide_eq_true h).symm
theorem declR_eq (d : DA) (nm : List UInt8) : declR d nm = (namesM d).contains nm := by
  have hmap : ∀ {α : Type} (f : α → List UInt8) (l : List α), (l.map f).contains nm = l.any (fun c => decide (f c = nm)) := by
    intro α f l
    induction l with
    | nil => rfl
    | cons x l ih =>
      rw [List.map_cons, List.contains_cons, List.any_cons, ih]
      congr 1
      exact beq_dec _ _
  have hone : ∀ x : List UInt8, ([x] : List (List UInt8)).contains nm = decide (nm = x) := by
    intro x; rw [Bool.eq_iff_iff]; simp
  have hrec : decide (nm = d.name ++ [46, 114, 101, 99]) = (decide (nm.length = d.name.length + 4) && decide (nm.take d.name.length = d.name) && decide (nm.drop d.name.length = [46, 114, 101, 99])) := by
    rw [Bool.eq_iff_iff]
    simp only [decide_eq_true_eq, Bool.and_eq_true]
    constructor
    · rintro rfl
      simp
    · rintro ⟨⟨_, h2⟩, h3⟩
      rw [← List.take_append_drop d.name.length nm, h2, h3]
  unfold declR namesM
  cases ((decide (d.kind = 0) || decide (d.kind = 1)) || decide (d.kind = 2)) with
  | true => simp only [cond_true]; exact (hone d.name).symm
  | false =>
    simp only [cond_false]
    cases decide (d.kind = 3) with
    | true =>
      simp only [cond_true]
      have happ : ∀ a b : List (List UInt8), (a ++ b).contains nm = (a.contains nm || b.contains nm) := by
        intro a b; rw [Bool.eq_iff_iff]; simp
      rw [happ, List.contains_cons, hmap, hone, hrec]
      have : (nm == d.name) = decide (nm = d.name) := by rw [Bool.eq_iff_iff]; simp
      rw [this]
      cases (d.ctors.any fun c => decide (c.name = nm)) <;> cases decide (nm = d.name) <;> simp
    | false =>
      simp only [cond_false]
      cases decide (d.kind = 4) with
      | true => simp only [cond_true]; exact (hmap _ _).symm
      | false => rfl

set_option maxHeartbeats 1000000 in
theorem declares_spec (d : DA) (hd : d.small) (nm : List UInt8) (hnm : nm.length ≤ 1000000) : Pure Tryd.prog 31 [declA d, .str nm] (.bool ((namesM d).contains nm)) := fun M => by
  rw [← declR_eq]
  refine enter31 _ _ ?_
  simp only [cc31]
  refine CWp.seq ?_
  refine CWp.reg tt_ok ?_
  simp only [go_sem, Nat.reduceAdd, Nat.reduceLeDiff, Nat.reduceMul, Nat.reduceSub, Nat.reduceEqDiff, declA, declC]
  repeat (first | refine CWp.seq ?_ | refine CWp.block ?_ | (refine CWp.ret ?_; try simp only [go_sem, Nat.reduceAdd, Nat.reduceLeDiff, Nat.reduceMul, Nat.reduceSub, Nat.reduceEqDiff]) | (refine CWp.skip ?_; try simp only [go_sem, Nat.reduceAdd, Nat.reduceLeDiff, Nat.reduceMul, Nat.reduceSub, Nat.reduceEqDiff]) | (refine CWp.reg tt_ok ?_; simp only [go_sem, Nat.reduceAdd, Nat.reduceLeDiff, Nat.reduceMul, Nat.reduceSub, Nat.reduceEqDiff]))
  have hn := hd.1
  refine CWp.cond rfl ?_ ?_ <;> intro h0
  · repeat (first | refine CWp.seq ?_ | refine CWp.block ?_ | (refine CWp.ret ?_; try simp only [go_sem, Nat.reduceAdd, Nat.reduceLeDiff, Nat.reduceMul, Nat.reduceSub, Nat.reduceEqDiff]) | (refine CWp.skip ?_; try simp only [go_sem, Nat.reduceAdd, Nat.reduceLeDiff, Nat.reduceMul, Nat.reduceSub, Nat.reduceEqDiff]) | (refine CWp.reg tt_ok ?_; simp only [go_sem, Nat.reduceAdd, Nat.reduceLeDiff, Nat.reduceMul, Nat.reduceSub, Nat.reduceEqDiff]))
    refine CWp.cond rfl ?_ ?_ <;> intro hx
    · repeat (first | refine CWp.seq ?_ | refine CWp.block ?_ | (refine CWp.ret ?_; try simp only [go_sem, Nat.reduceAdd, Nat.reduceLeDiff, Nat.reduceMul, Nat.reduceSub, Nat.reduceEqDiff]) | (refine CWp.skip ?_; try simp only [go_sem, Nat.reduceAdd, Nat.reduceLeDiff, Nat.reduceMul, Nat.reduceSub, Nat.reduceEqDiff]) | (refine CWp.reg tt_ok ?_; simp only [go_sem, Nat.reduceAdd, Nat.reduceLeDiff, Nat.reduceMul, Nat.reduceSub, Nat.reduceEqDiff]))
      exact Fin.ret1 (.inl rfl) rfl rfl rfl (Mem.sub.refl _) ⟨by simp only [declR, h0, Bool.true_or, cond_true], rfl⟩
    · rw [h0] at hx; cases hx
  · repeat (first | refine CWp.seq ?_ | refine CWp.block ?_ | (refine CWp.ret ?_; try simp only [go_sem, Nat.reduceAdd, Nat.reduceLeDiff, Nat.reduceMul, Nat.reduceSub, Nat.reduceEqDiff]) | (refine CWp.skip ?_; try simp only [go_sem, Nat.reduceAdd, Nat.reduceLeDiff, Nat.reduceMul, Nat.reduceSub, Nat.reduceEqDiff]) | (refine CWp.reg tt_ok ?_; simp only [go_sem, Nat.reduceAdd, Nat.reduceLeDiff, Nat.reduceMul, Nat.reduceSub, Nat.reduceEqDiff]))
    refine CWp.cond rfl ?_ ?_ <;> intro h1
    · repeat (first | refine CWp.seq ?_ | refine CWp.block ?_ | (refine CWp.ret ?_; try simp only [go_sem, Nat.reduceAdd, Nat.reduceLeDiff, Nat.reduceMul, Nat.reduceSub, Nat.reduceEqDiff]) | (refine CWp.skip ?_; try simp only [go_sem, Nat.reduceAdd, Nat.reduceLeDiff, Nat.reduceMul, Nat.reduceSub, Nat.reduceEqDiff]) | (refine CWp.reg tt_ok ?_; simp only [go_sem, Nat.reduceAdd, Nat.reduceLeDiff, Nat.reduceMul, Nat.reduceSub, Nat.reduceEqDiff]))
      refine CWp.cond rfl ?_ ?_ <;> intro hx
      · repeat (first | refine CWp.seq ?_ | refine CWp.block ?_ | (refine CWp.ret ?_; try simp only [go_sem, Nat.reduceAdd, Nat.reduceLeDiff, Nat.reduceMul, Nat.reduceSub, Nat.reduceEqDiff]) | (refine CWp.skip ?_; try simp only [go_sem, Nat.reduceAdd, Nat.reduceLeDiff, Nat.reduceMul, Nat.reduceSub, Nat.reduceEqDiff]) | (refine CWp.reg tt_ok ?_; simp only [go_sem, Nat.reduceAdd, Nat.reduceLeDiff, Nat.reduceMul, Nat.reduceSub, Nat.reduceEqDiff]))
        exact Fin.ret1 (.inl rfl) rfl rfl rfl (Mem.sub.refl _) ⟨by simp only [declR, h0, h1, Bool.true_or, Bool.or_true, cond_true], rfl⟩
      · rw [h1] at hx; cases hx
    · repeat (first | refine CWp.seq ?_ | refine CWp.block ?_ | (refine CWp.ret ?_; try simp only [go_sem, Nat.reduceAdd, Nat.reduceLeDiff, Nat.reduceMul, Nat.reduceSub, Nat.reduceEqDiff]) | (refine CWp.skip ?_; try simp only [go_sem, Nat.reduceAdd, Nat.reduceLeDiff, Nat.reduceMul, Nat.reduceSub, Nat.reduceEqDiff]) | (refine CWp.reg tt_ok ?_; simp only [go_sem, Nat.reduceAdd, Nat.reduceLeDiff, Nat.reduceMul, Nat.reduceSub, Nat.reduceEqDiff]))
      refine CWp.cond rfl ?_ ?_ <;> intro h2
      · repeat (first | refine CWp.seq ?_ | refine CWp.block ?_ | (refine CWp.ret ?_; try simp only [go_sem, Nat.reduceAdd, Nat.reduceLeDiff, Nat.reduceMul, Nat.reduceSub, Nat.reduceEqDiff]) | (refine CWp.skip ?_; try simp only [go_sem, Nat.reduceAdd, Nat.reduceLeDiff, Nat.reduceMul, Nat.reduceSub, Nat.reduceEqDiff]) | (refine CWp.reg tt_ok ?_; simp only [go_sem, Nat.reduceAdd, Nat.reduceLeDiff, Nat.reduceMul, Nat.reduceSub, Nat.reduceEqDiff]))
        exact Fin.ret1 (.inl rfl) rfl rfl rfl (Mem.sub.refl _) ⟨by simp only [declR, h0, h1, h2, Bool.true_or, Bool.or_true, cond_true], rfl⟩
      · repeat (first | refine CWp.seq ?_ | refine CWp.block ?_ | (refine CWp.ret ?_; try simp only [go_sem, Nat.reduceAdd, Nat.reduceLeDiff, Nat.reduceMul, Nat.reduceSub, Nat.reduceEqDiff]) | (refine CWp.skip ?_; try simp only [go_sem, Nat.reduceAdd, Nat.reduceLeDiff, Nat.reduceMul, Nat.reduceSub, Nat.reduceEqDiff]) | (refine CWp.reg tt_ok ?_; simp only [go_sem, Nat.reduceAdd, Nat.reduceLeDiff, Nat.reduceMul, Nat.reduceSub, Nat.reduceEqDiff]))
        refine CWp.cond rfl ?_ ?_ <;> intro h3
        · repeat (first | refine CWp.seq ?_ | refine CWp.block ?_ | (refine CWp.ret ?_; try simp only [go_sem, Nat.reduceAdd, Nat.reduceLeDiff, Nat.reduceMul, Nat.reduceSub, Nat.reduceEqDiff]) | (refine CWp.skip ?_; try simp only [go_sem, Nat.reduceAdd, Nat.reduceLeDiff, Nat.reduceMul, Nat.reduceSub, Nat.reduceEqDiff]) | (refine CWp.reg tt_ok ?_; simp only [go_sem, Nat.reduceAdd, Nat.reduceLeDiff, Nat.reduceMul, Nat.reduceSub, Nat.reduceEqDiff]))
          refine CWp.loop (CLoop.junk (t := lp31_0 (.v (.str nm)) (.lptr 0 0) (.v (.int .i64 ((0 : Nat) : Int)))) (decl_loop0 d hd nm M _ (d.ctors.length + 1) 0 (by omega) (by omega) ?_ ?_) (by simp [Junked, lp31_0]))
          · intro h t ht
            rw [List.drop_zero] at h
            simp only [go_sem, Nat.reduceAdd, Nat.reduceLeDiff, Nat.reduceMul, Nat.reduceSub, Nat.reduceEqDiff]
            exact Fin.ret1 (.inl rfl) rfl rfl (by rw [ht]; rfl) (Mem.sub.refl _) ⟨by simp only [declR, h0, h1, h2, h3, Bool.or_self, cond_false, cond_true, h, Bool.true_or], rfl⟩
          · intro h
            rw [List.drop_zero] at h
            simp only [go_sem, Nat.reduceAdd, Nat.reduceLeDiff, Nat.reduceMul, Nat.reduceSub, Nat.reduceEqDiff, lp31_0, declC]
            repeat (first | refine CWp.seq ?_ | refine CWp.block ?_ | (refine CWp.ret ?_; try simp only [go_sem, Nat.reduceAdd, Nat.reduceLeDiff, Nat.reduceMul, Nat.reduceSub, Nat.reduceEqDiff]) | (refine CWp.skip ?_; try simp only [go_sem, Nat.reduceAdd, Nat.reduceLeDiff, Nat.reduceMul, Nat.reduceSub, Nat.reduceEqDiff]) | (refine CWp.reg tt_ok ?_; simp only [go_sem, Nat.reduceAdd, Nat.reduceLeDiff, Nat.reduceMul, Nat.reduceSub, Nat.reduceEqDiff]))
            refine CWp.dreg mixed tt_ok dr31_0 ?_
            have hmin : ∀ x : Nat, Min.min x x = x := fun x => Nat.min_self x
            repeat (first | with_reducible refine And.intro (by first | exact True.intro | assumption | omega | (intros; omega) | (intro hg; simp only [Bool.and_eq_true, Bool.or_eq_true, decide_eq_true_eq, Bool.not_eq_true', decide_eq_false_iff_not] at hg; omega) | (simp only [decide_eq_true_eq, Bool.and_eq_true, Bool.or_eq_true, Bool.not_eq_true', decide_eq_false_iff_not]; omega) | (intros; simp_all; done) | (intros; simp_all; omega)) ?_ | (with_reducible refine evalD_step ?_; simp only [qval, factOf, pev, St.get, St.put, rd, lp, gval, icmp, scmp, bcmp, arith, quorem, nlB, isNil, bound, fillA, rdL, pickT, pickL, extL, TV.ext, TV.sc, AV.cells, am_one_bool, am_one_int, am_one_str, am_one_nilp, am_one_ptr, am_one_eptr, am_one_sl, am_one_map, am_one_nilmap, am_one_fn, am_one_nilfn, am_one_iface, am_one_niliface, am_one_raw, am_one_agg, am_one_tup, am_one_junk, InR, findS, List.getElem?_cons_succ, List.getElem?_cons_zero, Option.getD_some, Option.getD_none, List.set_cons_succ, List.set_cons_zero, List.map_cons, List.map_nil, List.length_cons, List.length_nil, List.take_succ_cons, List.take_zero, List.drop_succ_cons, List.drop_zero, List.getElem?_nil, and_true, true_and, implies_true, forall_const, Bool.true_and, Bool.and_true, Bool.true_eq_false, Bool.false_eq_true, Option.map_some, Option.map_none, cond_true, cond_false, Bool.not_true, Bool.not_false, if_true, if_false, ite_true, ite_false, decide_true, decide_false, am_cond_false, am_cond_true, am_beq_true, am_beq_false, am_imp_self, am_imp_imp, am_not_imp, am_and_imp, am_and_imp', am_imp_and, am_mem_one, am_mem_cons, am_mem_nil, am_nat_add, Int.toNat_natCast, Nat.le_refl, Nat.reduceAdd, Nat.reduceLeDiff, Nat.reduceMul, Nat.reduceSub, Nat.reduceEqDiff, Nat.le_refl]))
            simp only [go_sem, Nat.reduceAdd, Nat.reduceLeDiff, Nat.reduceMul, Nat.reduceSub, Nat.reduceEqDiff]
            repeat (first | refine CWp.seq ?_ | refine CWp.block ?_ | (refine CWp.ret ?_; try simp only [go_sem, Nat.reduceAdd, Nat.reduceLeDiff, Nat.reduceMul, Nat.reduceSub, Nat.reduceEqDiff]) | (refine CWp.skip ?_; try simp only [go_sem, Nat.reduceAdd, Nat.reduceLeDiff, Nat.reduceMul, Nat.reduceSub, Nat.reduceEqDiff]) | (refine CWp.reg tt_ok ?_; simp only [go_sem, Nat.reduceAdd, Nat.reduceLeDiff, Nat.reduceMul, Nat.reduceSub, Nat.reduceEqDiff]))
            refine Fin.ret1 (.inl rfl) rfl rfl rfl (Mem.sub.refl _) ⟨?_, rfl⟩
            have k1 : decide ((nm.length : Int) = (d.name.length : Int) + 4) = decide (nm.length = d.name.length + 4) := decide_eq_decide.2 (by omega)
            have k2 : Int.toNat 0 = 0 := rfl
            simp only [declR, h0, h1, h2, h3, Bool.or_self, cond_false, cond_true, h, Bool.false_or, k1, k2, List.drop_zero, List.take_length]
        · repeat (first | refine CWp.seq ?_ | refine CWp.block ?_ | (refine CWp.ret ?_; try simp only [go_sem, Nat.reduceAdd, Nat.reduceLeDiff, Nat.reduceMul, Nat.reduceSub, Nat.reduceEqDiff]) | (refine CWp.skip ?_; try simp only [go_sem, Nat.reduceAdd, Nat.reduceLeDiff, Nat.reduceMul, Nat.reduceSub, Nat.reduceEqDiff]) | (refine CWp.reg tt_ok ?_; simp only [go_sem, Nat.reduceAdd, Nat.reduceLeDiff, Nat.reduceMul, Nat.reduceSub, Nat.reduceEqDiff]))
          refine CWp.cond rfl ?_ ?_ <;> intro h4
          · repeat (first | refine CWp.seq ?_ | refine CWp.block ?_ | (refine CWp.ret ?_; try simp only [go_sem, Nat.reduceAdd, Nat.reduceLeDiff, Nat.reduceMul, Nat.reduceSub, Nat.reduceEqDiff]) | (refine CWp.skip ?_; try simp only [go_sem, Nat.reduceAdd, Nat.reduceLeDiff, Nat.reduceMul, Nat.reduceSub, Nat.reduceEqDiff]) | (refine CWp.reg tt_ok ?_; simp only [go_sem, Nat.reduceAdd, Nat.reduceLeDiff, Nat.reduceMul, Nat.reduceSub, Nat.reduceEqDiff]))
            refine CWp.loop (CLoop.junk (t := lp31_1 (.v (.str nm)) (.lptr 0 0) (.v (.int .i64 ((0 : Nat) : Int)))) (decl_loop1 d hd nm M _ (d.funs.length + 1) 0 (by omega) (by omega) ?_ ?_) (by simp [Junked, lp31_1]))
            · intro h t ht
              rw [List.drop_zero] at h
              simp only [go_sem, Nat.reduceAdd, Nat.reduceLeDiff, Nat.reduceMul, Nat.reduceSub, Nat.reduceEqDiff]
              exact Fin.ret1 (.inl rfl) rfl rfl (by rw [ht]; rfl) (Mem.sub.refl _) ⟨by simp only [declR, h0, h1, h2, h3, h4, Bool.or_self, cond_false, cond_true, h], rfl⟩
            · intro h
              rw [List.drop_zero] at h
              simp only [go_sem, Nat.reduceAdd, Nat.reduceLeDiff, Nat.reduceMul, Nat.reduceSub, Nat.reduceEqDiff, lp31_1, declC]
              repeat (first | refine CWp.seq ?_ | refine CWp.block ?_ | (refine CWp.ret ?_; try simp only [go_sem, Nat.reduceAdd, Nat.reduceLeDiff, Nat.reduceMul, Nat.reduceSub, Nat.reduceEqDiff]) | (refine CWp.skip ?_; try simp only [go_sem, Nat.reduceAdd, Nat.reduceLeDiff, Nat.reduceMul, Nat.reduceSub, Nat.reduceEqDiff]) | (refine CWp.reg tt_ok ?_; simp only [go_sem, Nat.reduceAdd, Nat.reduceLeDiff, Nat.reduceMul, Nat.reduceSub, Nat.reduceEqDiff]))
              exact Fin.ret1 (.inl rfl) rfl rfl rfl (Mem.sub.refl _) ⟨by simp only [declR, h0, h1, h2, h3, h4, Bool.or_self, cond_false, cond_true, h], rfl⟩
          · repeat (first | refine CWp.seq ?_ | refine CWp.block ?_ | (refine CWp.ret ?_; try simp only [go_sem, Nat.reduceAdd, Nat.reduceLeDiff, Nat.reduceMul, Nat.reduceSub, Nat.reduceEqDiff]) | (refine CWp.skip ?_; try simp only [go_sem, Nat.reduceAdd, Nat.reduceLeDiff, Nat.reduceMul, Nat.reduceSub, Nat.reduceEqDiff]) | (refine CWp.reg tt_ok ?_; simp only [go_sem, Nat.reduceAdd, Nat.reduceLeDiff, Nat.reduceMul, Nat.reduceSub, Nat.reduceEqDiff]))
            exact Fin.ret1 (.inl rfl) rfl rfl rfl (Mem.sub.refl _) ⟨by simp only [declR, h0, h1, h2, h3, h4, Bool.or_self, cond_false], rfl⟩

theorem decl1_spec (d : DA) (hd : d.small) (nm : List UInt8) (hnm : nm.length ≤ 1000000) (r : Nat) (M : Mem) (hM : M (.b r) = some (.cells [.str nm])) :
    ACalls Tryd.prog 28 [declA d, .ptr r 0] M fun e M' => e = .ret (.bool ((namesM d).contains nm)) ∧ M' = M := by
  refine enter28 _ _ ?_
  simp only [cc28]
  refine CWp.seq ?_
  refine CWp.reg tt_ok ?_
  simp only [go_sem, Nat.reduceAdd, Nat.reduceLeDiff, Nat.reduceMul, Nat.reduceSub, Nat.reduceEqDiff, declA, declC]
  repeat (first | refine CWp.seq ?_ | refine CWp.block ?_ | (refine CWp.ret ?_; try simp only [go_sem, Nat.reduceAdd, Nat.reduceLeDiff, Nat.reduceMul, Nat.reduceSub, Nat.reduceEqDiff]) | (refine CWp.skip ?_; try simp only [go_sem, Nat.reduceAdd, Nat.reduceLeDiff, Nat.reduceMul, Nat.reduceSub, Nat.reduceEqDiff]) | (refine CWp.reg tt_ok ?_; simp only [go_sem, Nat.reduceAdd, Nat.reduceLeDiff, Nat.reduceMul, Nat.reduceSub, Nat.reduceEqDiff]))
  refine CWp.dreg mixed tt_ok dr28_0 ?_
  repeat (first | with_reducible refine And.intro (by first | exact True.intro | assumption | omega | (intros; omega) | (intro hg; simp only [Bool.and_eq_true, Bool.or_eq_true, decide_eq_true_eq, Bool.not_eq_true', decide_eq_false_iff_not] at hg; omega) | (simp only [decide_eq_true_eq, Bool.and_eq_true, Bool.or_eq_true, Bool.not_eq_true', decide_eq_false_iff_not]; omega) | (intros; simp_all; done) | (intros; simp_all; omega)) ?_ | (with_reducible refine evalD_step ?_; simp only [qval, factOf, pev, St.get, St.put, rd, lp, gval, icmp, scmp, bcmp, arith, quorem, nlB, isNil, bound, fillA, rdL, pickT, pickL, extL, TV.ext, TV.sc, AV.cells, am_one_bool, am_one_int, am_one_str, am_one_nilp, am_one_ptr, am_one_eptr, am_one_sl, am_one_map, am_one_nilmap, am_one_fn, am_one_nilfn, am_one_iface, am_one_niliface, am_one_raw, am_one_agg, am_one_tup, am_one_junk, InR, findS, List.getElem?_cons_succ, List.getElem?_cons_zero, Option.getD_some, Option.getD_none, List.set_cons_succ, List.set_cons_zero, List.map_cons, List.map_nil, List.length_cons, List.length_nil, List.take_succ_cons, List.take_zero, List.drop_succ_cons, List.drop_zero, List.getElem?_nil, and_true, true_and, implies_true, forall_const, Bool.true_and, Bool.and_true, Bool.true_eq_false, Bool.false_eq_true, Option.map_some, Option.map_none, cond_true, cond_false, Bool.not_true, Bool.not_false, if_true, if_false, ite_true, ite_false, decide_true, decide_false, am_cond_false, am_cond_true, am_beq_true, am_beq_false, am_imp_self, am_imp_imp, am_not_imp, am_and_imp, am_and_imp', am_imp_and, am_mem_one, am_mem_cons, am_mem_nil, am_nat_add, Int.toNat_natCast, Nat.le_refl, Nat.reduceAdd, Nat.reduceLeDiff, Nat.reduceMul, Nat.reduceSub, Nat.reduceEqDiff, hM]))
  refine evalD_call (DOps.call tt_ok has30 rfl rfl (by simp) ((names_spec d hd M).mono ?_))
  rintro x M' ⟨⟨own, rfl⟩, rfl⟩
  refine ⟨?_, evalD_sound tt_ok _ _ _ ?_⟩
  · simp only [facts, memB, qfact, St.mem, qval, factOf, pev, St.get, St.put, rd, lp, gval, icmp, scmp, bcmp, arith, quorem, nlB, isNil, bound, fillA, rdL, pickT, pickL, extL, TV.ext, TV.sc, AV.cells, am_one_bool, am_one_int, am_one_str, am_one_nilp, am_one_ptr, am_one_eptr, am_one_sl, am_one_map, am_one_nilmap, am_one_fn, am_one_nilfn, am_one_iface, am_one_niliface, am_one_raw, am_one_agg, am_one_tup, am_one_junk, InR, findS, List.getElem?_cons_succ, List.getElem?_cons_zero, Option.getD_some, Option.getD_none, List.set_cons_succ, List.set_cons_zero, List.map_cons, List.map_nil, List.length_cons, List.length_nil, List.take_succ_cons, List.take_zero, List.drop_succ_cons, List.drop_zero, List.getElem?_nil, and_true, true_and, implies_true, forall_const, Bool.true_and, Bool.and_true, Bool.true_eq_false, Bool.false_eq_true, Option.map_some, Option.map_none, cond_true, cond_false, Bool.not_true, Bool.not_false, if_true, if_false, ite_true, ite_false, decide_true, decide_false, am_cond_false, am_cond_true, am_beq_true, am_beq_false, am_imp_self, am_imp_imp, am_not_imp, am_and_imp, am_and_imp', am_imp_and, am_mem_one, am_mem_cons, am_mem_nil, am_nat_add, Int.toNat_natCast, Nat.le_refl, Nat.reduceAdd, Nat.reduceLeDiff, Nat.reduceMul, Nat.reduceSub, Nat.reduceEqDiff, hM]
    exact ⟨True.intro, True.intro⟩
  · have hl : (namesM d).length ≤ 1000000 := by
      have h1 := hd.2.1
      have h2 := hd.2.2.1
      unfold namesM
      cases ((decide (d.kind = 0) || decide (d.kind = 1)) || decide (d.kind = 2)) <;> cases decide (d.kind = 3) <;> cases decide (d.kind = 4) <;> simp <;> omega
    repeat (first | with_reducible refine And.intro (by first | exact True.intro | assumption | omega | (intros; omega) | (intro hg; simp only [Bool.and_eq_true, Bool.or_eq_true, decide_eq_true_eq, Bool.not_eq_true', decide_eq_false_iff_not] at hg; omega) | (simp only [decide_eq_true_eq, Bool.and_eq_true, Bool.or_eq_true, Bool.not_eq_true', decide_eq_false_iff_not]; omega) | (intros; simp_all; done) | (intros; simp_all; omega)) ?_ | (with_reducible refine evalD_step ?_; simp only [qval, factOf, pev, St.get, St.put, rd, lp, gval, icmp, scmp, bcmp, arith, quorem, nlB, isNil, bound, fillA, rdL, pickT, pickL, extL, TV.ext, TV.sc, AV.cells, am_one_bool, am_one_int, am_one_str, am_one_nilp, am_one_ptr, am_one_eptr, am_one_sl, am_one_map, am_one_nilmap, am_one_fn, am_one_nilfn, am_one_iface, am_one_niliface, am_one_raw, am_one_agg, am_one_tup, am_one_junk, InR, findS, List.getElem?_cons_succ, List.getElem?_cons_zero, Option.getD_some, Option.getD_none, List.set_cons_succ, List.set_cons_zero, List.map_cons, List.map_nil, List.length_cons, List.length_nil, List.take_succ_cons, List.take_zero, List.drop_succ_cons, List.drop_zero, List.getElem?_nil, and_true, true_and, implies_true, forall_const, Bool.true_and, Bool.and_true, Bool.true_eq_false, Bool.false_eq_true, Option.map_some, Option.map_none, cond_true, cond_false, Bool.not_true, Bool.not_false, if_true, if_false, ite_true, ite_false, decide_true, decide_false, am_cond_false, am_cond_true, am_beq_true, am_beq_false, am_imp_self, am_imp_imp, am_not_imp, am_and_imp, am_and_imp', am_imp_and, am_mem_one, am_mem_cons, am_mem_nil, am_nat_add, Int.toNat_natCast, Nat.le_refl, Nat.reduceAdd, Nat.reduceLeDiff, Nat.reduceMul, Nat.reduceSub, Nat.reduceEqDiff, Nat.le_refl]))
    refine evalD_call (DOps.pure tt_ok has29 rfl rfl rfl (by simp) (fun _ => contains_spec own _ _ hl) (by simp [facts, memB]) (evalD_sound tt_ok _ _ _ ?_))
    repeat (first | with_reducible refine And.intro (by first | exact True.intro | assumption | omega | (intros; omega) | (intro hg; simp only [Bool.and_eq_true, Bool.or_eq_true, decide_eq_true_eq, Bool.not_eq_true', decide_eq_false_iff_not] at hg; omega) | (simp only [decide_eq_true_eq, Bool.and_eq_true, Bool.or_eq_true, Bool.not_eq_true', decide_eq_false_iff_not]; omega) | (intros; simp_all; done) | (intros; simp_all; omega)) ?_ | (with_reducible refine evalD_step ?_; simp only [qval, factOf, pev, St.get, St.put, rd, lp, gval, icmp, scmp, bcmp, arith, quorem, nlB, isNil, bound, fillA, rdL, pickT, pickL, extL, TV.ext, TV.sc, AV.cells, am_one_bool, am_one_int, am_one_str, am_one_nilp, am_one_ptr, am_one_eptr, am_one_sl, am_one_map, am_one_nilmap, am_one_fn, am_one_nilfn, am_one_iface, am_one_niliface, am_one_raw, am_one_agg, am_one_tup, am_one_junk, InR, findS, List.getElem?_cons_succ, List.getElem?_cons_zero, Option.getD_some, Option.getD_none, List.set_cons_succ, List.set_cons_zero, List.map_cons, List.map_nil, List.length_cons, List.length_nil, List.take_succ_cons, List.take_zero, List.drop_succ_cons, List.drop_zero, List.getElem?_nil, and_true, true_and, implies_true, forall_const, Bool.true_and, Bool.and_true, Bool.true_eq_false, Bool.false_eq_true, Option.map_some, Option.map_none, cond_true, cond_false, Bool.not_true, Bool.not_false, if_true, if_false, ite_true, ite_false, decide_true, decide_false, am_cond_false, am_cond_true, am_beq_true, am_beq_false, am_imp_self, am_imp_imp, am_not_imp, am_and_imp, am_and_imp', am_imp_and, am_mem_one, am_mem_cons, am_mem_nil, am_nat_add, Int.toNat_natCast, Nat.le_refl, Nat.reduceAdd, Nat.reduceLeDiff, Nat.reduceMul, Nat.reduceSub, Nat.reduceEqDiff, Nat.le_refl]))
    simp only [go_sem, Nat.reduceAdd, Nat.reduceLeDiff, Nat.reduceMul, Nat.reduceSub, Nat.reduceEqDiff]
    repeat (first | refine CWp.seq ?_ | refine CWp.block ?_ | (refine CWp.ret ?_; try simp only [go_sem, Nat.reduceAdd, Nat.reduceLeDiff, Nat.reduceMul, Nat.reduceSub, Nat.reduceEqDiff]) | (refine CWp.skip ?_; try simp only [go_sem, Nat.reduceAdd, Nat.reduceLeDiff, Nat.reduceMul, Nat.reduceSub, Nat.reduceEqDiff]) | (refine CWp.reg tt_ok ?_; simp only [go_sem, Nat.reduceAdd, Nat.reduceLeDiff, Nat.reduceMul, Nat.reduceSub, Nat.reduceEqDiff]))
    exact Fin.ret1 (.inl rfl) rfl rfl rfl (Mem.sub.refl _) ⟨rfl, rfl⟩
theorem indexD_loop (own : Own) (l : List DA) (g : FuncId) (cap : List AV) (p : DA → Bool) (hlen : l.length ≤ 1000000) (M : Mem) (hp : PredAt g cap declA p l M) (Q : AExit → St → Prop) : ∀ (n i : Nat), l.length - i < n → i ≤ l.length →
    (∀ k t, idxN p l n i = k → t[4]? = some (.v (.int .i64 k)) → Q .ret { tmps := t, loc := [], rows := [], defs := [], M := M }) →
    (idxN p l n i = -1 → Q (.exit 0) { tmps := lp40_0 (.v (.sl own 23 (l.map declA))) (.v (.fn (.func g) [] cap)) (.v (.int .i64 (l.length : Int))) (.v (.int .i64 (l.length : Int))), loc := [], rows := [], defs := [], M := M }) →
    CLoop none Tryd.prog tt esc40 cc40_l0 Q { tmps := lp40_0 (.v (.sl own 23 (l.map declA))) (.v (.fn (.func g) [] cap)) (.v (.int .i64 (l.length : Int))) (.v (.int .i64 (i : Int))), loc := [], rows := [], defs := [], M := M } := by
  intro n
  induction n with
  | zero => intro i h0 h1 hQ1 hQ2; omega
  | succ n ih =>
    intro i h0 h1 hQ1 hQ2
    refine CLoop.unroll ?_
    generalize hK : CLoop none Tryd.prog tt esc40 cc40_l0 Q = K
    simp only [cc40_l0, lp40_0]
    repeat (first | refine CWp.seq ?_ | refine CWp.block ?_ | (refine CWp.ret ?_; try simp only [go_sem, Nat.reduceAdd, Nat.reduceLeDiff, Nat.reduceMul, Nat.reduceSub, Nat.reduceEqDiff]) | (refine CWp.skip ?_; try simp only [go_sem, Nat.reduceAdd, Nat.reduceLeDiff, Nat.reduceMul, Nat.reduceSub, Nat.reduceEqDiff]) | (refine CWp.reg tt_ok ?_; simp only [go_sem, Nat.reduceAdd, Nat.reduceLeDiff, Nat.reduceMul, Nat.reduceSub, Nat.reduceEqDiff]))
    refine CWp.cond rfl ?_ ?_ <;> intro hc
    · have hi : i < l.length := by simpa using hc
      have hx := map_at declA l i hi
      have hml : (l.map declA).length = l.length := by simp
      simp only [idxN, List.getElem?_eq_getElem hi] at hQ1 hQ2
      refine CWp.skip ?_
      simp only [go_sem, Nat.reduceAdd, Nat.reduceLeDiff, Nat.reduceMul, Nat.reduceSub, Nat.reduceEqDiff]
      repeat (first | refine CWp.seq ?_ | refine CWp.block ?_ | (refine CWp.ret ?_; try simp only [go_sem, Nat.reduceAdd, Nat.reduceLeDiff, Nat.reduceMul, Nat.reduceSub, Nat.reduceEqDiff]) | (refine CWp.skip ?_; try simp only [go_sem, Nat.reduceAdd, Nat.reduceLeDiff, Nat.reduceMul, Nat.reduceSub, Nat.reduceEqDiff]) | (refine CWp.reg tt_ok ?_; simp only [go_sem, Nat.reduceAdd, Nat.reduceLeDiff, Nat.reduceMul, Nat.reduceSub, Nat.reduceEqDiff]))
      simp only [go_sem, Nat.reduceAdd, Nat.reduceLeDiff, Nat.reduceMul, Nat.reduceSub, Nat.reduceEqDiff, hx, hml, declA, declC]
      repeat (with_reducible refine And.intro (by first | exact True.intro | assumption | omega | (intros; omega) | (intro hg; simp only [Bool.and_eq_true, Bool.or_eq_true, decide_eq_true_eq, Bool.not_eq_true', decide_eq_false_iff_not] at hg; omega) | (simp only [decide_eq_true_eq, Bool.and_eq_true, Bool.or_eq_true, Bool.not_eq_true', decide_eq_false_iff_not]; omega) | (intros; simp_all; done) | (intros; simp_all; omega)) ?_)
      refine COps.call hp.1 rfl (by simp) ((hp.2 l[i] (List.getElem_mem hi)).mono ?_)
      rintro x M' ⟨rfl, rfl⟩
      refine evalC_sound tt_ok _ _ ?_
      simp only [go_sem, Nat.reduceAdd, Nat.reduceLeDiff, Nat.reduceMul, Nat.reduceSub, Nat.reduceEqDiff]
      refine CWp.cond rfl ?_ ?_ <;> intro hc2
      · repeat (first | refine CWp.seq ?_ | refine CWp.block ?_ | (refine CWp.ret ?_; try simp only [go_sem, Nat.reduceAdd, Nat.reduceLeDiff, Nat.reduceMul, Nat.reduceSub, Nat.reduceEqDiff]) | (refine CWp.skip ?_; try simp only [go_sem, Nat.reduceAdd, Nat.reduceLeDiff, Nat.reduceMul, Nat.reduceSub, Nat.reduceEqDiff]) | (refine CWp.reg tt_ok ?_; simp only [go_sem, Nat.reduceAdd, Nat.reduceLeDiff, Nat.reduceMul, Nat.reduceSub, Nat.reduceEqDiff]))
        refine hQ1 _ _ ?_ rfl
        rw [hc2]; rfl
      · rw [hc2] at hQ1 hQ2
        simp only [cond_false] at hQ1 hQ2
        repeat (first | refine CWp.seq ?_ | refine CWp.block ?_ | (refine CWp.ret ?_; try simp only [go_sem, Nat.reduceAdd, Nat.reduceLeDiff, Nat.reduceMul, Nat.reduceSub, Nat.reduceEqDiff]) | (refine CWp.skip ?_; try simp only [go_sem, Nat.reduceAdd, Nat.reduceLeDiff, Nat.reduceMul, Nat.reduceSub, Nat.reduceEqDiff]) | (refine CWp.reg tt_ok ?_; simp only [go_sem, Nat.reduceAdd, Nat.reduceLeDiff, Nat.reduceMul, Nat.reduceSub, Nat.reduceEqDiff]))
        repeat (with_reducible refine And.intro (by first | exact True.intro | assumption | omega | (intros; omega) | (intro hg; simp only [Bool.and_eq_true, Bool.or_eq_true, decide_eq_true_eq, Bool.not_eq_true', decide_eq_false_iff_not] at hg; omega) | (simp only [decide_eq_true_eq, Bool.and_eq_true, Bool.or_eq_true, Bool.not_eq_true', decide_eq_false_iff_not]; omega) | (intros; simp_all; done) | (intros; simp_all; omega)) ?_)
        rw [← hK]
        exact CLoop.junk (t := lp40_0 (.v (.sl own 23 (l.map declA))) (.v (.fn (.func g) [] cap)) (.v (.int .i64 (l.length : Int))) (.v (.int .i64 ((i + 1 : Nat) : Int)))) (ih (i + 1) (by omega) (by omega) hQ1 hQ2) (by simp [Junked, lp40_0])
    · have hi : i = l.length := by simp at hc; omega
      subst hi
      refine CWp.junk (t := lp40_0 (.v (.sl own 23 (l.map declA))) (.v (.fn (.func g) [] cap)) (.v (.int .i64 (l.length : Int))) (.v (.int .i64 (l.length : Int)))) (CWp.exit (hQ2 ?_)) (by simp [Junked, lp40_0])
      simp [idxN]

theorem containsD_spec (own : Own) (l : List DA) (g : FuncId) (cap : List AV) (p : DA → Bool) (hlen : l.length ≤ 1000000) (M : Mem) (hp : PredAt g cap declA p l M) :
    ACalls Tryd.prog 27 [.sl own 23 (l.map declA), .fn (.func g) [] cap] M fun e M' => e = .ret (.bool (l.any p)) ∧ M' = M := by
  have hidx : ACalls Tryd.prog 40 [.sl own 23 (l.map declA), .fn (.func g) [] cap] M fun e M' => e = .ret (.int .i64 (idxN p l (l.length + 1) 0)) ∧ M' = M := by
    refine enter40 _ _ ?_
    simp only [cc40]
    repeat (first | refine CWp.seq ?_ | refine CWp.block ?_ | (refine CWp.ret ?_; try simp only [go_sem, Nat.reduceAdd, Nat.reduceLeDiff, Nat.reduceMul, Nat.reduceSub, Nat.reduceEqDiff]) | (refine CWp.skip ?_; try simp only [go_sem, Nat.reduceAdd, Nat.reduceLeDiff, Nat.reduceMul, Nat.reduceSub, Nat.reduceEqDiff]) | (refine CWp.reg tt_ok ?_; simp only [go_sem, Nat.reduceAdd, Nat.reduceLeDiff, Nat.reduceMul, Nat.reduceSub, Nat.reduceEqDiff]))
    refine CWp.loop (CLoop.junk (t := lp40_0 (.v (.sl own 23 (l.map declA))) (.v (.fn (.func g) [] cap)) (.v (.int .i64 (l.length : Int))) (.v (.int .i64 ((0 : Nat) : Int)))) (indexD_loop own l g cap p hlen M hp _ (l.length + 1) 0 (by omega) (by omega) ?_ ?_) (by simp [Junked, lp40_0]))
    · intro k t hk ht
      simp only [go_sem, Nat.reduceAdd, Nat.reduceLeDiff, Nat.reduceMul, Nat.reduceSub, Nat.reduceEqDiff]
      exact Fin.ret1 (.inl rfl) rfl rfl (by rw [ht]; rfl) (Mem.sub.refl _) ⟨by rw [hk], rfl⟩
    · intro hk
      simp only [go_sem, lp40_0]
      repeat (first | refine CWp.seq ?_ | refine CWp.block ?_ | (refine CWp.ret ?_; try simp only [go_sem, Nat.reduceAdd, Nat.reduceLeDiff, Nat.reduceMul, Nat.reduceSub, Nat.reduceEqDiff]) | (refine CWp.skip ?_; try simp only [go_sem, Nat.reduceAdd, Nat.reduceLeDiff, Nat.reduceMul, Nat.reduceSub, Nat.reduceEqDiff]) | (refine CWp.reg tt_ok ?_; simp only [go_sem, Nat.reduceAdd, Nat.reduceLeDiff, Nat.reduceMul, Nat.reduceSub, Nat.reduceEqDiff]))
      exact Fin.ret1 (.inl rfl) rfl rfl rfl (Mem.sub.refl _) ⟨by rw [hk], rfl⟩
  refine enter27 _ _ ?_
  simp only [cc27]
  repeat (first | refine CWp.seq ?_ | refine CWp.block ?_ | (refine CWp.ret ?_; try simp only [go_sem, Nat.reduceAdd, Nat.reduceLeDiff, Nat.reduceMul, Nat.reduceSub, Nat.reduceEqDiff]) | (refine CWp.skip ?_; try simp only [go_sem, Nat.reduceAdd, Nat.reduceLeDiff, Nat.reduceMul, Nat.reduceSub, Nat.reduceEqDiff]) | (refine CWp.reg tt_ok ?_; simp only [go_sem, Nat.reduceAdd, Nat.reduceLeDiff, Nat.reduceMul, Nat.reduceSub, Nat.reduceEqDiff]))
  refine COps.call has40 rfl (by simp) (hidx.mono ?_)
  rintro x M' ⟨rfl, rfl⟩
  refine evalC_sound tt_ok _ _ ?_
  simp only [go_sem, Nat.reduceAdd, Nat.reduceLeDiff, Nat.reduceMul, Nat.reduceSub, Nat.reduceEqDiff]
  repeat (first | refine CWp.seq ?_ | refine CWp.block ?_ | (refine CWp.ret ?_; try simp only [go_sem, Nat.reduceAdd, Nat.reduceLeDiff, Nat.reduceMul, Nat.reduceSub, Nat.reduceEqDiff]) | (refine CWp.skip ?_; try simp only [go_sem, Nat.reduceAdd, Nat.reduceLeDiff, Nat.reduceMul, Nat.reduceSub, Nat.reduceEqDiff]) | (refine CWp.reg tt_ok ?_; simp only [go_sem, Nat.reduceAdd, Nat.reduceLeDiff, Nat.reduceMul, Nat.reduceSub, Nat.reduceEqDiff]))
  refine Fin.ret1 (.inl rfl) rfl rfl rfl (Mem.sub.refl _) ⟨?_, rfl⟩
  rw [idxN_any _ _ _ _ (by omega) (by omega), List.drop_zero]



/-- A state. -/
structure SA where
  o0 : Own
  env : List DA
  c1 : One
  o2 : Own
  classes : List (List UInt8)
  o3 : Own
  insts : List (List UInt8)
  c4 : One
  o5 : Own
  ns : List (List UInt8)
  o6 : Own
  opens : List (List UInt8)
def stC (s : SA) : List AV := [.sl s.o0 23 (s.env.map declA), s.c1.v, .sl s.o2 1 (strs s.classes), .sl s.o3 1 (strs s.insts), s.c4.v, .sl s.o5 1 (strs s.ns), .sl s.o6 1 (strs s.opens)]
def stA (s : SA) : AV := .agg (stC s)
def SA.small (s : SA) : Prop := s.env.length ≤ 1000 ∧ (∀ d ∈ s.env, d.small) ∧ s.ns.length ≤ 1000 ∧ s.opens.length ≤ 1000 ∧ (∀ x ∈ s.ns, x.length ≤ 100) ∧ ∀ x ∈ s.opens, x.length ≤ 1000

def declaredM (s : SA) (nm : List UInt8) : Bool := s.env.any fun d => (namesM d).contains nm

theorem declared_spec (s : SA) (hs : s.small) (nm : List UInt8) (hnm : nm.length ≤ 1000000) : Pure Tryd.prog 10 [stA s, .str nm] (.bool (declaredM s nm)) := fun M => by
  refine enter10 _ _ ?_
  simp only [cc10]
  refine CWp.seq ?_
  refine CWp.reg tt_ok ?_
  simp only [go_sem, Nat.reduceAdd, Nat.reduceLeDiff, Nat.reduceMul, Nat.reduceSub, Nat.reduceEqDiff, stA, stC]
  intro r hr
  repeat (first | refine CWp.seq ?_ | refine CWp.block ?_ | (refine CWp.ret ?_; try simp only [go_sem, Nat.reduceAdd, Nat.reduceLeDiff, Nat.reduceMul, Nat.reduceSub, Nat.reduceEqDiff]) | (refine CWp.skip ?_; try simp only [go_sem, Nat.reduceAdd, Nat.reduceLeDiff, Nat.reduceMul, Nat.reduceSub, Nat.reduceEqDiff]) | (refine CWp.reg tt_ok ?_; simp only [go_sem, Nat.reduceAdd, Nat.reduceLeDiff, Nat.reduceMul, Nat.reduceSub, Nat.reduceEqDiff]))
  have hp : PredAt 28 [.ptr r 0] declA (fun d => (namesM d).contains nm) s.env (M.set (.b r) (.cells [.str nm])) :=
    ⟨has28, fun d hd => decl1_spec d (hs.2.1 d hd) nm hnm r _ (Mem.set_same _ _ _)⟩
  refine COps.call has27 rfl (by simp) ((containsD_spec s.o0 s.env 28 [.ptr r 0] _ (by have := hs.1; omega) _ hp).mono ?_)
  rintro x M' ⟨rfl, rfl⟩
  refine evalC_sound tt_ok _ _ ?_
  simp only [go_sem, Nat.reduceAdd, Nat.reduceLeDiff, Nat.reduceMul, Nat.reduceSub, Nat.reduceEqDiff]
  repeat (first | refine CWp.seq ?_ | refine CWp.block ?_ | (refine CWp.ret ?_; try simp only [go_sem, Nat.reduceAdd, Nat.reduceLeDiff, Nat.reduceMul, Nat.reduceSub, Nat.reduceEqDiff]) | (refine CWp.skip ?_; try simp only [go_sem, Nat.reduceAdd, Nat.reduceLeDiff, Nat.reduceMul, Nat.reduceSub, Nat.reduceEqDiff]) | (refine CWp.reg tt_ok ?_; simp only [go_sem, Nat.reduceAdd, Nat.reduceLeDiff, Nat.reduceMul, Nat.reduceSub, Nat.reduceEqDiff]))
  refine Fin.ret1 (M' := M) (.inl rfl) rfl rfl rfl ?_ ⟨rfl, rfl⟩
  exact (Mem.sub.refl M).set_new hr

theorem declaredR_loop (s : SA) (hs : s.small) (nm : List UInt8) (hnm : nm.length ≤ 1000000) (M : Mem) (Q : AExit → St → Prop) : ∀ (n i : Nat), s.env.length - i < n → i ≤ s.env.length →
    ((s.env.drop i).any (fun d => (namesM d).contains nm) = true → ∀ t, t[4]? = some (.v (.bool true)) → Q .ret { tmps := t, loc := [some ((stC s).map .v)], rows := [], defs := [], M := M }) →
    ((s.env.drop i).any (fun d => (namesM d).contains nm) = false → Q (.exit 0) { tmps := lp11_0 (.v (.str nm)) (.lptr 0 0) (.v (.int .i64 (s.env.length : Int))), loc := [some ((stC s).map .v)], rows := [], defs := [], M := M }) →
    CLoop none Tryd.prog tt esc11 cc11_l0 Q { tmps := lp11_0 (.v (.str nm)) (.lptr 0 0) (.v (.int .i64 (i : Int))), loc := [some ((stC s).map .v)], rows := [], defs := [], M := M } := by
  intro n
  induction n with
  | zero => intro i h0 h1 hQ1 hQ2; omega
  | succ n ih =>
    intro i h0 h1 hQ1 hQ2
    refine CLoop.unroll ?_
    generalize hK : CLoop none Tryd.prog tt esc11 cc11_l0 Q = K
    have hlen : (s.env.map declA).length = s.env.length := by simp
    have hcl := hs.1
    simp only [cc11_l0, lp11_0, stC]
    repeat (first | refine CWp.seq ?_ | refine CWp.block ?_ | (refine CWp.ret ?_; try simp only [go_sem, Nat.reduceAdd, Nat.reduceLeDiff, Nat.reduceMul, Nat.reduceSub, Nat.reduceEqDiff]) | (refine CWp.skip ?_; try simp only [go_sem, Nat.reduceAdd, Nat.reduceLeDiff, Nat.reduceMul, Nat.reduceSub, Nat.reduceEqDiff]) | (refine CWp.reg tt_ok ?_; simp only [go_sem, Nat.reduceAdd, Nat.reduceLeDiff, Nat.reduceMul, Nat.reduceSub, Nat.reduceEqDiff]))
    simp only [hlen]
    refine CWp.cond rfl ?_ ?_ <;> intro hc
    · have hi : i < s.env.length := by simpa using hc
      have hx := map_at declA s.env i hi
      rw [List.drop_eq_getElem_cons hi] at hQ1 hQ2
      simp only [List.any_cons] at hQ1 hQ2
      refine CWp.skip ?_
      simp only [go_sem, Nat.reduceAdd, Nat.reduceLeDiff, Nat.reduceMul, Nat.reduceSub, Nat.reduceEqDiff]
      refine CWp.seq ?_
      refine CWp.block ?_
      refine CWp.seq ?_
      refine CWp.reg tt_ok ?_
      simp only [go_sem, Nat.reduceAdd, Nat.reduceLeDiff, Nat.reduceMul, Nat.reduceSub, Nat.reduceEqDiff, hx, hlen, declA, declC]
      repeat (with_reducible refine And.intro (by first | exact True.intro | assumption | omega | (intros; omega) | (intro hg; simp only [Bool.and_eq_true, Bool.or_eq_true, decide_eq_true_eq, Bool.not_eq_true', decide_eq_false_iff_not] at hg; omega) | (simp only [decide_eq_true_eq, Bool.and_eq_true, Bool.or_eq_true, Bool.not_eq_true', decide_eq_false_iff_not]; omega) | (intros; simp_all; done) | (intros; simp_all; omega)) ?_)
      have hsp := declares_spec s.env[i] (hs.2.1 _ (List.getElem_mem hi)) nm hnm
      simp only [declA, declC] at hsp
      refine COps.pure has31 rfl rfl (by simp) (fun _ => hsp) (evalC_sound tt_ok _ _ ?_)
      simp only [go_sem, Nat.reduceAdd, Nat.reduceLeDiff, Nat.reduceMul, Nat.reduceSub, Nat.reduceEqDiff]
      refine CWp.cond rfl ?_ ?_ <;> intro hc2
      · repeat (first | refine CWp.seq ?_ | refine CWp.block ?_ | (refine CWp.ret ?_; try simp only [go_sem, Nat.reduceAdd, Nat.reduceLeDiff, Nat.reduceMul, Nat.reduceSub, Nat.reduceEqDiff]) | (refine CWp.skip ?_; try simp only [go_sem, Nat.reduceAdd, Nat.reduceLeDiff, Nat.reduceMul, Nat.reduceSub, Nat.reduceEqDiff]) | (refine CWp.reg tt_ok ?_; simp only [go_sem, Nat.reduceAdd, Nat.reduceLeDiff, Nat.reduceMul, Nat.reduceSub, Nat.reduceEqDiff]))
        refine hQ1 ?_ _ rfl
        rw [hc2]; rfl
      · rw [hc2] at hQ1 hQ2
        simp only [Bool.false_or] at hQ1 hQ2
        repeat (first | refine CWp.seq ?_ | refine CWp.block ?_ | (refine CWp.ret ?_; try simp only [go_sem, Nat.reduceAdd, Nat.reduceLeDiff, Nat.reduceMul, Nat.reduceSub, Nat.reduceEqDiff]) | (refine CWp.skip ?_; try simp only [go_sem, Nat.reduceAdd, Nat.reduceLeDiff, Nat.reduceMul, Nat.reduceSub, Nat.reduceEqDiff]) | (refine CWp.reg tt_ok ?_; simp only [go_sem, Nat.reduceAdd, Nat.reduceLeDiff, Nat.reduceMul, Nat.reduceSub, Nat.reduceEqDiff]))
        repeat (with_reducible refine And.intro (by first | exact True.intro | assumption | omega | (intros; omega) | (intro hg; simp only [Bool.and_eq_true, Bool.or_eq_true, decide_eq_true_eq, Bool.not_eq_true', decide_eq_false_iff_not] at hg; omega) | (simp only [decide_eq_true_eq, Bool.and_eq_true, Bool.or_eq_true, Bool.not_eq_true', decide_eq_false_iff_not]; omega) | (intros; simp_all; done) | (intros; simp_all; omega)) ?_)
        rw [← hK]
        exact CLoop.junk (t := lp11_0 (.v (.str nm)) (.lptr 0 0) (.v (.int .i64 ((i + 1 : Nat) : Int)))) (ih (i + 1) (by omega) (by omega) hQ1 hQ2) (by simp [Junked, lp11_0])
    · have hi : i = s.env.length := by simp at hc; omega
      subst hi
      exact CWp.junk (t := lp11_0 (.v (.str nm)) (.lptr 0 0) (.v (.int .i64 (s.env.length : Int)))) (CWp.exit (hQ2 (by simp))) (by simp [Junked, lp11_0])

theorem declaredR_spec (s : SA) (hs : s.small) (nm : List UInt8) (hnm : nm.length ≤ 1000000) : Pure Tryd.prog 11 [stA s, .str nm] (.bool (declaredM s nm)) := fun M => by
  refine enter11 _ _ ?_
  simp only [cc11]
  refine CWp.seq ?_
  refine CWp.reg tt_ok ?_
  simp only [go_sem, Nat.reduceAdd, Nat.reduceLeDiff, Nat.reduceMul, Nat.reduceSub, Nat.reduceEqDiff, stA, stC]
  repeat (first | refine CWp.seq ?_ | refine CWp.block ?_ | (refine CWp.ret ?_; try simp only [go_sem, Nat.reduceAdd, Nat.reduceLeDiff, Nat.reduceMul, Nat.reduceSub, Nat.reduceEqDiff]) | (refine CWp.skip ?_; try simp only [go_sem, Nat.reduceAdd, Nat.reduceLeDiff, Nat.reduceMul, Nat.reduceSub, Nat.reduceEqDiff]) | (refine CWp.reg tt_ok ?_; simp only [go_sem, Nat.reduceAdd, Nat.reduceLeDiff, Nat.reduceMul, Nat.reduceSub, Nat.reduceEqDiff]))
  refine CWp.loop (CLoop.junk (t := lp11_0 (.v (.str nm)) (.lptr 0 0) (.v (.int .i64 ((0 : Nat) : Int)))) (declaredR_loop s hs nm hnm M _ (s.env.length + 1) 0 (by omega) (by omega) ?_ ?_) (by simp [Junked, lp11_0]))
  · intro h t ht
    rw [List.drop_zero] at h
    simp only [go_sem, Nat.reduceAdd, Nat.reduceLeDiff, Nat.reduceMul, Nat.reduceSub, Nat.reduceEqDiff]
    exact Fin.ret1 (.inl rfl) rfl rfl (by rw [ht]; rfl) (Mem.sub.refl _) ⟨by simp only [declaredM, h], rfl⟩
  · intro h
    rw [List.drop_zero] at h
    simp only [go_sem, Nat.reduceAdd, Nat.reduceLeDiff, Nat.reduceMul, Nat.reduceSub, Nat.reduceEqDiff, lp11_0]
    repeat (first | refine CWp.seq ?_ | refine CWp.block ?_ | (refine CWp.ret ?_; try simp only [go_sem, Nat.reduceAdd, Nat.reduceLeDiff, Nat.reduceMul, Nat.reduceSub, Nat.reduceEqDiff]) | (refine CWp.skip ?_; try simp only [go_sem, Nat.reduceAdd, Nat.reduceLeDiff, Nat.reduceMul, Nat.reduceSub, Nat.reduceEqDiff]) | (refine CWp.reg tt_ok ?_; simp only [go_sem, Nat.reduceAdd, Nat.reduceLeDiff, Nat.reduceMul, Nat.reduceSub, Nat.reduceEqDiff]))
    exact Fin.ret1 (.inl rfl) rfl rfl rfl (Mem.sub.refl _) ⟨by simp only [declaredM, h], rfl⟩
end Go.Proofs.ScA
