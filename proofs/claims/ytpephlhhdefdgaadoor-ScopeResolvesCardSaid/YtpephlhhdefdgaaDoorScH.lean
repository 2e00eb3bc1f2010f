import Derived.Test.YtpephlhhdefdgaaDoorScG
set_option linter.unusedVariables false
set_option linter.unusedSimpArgs false
set_option maxRecDepth 100000
namespace Go.Proofs.ScA
open Go Go.Am Go.Proofs Go.RowKit
set_option linter.unusedSectionVars false

def openedL (s : SA) (nm : List UInt8) : List (List UInt8) → List (List UInt8) → List (List UInt8)
  | [], acc => acc
  | o :: r, acc => bif declaredM s (joinedM [o] nm) && !acc.contains (joinedM [o] nm) then openedL s nm r (acc ++ [joinedM [o] nm]) else openedL s nm r acc

theorem opened_loop (s : SA) (hs : s.small) (nm : List UInt8) (hnm : nm.length ≤ 1000) (M : Mem) (Q : AExit → St → Prop) : ∀ (n i : Nat) (acc : List (List UInt8)), s.opens.length - i < n → i ≤ s.opens.length → acc.length ≤ i →
    (∀ acc', openedL s nm (s.opens.drop i) acc = acc' → Q (.exit 0) { tmps := lp22_0 (.v (.str nm)) (.lptr 0 0) (.lsl 0 1 (strs acc')) (.v (.sl s.o6 1 (strs s.opens))) (.v (.int .i64 (s.opens.length : Int))) (.v (.int .i64 (s.opens.length : Int))), loc := [some ((stC s).map .v)], rows := [(9, 1, acc'.length)], defs := [], M := M }) →
    CLoop none Tryd.prog tt esc22 cc22_l0 Q { tmps := lp22_0 (.v (.str nm)) (.lptr 0 0) (.lsl 0 1 (strs acc)) (.v (.sl s.o6 1 (strs s.opens))) (.v (.int .i64 (s.opens.length : Int))) (.v (.int .i64 (i : Int))), loc := [some ((stC s).map .v)], rows := [(9, 1, acc.length)], defs := [], M := M } := by
  intro n
  induction n with
  | zero => intro i acc h0 h1 h2 hQ; omega
  | succ n ih =>
    intro i acc h0 h1 h2 hQ
    refine CLoop.unroll ?_
    generalize hK : CLoop none Tryd.prog tt esc22 cc22_l0 Q = K
    simp only [cc22_l0, lp22_0, stC]
    have hcl := hs.2.2.2.1
    repeat (first | refine CWp.seq ?_ | refine CWp.block ?_ | (refine CWp.ret ?_; try simp only [go_sem, Nat.reduceAdd, Nat.reduceLeDiff, Nat.reduceMul, Nat.reduceSub, Nat.reduceEqDiff]) | (refine CWp.skip ?_; try simp only [go_sem, Nat.reduceAdd, Nat.reduceLeDiff, Nat.reduceMul, Nat.reduceSub, Nat.reduceEqDiff]) | (refine CWp.reg tt_ok ?_; simp only [go_sem, Nat.reduceAdd, Nat.reduceLeDiff, Nat.reduceMul, Nat.reduceSub, Nat.reduceEqDiff]))
    refine CWp.cond rfl ?_ ?_ <;> intro hc
    · have hi : i < s.opens.length := by simpa using hc
      have hx := strs_at s.opens i s.opens[i] (List.getElem?_eq_getElem hi)
      have ho := hs.2.2.2.2.2 s.opens[i] (List.getElem_mem hi)
      rw [List.drop_eq_getElem_cons hi] at hQ
      simp only [openedL] at hQ
      refine CWp.skip ?_
      simp only [go_sem, Nat.reduceAdd, Nat.reduceLeDiff, Nat.reduceMul, Nat.reduceSub, Nat.reduceEqDiff]
      refine CWp.seq ?_
      refine CWp.block ?_
      refine CWp.seq ?_
      refine CWp.reg tt_ok ?_
      simp only [go_sem, Nat.reduceAdd, Nat.reduceLeDiff, Nat.reduceMul, Nat.reduceSub, Nat.reduceEqDiff, hx, strs_len]
      repeat (with_reducible refine And.intro (by first | exact True.intro | assumption | omega | (intros; omega) | (intro hg; simp only [Bool.and_eq_true, Bool.or_eq_true, decide_eq_true_eq, Bool.not_eq_true', decide_eq_false_iff_not] at hg; omega) | (simp only [decide_eq_true_eq, Bool.and_eq_true, Bool.or_eq_true, Bool.not_eq_true', decide_eq_false_iff_not]; omega) | (intros; simp_all; done) | (intros; simp_all; omega)) ?_)
      repeat (first | refine CWp.seq ?_ | refine CWp.block ?_ | (refine CWp.ret ?_; try simp only [go_sem, Nat.reduceAdd, Nat.reduceLeDiff, Nat.reduceMul, Nat.reduceSub, Nat.reduceEqDiff]) | (refine CWp.skip ?_; try simp only [go_sem, Nat.reduceAdd, Nat.reduceLeDiff, Nat.reduceMul, Nat.reduceSub, Nat.reduceEqDiff]) | (refine CWp.reg tt_ok ?_; simp only [go_sem, Nat.reduceAdd, Nat.reduceLeDiff, Nat.reduceMul, Nat.reduceSub, Nat.reduceEqDiff]))
      repeat (with_reducible refine And.intro (by first | exact True.intro | assumption | omega | (intros; omega) | (intro hg; simp only [Bool.and_eq_true, Bool.or_eq_true, decide_eq_true_eq, Bool.not_eq_true', decide_eq_false_iff_not] at hg; omega) | (simp only [decide_eq_true_eq, Bool.and_eq_true, Bool.or_eq_true, Bool.not_eq_true', decide_eq_false_iff_not]; omega) | (intros; simp_all; done) | (intros; simp_all; omega)) ?_)
      have hj := joined_spec .full [s.opens[i]] nm (by simp) (by simp [sizesS]; omega) (by omega)
      have hjl : (joinedM [s.opens[i]] nm).length ≤ 1000000 := by rw [joinedM_eq]; simp [joinR]; omega
      refine COps.pure has21 rfl rfl (by simp) (fun _ => hj) (evalC_sound tt_ok _ _ ?_)
      simp only [go_sem, Nat.reduceAdd, Nat.reduceLeDiff, Nat.reduceMul, Nat.reduceSub, Nat.reduceEqDiff]
      repeat (first | refine CWp.seq ?_ | refine CWp.block ?_ | (refine CWp.ret ?_; try simp only [go_sem, Nat.reduceAdd, Nat.reduceLeDiff, Nat.reduceMul, Nat.reduceSub, Nat.reduceEqDiff]) | (refine CWp.skip ?_; try simp only [go_sem, Nat.reduceAdd, Nat.reduceLeDiff, Nat.reduceMul, Nat.reduceSub, Nat.reduceEqDiff]) | (refine CWp.reg tt_ok ?_; simp only [go_sem, Nat.reduceAdd, Nat.reduceLeDiff, Nat.reduceMul, Nat.reduceSub, Nat.reduceEqDiff]))
      generalize joinedM [s.opens[i]] nm = x at *
      have hd := declared_spec s hs x hjl
      simp only [stA, stC] at hd
      refine COps.pure has10 rfl rfl (by simp) (fun _ => hd) (evalC_sound tt_ok _ _ ?_)
      simp only [go_sem, Nat.reduceAdd, Nat.reduceLeDiff, Nat.reduceMul, Nat.reduceSub, Nat.reduceEqDiff]
      refine COps.pure has29 rfl rfl (by simp) (fun _ => contains_spec .no acc x (by omega)) (evalC_sound tt_ok _ _ ?_)
      simp only [go_sem, Nat.reduceAdd, Nat.reduceLeDiff, Nat.reduceMul, Nat.reduceSub, Nat.reduceEqDiff]
      repeat (with_reducible refine And.intro (by first | exact True.intro | assumption | omega | (intros; omega) | (intro hg; simp only [Bool.and_eq_true, Bool.or_eq_true, decide_eq_true_eq, Bool.not_eq_true', decide_eq_false_iff_not] at hg; omega) | (simp only [decide_eq_true_eq, Bool.and_eq_true, Bool.or_eq_true, Bool.not_eq_true', decide_eq_false_iff_not]; omega) | (intros; simp_all; done) | (intros; simp_all; omega)) ?_)
      refine CWp.cond rfl ?_ ?_ <;> intro hc2
      · rw [hc2] at hQ
        simp only [cond_true] at hQ
        repeat (first | refine CWp.seq ?_ | refine CWp.block ?_ | (refine CWp.ret ?_; try simp only [go_sem, Nat.reduceAdd, Nat.reduceLeDiff, Nat.reduceMul, Nat.reduceSub, Nat.reduceEqDiff]) | (refine CWp.skip ?_; try simp only [go_sem, Nat.reduceAdd, Nat.reduceLeDiff, Nat.reduceMul, Nat.reduceSub, Nat.reduceEqDiff]) | (refine CWp.reg tt_ok ?_; simp only [go_sem, Nat.reduceAdd, Nat.reduceLeDiff, Nat.reduceMul, Nat.reduceSub, Nat.reduceEqDiff]))
        simp only [strs_len]
        refine ⟨by simp; omega, ?_⟩
        repeat (first | refine CWp.seq ?_ | refine CWp.block ?_ | (refine CWp.ret ?_; try simp only [go_sem, Nat.reduceAdd, Nat.reduceLeDiff, Nat.reduceMul, Nat.reduceSub, Nat.reduceEqDiff]) | (refine CWp.skip ?_; try simp only [go_sem, Nat.reduceAdd, Nat.reduceLeDiff, Nat.reduceMul, Nat.reduceSub, Nat.reduceEqDiff]) | (refine CWp.reg tt_ok ?_; simp only [go_sem, Nat.reduceAdd, Nat.reduceLeDiff, Nat.reduceMul, Nat.reduceSub, Nat.reduceEqDiff]))
        repeat (with_reducible refine And.intro (by first | exact True.intro | assumption | omega | (intros; omega) | (intro hg; simp only [Bool.and_eq_true, Bool.or_eq_true, decide_eq_true_eq, Bool.not_eq_true', decide_eq_false_iff_not] at hg; omega) | (simp only [decide_eq_true_eq, Bool.and_eq_true, Bool.or_eq_true, Bool.not_eq_true', decide_eq_false_iff_not]; omega) | (intros; simp_all; done) | (intros; simp_all; omega)) ?_)
        rw [← hK]
        have e1 : strs acc ++ [AV.str x] = strs (acc ++ [x]) := by rw [strs_append]; rfl
        have e2 : acc.length + 1 = (acc ++ [x]).length := by simp
        rw [e1, e2]
        exact CLoop.junk (t := lp22_0 (.v (.str nm)) (.lptr 0 0) (.lsl 0 1 (strs (acc ++ [x]))) (.v (.sl s.o6 1 (strs s.opens))) (.v (.int .i64 (s.opens.length : Int))) (.v (.int .i64 ((i + 1 : Nat) : Int)))) (ih (i + 1) _ (by omega) (by omega) (by simp; omega) hQ) (by simp [Junked, lp22_0])
      · rw [hc2] at hQ
        simp only [cond_false] at hQ
        repeat (first | refine CWp.seq ?_ | refine CWp.block ?_ | (refine CWp.ret ?_; try simp only [go_sem, Nat.reduceAdd, Nat.reduceLeDiff, Nat.reduceMul, Nat.reduceSub, Nat.reduceEqDiff]) | (refine CWp.skip ?_; try simp only [go_sem, Nat.reduceAdd, Nat.reduceLeDiff, Nat.reduceMul, Nat.reduceSub, Nat.reduceEqDiff]) | (refine CWp.reg tt_ok ?_; simp only [go_sem, Nat.reduceAdd, Nat.reduceLeDiff, Nat.reduceMul, Nat.reduceSub, Nat.reduceEqDiff]))
        repeat (with_reducible refine And.intro (by first | exact True.intro | assumption | omega | (intros; omega) | (intro hg; simp only [Bool.and_eq_true, Bool.or_eq_true, decide_eq_true_eq, Bool.not_eq_true', decide_eq_false_iff_not] at hg; omega) | (simp only [decide_eq_true_eq, Bool.and_eq_true, Bool.or_eq_true, Bool.not_eq_true', decide_eq_false_iff_not]; omega) | (intros; simp_all; done) | (intros; simp_all; omega)) ?_)
        rw [← hK]
        exact CLoop.junk (t := lp22_0 (.v (.str nm)) (.lptr 0 0) (.lsl 0 1 (strs acc)) (.v (.sl s.o6 1 (strs s.opens))) (.v (.int .i64 (s.opens.length : Int))) (.v (.int .i64 ((i + 1 : Nat) : Int)))) (ih (i + 1) _ (by omega) (by omega) (by omega) hQ) (by simp [Junked, lp22_0])
    · have hi : i = s.opens.length := by simp at hc; omega
      subst hi
      refine CWp.junk (t := lp22_0 (.v (.str nm)) (.lptr 0 0) (.lsl 0 1 (strs acc)) (.v (.sl s.o6 1 (strs s.opens))) (.v (.int .i64 (s.opens.length : Int))) (.v (.int .i64 (s.opens.length : Int)))) (CWp.exit (hQ _ (by simp [openedL]))) (by simp [Junked, lp22_0])

theorem opened_spec (s : SA) (hs : s.small) (nm : List UInt8) (hnm : nm.length ≤ 1000) : Pure Tryd.prog 22 [stA s, .str nm] (.sl .no 1 (strs (openedL s nm s.opens []))) := fun M => by
  refine enter22 _ _ ?_
  simp only [cc22]
  refine CWp.seq ?_
  refine CWp.reg tt_ok ?_
  simp only [go_sem, Nat.reduceAdd, Nat.reduceLeDiff, Nat.reduceMul, Nat.reduceSub, Nat.reduceEqDiff, stA, stC]
  refine CWp.seq ?_
  refine CWp.reg tt_ok ?_
  simp only [go_sem, Nat.reduceAdd, Nat.reduceLeDiff, Nat.reduceMul, Nat.reduceSub, Nat.reduceEqDiff]
  refine CWp.own (i := 5) (sz := 1) 9 rfl ?_
  simp only [go_sem, Nat.reduceAdd, Nat.reduceLeDiff, Nat.reduceMul, Nat.reduceSub, Nat.reduceEqDiff]
  repeat (first | refine CWp.seq ?_ | refine CWp.block ?_ | (refine CWp.ret ?_; try simp only [go_sem, Nat.reduceAdd, Nat.reduceLeDiff, Nat.reduceMul, Nat.reduceSub, Nat.reduceEqDiff]) | (refine CWp.skip ?_; try simp only [go_sem, Nat.reduceAdd, Nat.reduceLeDiff, Nat.reduceMul, Nat.reduceSub, Nat.reduceEqDiff]) | (refine CWp.reg tt_ok ?_; simp only [go_sem, Nat.reduceAdd, Nat.reduceLeDiff, Nat.reduceMul, Nat.reduceSub, Nat.reduceEqDiff]))
  simp only [strs_len]
  refine CWp.loop (CLoop.junk (t := lp22_0 (.v (.str nm)) (.lptr 0 0) (.lsl 0 1 (strs [])) (.v (.sl s.o6 1 (strs s.opens))) (.v (.int .i64 (s.opens.length : Int))) (.v (.int .i64 ((0 : Nat) : Int)))) (opened_loop s hs nm hnm M _ (s.opens.length + 1) 0 [] (by omega) (by omega) (by simp) ?_) (by simp [Junked, lp22_0, strs]))
  intro acc' h
  rw [List.drop_zero] at h
  simp only [go_sem, Nat.reduceAdd, Nat.reduceLeDiff, Nat.reduceMul, Nat.reduceSub, Nat.reduceEqDiff, lp22_0]
  repeat (first | refine CWp.seq ?_ | refine CWp.block ?_ | (refine CWp.ret ?_; try simp only [go_sem, Nat.reduceAdd, Nat.reduceLeDiff, Nat.reduceMul, Nat.reduceSub, Nat.reduceEqDiff]) | (refine CWp.skip ?_; try simp only [go_sem, Nat.reduceAdd, Nat.reduceLeDiff, Nat.reduceMul, Nat.reduceSub, Nat.reduceEqDiff]) | (refine CWp.reg tt_ok ?_; simp only [go_sem, Nat.reduceAdd, Nat.reduceLeDiff, Nat.reduceMul, Nat.reduceSub, Nat.reduceEqDiff]))
  exact Fin.ret1 (.inl rfl) rfl rfl rfl (Mem.sub.refl _) ⟨by rw [h], rfl⟩
end Go.Proofs.ScA
