import Derived.Test.YtpephlhhdefdgaaDoorScF
set_option linter.unusedVariables false
set_option linter.unusedSimpArgs false
set_option maxRecDepth 100000
namespace Go.Proofs.ScA
open Go Go.Am Go.Proofs Go.RowKit
set_option linter.unusedSectionVars false

theorem clone_spec (own : Own) (l : List (List UInt8)) (hl : l.length ≤ 1000000) (M : Mem) : ACalls Tryd.prog 37 [.sl own 1 (strs l)] M fun e M' =>
    (l = [] ∧ e = .ret (.sl .full 1 []) ∧ M' = M) ∨ ∃ t, M (.w t) = none ∧ e = .ret (.sl (.srow t) 1 (strs l)) ∧ M' = M.set (.w t) (.row 9 1 l.length) := by
  refine enter37 _ ?_
  simp only [cc37]
  refine CWp.seq ?_
  refine CWp.reg tt_ok ?_
  simp only [go_sem, Nat.reduceAdd, Nat.reduceLeDiff, Nat.reduceMul, Nat.reduceSub, Nat.reduceEqDiff]
  refine CWp.seq ?_
  refine CWp.seq ?_
  refine CWp.regO ?_
  refine COps.step tt_ok (by intro o; simp) rfl True.intro ?_
  simp only [go_sem, Nat.reduceAdd, Nat.reduceLeDiff, Nat.reduceMul, Nat.reduceSub, Nat.reduceEqDiff]
  refine COps.nlAny tt_ok rfl ?_
  intro z hz
  refine COps.nil ?_
  simp only [go_sem, Nat.reduceAdd, Nat.reduceLeDiff, Nat.reduceMul, Nat.reduceSub, Nat.reduceEqDiff]
  refine CWp.cond rfl ?_ ?_ <;> intro h
  · have h : z = true := h
    have hl0 : l = [] := by
      have := hz h
      cases l with
      | nil => rfl
      | cons x l => cases this
    repeat (first | refine CWp.seq ?_ | refine CWp.block ?_ | (refine CWp.ret ?_; try simp only [go_sem, Nat.reduceAdd, Nat.reduceLeDiff, Nat.reduceMul, Nat.reduceSub, Nat.reduceEqDiff]) | (refine CWp.skip ?_; try simp only [go_sem, Nat.reduceAdd, Nat.reduceLeDiff, Nat.reduceMul, Nat.reduceSub, Nat.reduceEqDiff]) | (refine CWp.reg tt_ok ?_; simp only [go_sem, Nat.reduceAdd, Nat.reduceLeDiff, Nat.reduceMul, Nat.reduceSub, Nat.reduceEqDiff]))
    exact Fin.ret1 (.inl rfl) rfl rfl rfl (Mem.sub.refl _) (.inl ⟨hl0, rfl, rfl⟩)
  · refine CWp.skip ?_
    simp only [go_sem, Nat.reduceAdd, Nat.reduceLeDiff, Nat.reduceMul, Nat.reduceSub, Nat.reduceEqDiff]
    refine CWp.seq ?_
    refine CWp.regO ?_
    refine COps.step tt_ok (by intro o; simp) rfl ⟨True.intro, by simp⟩ ?_
    simp only [go_sem, Nat.reduceAdd, Nat.reduceLeDiff, Nat.reduceMul, Nat.reduceSub, Nat.reduceEqDiff]
    refine COps.own (i := 5) (sz := 1) 9 rfl ?_
    refine evalC_sound tt_ok _ _ ?_
    simp only [go_sem, Nat.reduceAdd, Nat.reduceLeDiff, Nat.reduceMul, Nat.reduceSub, Nat.reduceEqDiff, strs_len]
    repeat (with_reducible refine And.intro (by first | exact True.intro | assumption | omega | (intros; omega) | (intro hg; simp only [Bool.and_eq_true, Bool.or_eq_true, decide_eq_true_eq, Bool.not_eq_true', decide_eq_false_iff_not] at hg; omega) | (simp only [decide_eq_true_eq, Bool.and_eq_true, Bool.or_eq_true, Bool.not_eq_true', decide_eq_false_iff_not]; omega) | (intros; simp_all; done) | (intros; simp_all; omega)) ?_)
    refine CWp.junk (t := [.junk, .junk, .lsl 0 1 (strs l), .junk, .junk, .junk, .junk, .junk]) ?_ (by simp [Junked])
    refine CWp.handsOut (i := 2) rfl rfl ?_ rfl ?_
    · intro j x hj hx k' s' l'
      match j, hj, hx with
      | 0, _, hx => cases hx; exact ⟨by simp, by simp⟩
      | 1, _, hx => cases hx; exact ⟨by simp, by simp⟩
      | 2, hj, _ => exact absurd rfl hj
      | 3, _, hx => cases hx; exact ⟨by simp, by simp⟩
      | 4, _, hx => cases hx; exact ⟨by simp, by simp⟩
      | 5, _, hx => cases hx; exact ⟨by simp, by simp⟩
      | 6, _, hx => cases hx; exact ⟨by simp, by simp⟩
      | 7, _, hx => cases hx; exact ⟨by simp, by simp⟩
      | j + 8, _, hx => cases hx
    · intro t ht
      repeat (first | refine CWp.seq ?_ | refine CWp.block ?_ | (refine CWp.ret ?_; try simp only [go_sem, Nat.reduceAdd, Nat.reduceLeDiff, Nat.reduceMul, Nat.reduceSub, Nat.reduceEqDiff]) | (refine CWp.skip ?_; try simp only [go_sem, Nat.reduceAdd, Nat.reduceLeDiff, Nat.reduceMul, Nat.reduceSub, Nat.reduceEqDiff]) | (refine CWp.reg tt_ok ?_; simp only [go_sem, Nat.reduceAdd, Nat.reduceLeDiff, Nat.reduceMul, Nat.reduceSub, Nat.reduceEqDiff]))
      exact Fin.ret1 (.inl rfl) rfl rfl rfl (Mem.sub.refl _) (.inr ⟨t, ht, rfl, rfl⟩)

def joinedM (l : List (List UInt8)) (nm : List UInt8) : List UInt8 := Lib.join (l ++ [nm]) [46]
theorem joinedM_eq (l : List (List UInt8)) (nm : List UInt8) : joinedM l nm = joinR l nm := by
  unfold joinedM joinR
  cases l with
  | nil => simp [Lib.join, List.intercalate]
  | cons x l =>
    rw [List.cons_append, Lib.join_cons]
    have : ∀ (x : List UInt8) (l : List (List UInt8)), x ++ Lib.joinTail [46] (l ++ [nm]) = ((x :: l).map (· ++ [46])).flatten ++ nm := by
      intro x l
      induction l generalizing x with
      | nil => simp [Lib.joinTail]
      | cons y l ih =>
        have h := ih y
        have e : Lib.joinTail [46] (y :: l ++ [nm]) = [46] ++ (y ++ Lib.joinTail [46] (l ++ [nm])) := by simp [Lib.joinTail]
        rw [e, h]
        simp
    exact this x l
def sizesS (l : List (List UInt8)) : Nat := ((l.map (· ++ [46])).flatten).length

theorem joined_spec (own : Own) (l : List (List UInt8)) (nm : List UInt8) (hl : l.length ≤ 1000000) (hsz : sizesS l ≤ 1000000) (hnm : nm.length ≤ 1000000) :
    Pure Tryd.prog 21 [.sl own 1 (strs l), .str nm] (.str (joinedM l nm)) := fun M => by
  have hlen : (joinedM l nm).length ≤ 140737488355328 := by
    rw [joinedM_eq]; unfold joinR; unfold sizesS at hsz
    rw [List.length_append]; omega
  refine enter21 _ _ ?_
  simp only [cc21]
  repeat (first | refine CWp.seq ?_ | refine CWp.block ?_ | (refine CWp.ret ?_; try simp only [go_sem, Nat.reduceAdd, Nat.reduceLeDiff, Nat.reduceMul, Nat.reduceSub, Nat.reduceEqDiff]) | (refine CWp.skip ?_; try simp only [go_sem, Nat.reduceAdd, Nat.reduceLeDiff, Nat.reduceMul, Nat.reduceSub, Nat.reduceEqDiff]) | (refine CWp.reg tt_ok ?_; simp only [go_sem, Nat.reduceAdd, Nat.reduceLeDiff, Nat.reduceMul, Nat.reduceSub, Nat.reduceEqDiff]))
  refine COps.call has37 rfl (by simp) ((clone_spec own l hl M).mono ?_)
  rintro x M' (⟨rfl, rfl, rfl⟩ | ⟨t, ht, rfl, rfl⟩)
  · refine evalC_sound tt_ok _ _ ?_
    simp only [go_sem, Nat.reduceAdd, Nat.reduceLeDiff, Nat.reduceMul, Nat.reduceSub, Nat.reduceEqDiff]
    repeat (with_reducible refine And.intro (by first | exact True.intro | assumption | omega | (intros; omega) | (intro hg; simp only [Bool.and_eq_true, Bool.or_eq_true, decide_eq_true_eq, Bool.not_eq_true', decide_eq_false_iff_not] at hg; omega) | (simp only [decide_eq_true_eq, Bool.and_eq_true, Bool.or_eq_true, Bool.not_eq_true', decide_eq_false_iff_not]; omega) | (intros; simp_all; done) | (intros; simp_all; omega)) ?_)
    have hj := join_spec .no [nm] [46] (by simp) hlen
    refine COps.pure has36 rfl rfl (by simp) (fun _ => hj) (evalC_sound tt_ok _ _ ?_)
    simp only [go_sem, Nat.reduceAdd, Nat.reduceLeDiff, Nat.reduceMul, Nat.reduceSub, Nat.reduceEqDiff]
    repeat (first | refine CWp.seq ?_ | refine CWp.block ?_ | (refine CWp.ret ?_; try simp only [go_sem, Nat.reduceAdd, Nat.reduceLeDiff, Nat.reduceMul, Nat.reduceSub, Nat.reduceEqDiff]) | (refine CWp.skip ?_; try simp only [go_sem, Nat.reduceAdd, Nat.reduceLeDiff, Nat.reduceMul, Nat.reduceSub, Nat.reduceEqDiff]) | (refine CWp.reg tt_ok ?_; simp only [go_sem, Nat.reduceAdd, Nat.reduceLeDiff, Nat.reduceMul, Nat.reduceSub, Nat.reduceEqDiff]))
    exact Fin.ret1 (.inl rfl) rfl rfl rfl (Mem.sub.refl _) ⟨rfl, rfl⟩
  · refine evalC_sound tt_ok _ _ ?_
    simp only [go_sem, Nat.reduceAdd, Nat.reduceLeDiff, Nat.reduceMul, Nat.reduceSub, Nat.reduceEqDiff, Mem.set_same, strs_len]
    repeat (with_reducible refine And.intro (by first | exact True.intro | assumption | omega | (intros; omega) | (intro hg; simp only [Bool.and_eq_true, Bool.or_eq_true, decide_eq_true_eq, Bool.not_eq_true', decide_eq_false_iff_not] at hg; omega) | (simp only [decide_eq_true_eq, Bool.and_eq_true, Bool.or_eq_true, Bool.not_eq_true', decide_eq_false_iff_not]; omega) | (intros; simp_all; done) | (intros; simp_all; omega)) ?_)
    have hj := join_spec (.srow t) (l ++ [nm]) [46] (by simp; omega) hlen
    rw [strs_append] at hj
    refine COps.pure has36 rfl rfl (by simp) (fun _ => hj) (evalC_sound tt_ok _ _ ?_)
    simp only [go_sem, Nat.reduceAdd, Nat.reduceLeDiff, Nat.reduceMul, Nat.reduceSub, Nat.reduceEqDiff]
    repeat (first | refine CWp.seq ?_ | refine CWp.block ?_ | (refine CWp.ret ?_; try simp only [go_sem, Nat.reduceAdd, Nat.reduceLeDiff, Nat.reduceMul, Nat.reduceSub, Nat.reduceEqDiff]) | (refine CWp.skip ?_; try simp only [go_sem, Nat.reduceAdd, Nat.reduceLeDiff, Nat.reduceMul, Nat.reduceSub, Nat.reduceEqDiff]) | (refine CWp.reg tt_ok ?_; simp only [go_sem, Nat.reduceAdd, Nat.reduceLeDiff, Nat.reduceMul, Nat.reduceSub, Nat.reduceEqDiff]))
    refine Fin.ret1 (M' := M) (.inl rfl) rfl rfl rfl ?_ ⟨rfl, rfl⟩
    intro k o hk
    have hne : k ≠ .w t := by rintro rfl; rw [ht] at hk; cases hk
    show Mem.set (Mem.set M _ _) _ _ k = _
    rw [Mem.set_other _ _ _ _ hne, Mem.set_other _ _ _ _ hne]
    exact hk

theorem qualify_spec (s : SA) (nm : List UInt8) (hl : s.ns.length ≤ 1000000) (hsz : sizesS s.ns ≤ 1000000) (hnm : nm.length ≤ 1000000) : Pure Tryd.prog 12 [stA s, .str nm] (.str (joinedM s.ns nm)) := fun M => by
  refine enter12 _ _ ?_
  simp only [cc12]
  refine CWp.seq ?_
  refine CWp.reg tt_ok ?_
  simp only [go_sem, Nat.reduceAdd, Nat.reduceLeDiff, Nat.reduceMul, Nat.reduceSub, Nat.reduceEqDiff, stA, stC]
  repeat (first | refine CWp.seq ?_ | refine CWp.block ?_ | (refine CWp.ret ?_; try simp only [go_sem, Nat.reduceAdd, Nat.reduceLeDiff, Nat.reduceMul, Nat.reduceSub, Nat.reduceEqDiff]) | (refine CWp.skip ?_; try simp only [go_sem, Nat.reduceAdd, Nat.reduceLeDiff, Nat.reduceMul, Nat.reduceSub, Nat.reduceEqDiff]) | (refine CWp.reg tt_ok ?_; simp only [go_sem, Nat.reduceAdd, Nat.reduceLeDiff, Nat.reduceMul, Nat.reduceSub, Nat.reduceEqDiff]))
  refine COps.pure has21 rfl rfl (by simp) (fun _ => joined_spec _ _ _ hl hsz hnm) (evalC_sound tt_ok _ _ ?_)
  simp only [go_sem, Nat.reduceAdd, Nat.reduceLeDiff, Nat.reduceMul, Nat.reduceSub, Nat.reduceEqDiff]
  repeat (first | refine CWp.seq ?_ | refine CWp.block ?_ | (refine CWp.ret ?_; try simp only [go_sem, Nat.reduceAdd, Nat.reduceLeDiff, Nat.reduceMul, Nat.reduceSub, Nat.reduceEqDiff]) | (refine CWp.skip ?_; try simp only [go_sem, Nat.reduceAdd, Nat.reduceLeDiff, Nat.reduceMul, Nat.reduceSub, Nat.reduceEqDiff]) | (refine CWp.reg tt_ok ?_; simp only [go_sem, Nat.reduceAdd, Nat.reduceLeDiff, Nat.reduceMul, Nat.reduceSub, Nat.reduceEqDiff]))
  exact Fin.ret1 (.inl rfl) rfl rfl rfl (Mem.sub.refl _) ⟨rfl, rfl⟩

theorem qualifyR_spec (s : SA) (nm : List UInt8) (hl : s.ns.length ≤ 1000000) (hsz : sizesS s.ns ≤ 1000000) (hnm : nm.length ≤ 1000000) : Pure Tryd.prog 13 [stA s, .str nm] (.str (joinedM s.ns nm)) := fun M => by
  rw [joinedM_eq]
  refine enter13 _ _ ?_
  simp only [cc13]
  refine CWp.seq ?_
  refine CWp.reg tt_ok ?_
  simp only [go_sem, Nat.reduceAdd, Nat.reduceLeDiff, Nat.reduceMul, Nat.reduceSub, Nat.reduceEqDiff, stA, stC]
  repeat (first | refine CWp.seq ?_ | refine CWp.block ?_ | (refine CWp.ret ?_; try simp only [go_sem, Nat.reduceAdd, Nat.reduceLeDiff, Nat.reduceMul, Nat.reduceSub, Nat.reduceEqDiff]) | (refine CWp.skip ?_; try simp only [go_sem, Nat.reduceAdd, Nat.reduceLeDiff, Nat.reduceMul, Nat.reduceSub, Nat.reduceEqDiff]) | (refine CWp.reg tt_ok ?_; simp only [go_sem, Nat.reduceAdd, Nat.reduceLeDiff, Nat.reduceMul, Nat.reduceSub, Nat.reduceEqDiff]))
  simp only [strs_len]
  have hj := joinR_spec s.o5 s.ns s.ns.length (Nat.le_refl _) nm hl (by rw [List.take_length]; exact hsz) hnm
  rw [List.take_length] at hj
  refine COps.pure has24 rfl rfl (by simp) (fun _ => hj) (evalC_sound tt_ok _ _ ?_)
  simp only [go_sem, Nat.reduceAdd, Nat.reduceLeDiff, Nat.reduceMul, Nat.reduceSub, Nat.reduceEqDiff]
  repeat (first | refine CWp.seq ?_ | refine CWp.block ?_ | (refine CWp.ret ?_; try simp only [go_sem, Nat.reduceAdd, Nat.reduceLeDiff, Nat.reduceMul, Nat.reduceSub, Nat.reduceEqDiff]) | (refine CWp.skip ?_; try simp only [go_sem, Nat.reduceAdd, Nat.reduceLeDiff, Nat.reduceMul, Nat.reduceSub, Nat.reduceEqDiff]) | (refine CWp.reg tt_ok ?_; simp only [go_sem, Nat.reduceAdd, Nat.reduceLeDiff, Nat.reduceMul, Nat.reduceSub, Nat.reduceEqDiff]))
  exact Fin.ret1 (.inl rfl) rfl rfl rfl (Mem.sub.refl _) ⟨rfl, rfl⟩
end Go.Proofs.ScA
