import Derived.Test.YticifcoffgoajaaDoorLxLE
set_option linter.unusedVariables false
set_option linter.unusedSimpArgs false
set_option maxRecDepth 100000
namespace Go.Proofs.LxA
open Go Go.Am Go.Proofs Go.RowKit
set_option linter.unusedSectionVars false

theorem scanM_err (s : List UInt8) (sy : List (List UInt8)) (h : (scanM s sy).2.2 ≠ 0) : (scanM s sy).1 = [] := by
  unfold scanM at h ⊢
  cases h1 : sy.any fun x => !symM x with
  | true => rfl
  | false =>
    rw [h1] at h
    simp only [cond_false] at h ⊢
    cases h2 : decide (s.length > 65536) with
    | true => rfl
    | false =>
      rw [h2] at h
      exact scanL_err s sy _ _ _ h

theorem covers_law (own : Own) (s : List UInt8) (sy : List (List UInt8)) (hs : s.length ≤ 9223372036854775806) (hlen : sy.length ≤ 9223372036854775806) :
    Pure Tryd.prog 5 [.str s, .sl own 1 (strs sy)] (.bool true) := fun M => by
  refine enter5 _ _ ?_
  simp only [cc5]
  refine CWp.seq ?_
  refine CWp.reg tt_ok ?_
  simp only [go_sem, Nat.reduceAdd, Nat.reduceLeDiff, Nat.reduceMul, Nat.reduceSub, Nat.reduceEqDiff]
  refine CWp.seq ?_
  refine CWp.seq ?_
  refine CWp.reg tt_ok ?_
  simp only [go_sem, Nat.reduceAdd, Nat.reduceLeDiff, Nat.reduceMul, Nat.reduceSub, Nat.reduceEqDiff]
  refine COps.pure has10 rfl rfl (by simp) (fun _ => few_spec own sy hlen) (evalC_sound tt_ok _ _ ?_)
  simp only [go_sem, Nat.reduceAdd, Nat.reduceLeDiff, Nat.reduceMul, Nat.reduceSub, Nat.reduceEqDiff]
  repeat (with_reducible refine And.intro (by first | exact True.intro | assumption | omega | (intros; omega) | (intro hg; simp only [Bool.and_eq_true, Bool.or_eq_true, decide_eq_true_eq, Bool.not_eq_true', decide_eq_false_iff_not] at hg; omega) | (simp only [decide_eq_true_eq, Bool.and_eq_true, Bool.or_eq_true, Bool.not_eq_true', decide_eq_false_iff_not]; omega) | (intros; simp_all; done) | (intros; simp_all; omega)) ?_)
  have hk : decide ((1000 : Int) < (s.length : Int)) = decide (1000 < s.length) := decide_eq_decide.2 (by omega)
  simp only [hk]
  refine CWp.cond rfl ?_ ?_ <;> intro hc
  · refine CWp.seq ?_
    refine CWp.reg tt_ok ?_
    simp only [go_sem, Nat.reduceAdd, Nat.reduceLeDiff, Nat.reduceMul, Nat.reduceSub, Nat.reduceEqDiff]
    refine COps.pure has11 rfl rfl (by simp) (fun _ => awake_spec) (evalC_sound tt_ok _ _ ?_)
    simp only [go_sem, Nat.reduceAdd, Nat.reduceLeDiff, Nat.reduceMul, Nat.reduceSub, Nat.reduceEqDiff]
    repeat (first | refine CWp.seq ?_ | refine CWp.block ?_ | (refine CWp.ret ?_; try simp only [go_sem, Nat.reduceAdd, Nat.reduceLeDiff, Nat.reduceMul, Nat.reduceSub, Nat.reduceEqDiff]) | (refine CWp.skip ?_; try simp only [go_sem, Nat.reduceAdd, Nat.reduceLeDiff, Nat.reduceMul, Nat.reduceSub, Nat.reduceEqDiff]) | (refine CWp.reg tt_ok ?_; simp only [go_sem, Nat.reduceAdd, Nat.reduceLeDiff, Nat.reduceMul, Nat.reduceSub, Nat.reduceEqDiff]))
    exact Fin.ret1 (.inl rfl) rfl rfl rfl (Mem.sub.refl _) ⟨rfl, rfl⟩
  · have hc2 : s.length ≤ 1000 ∧ fewM sy = true := by
      revert hc
      cases fewM sy <;> simp
    obtain ⟨f1, f2⟩ := few_use hc2.2
    have hx : ∀ x ∈ sy, x.length ≤ 1000000 := fun x hx => by have := f2 x hx; omega
    have p1 := scanP_spec own s sy (by omega) hx (by omega)
    refine CWp.skip ?_
    simp only [go_sem, Nat.reduceAdd, Nat.reduceLeDiff, Nat.reduceMul, Nat.reduceSub, Nat.reduceEqDiff]
    refine CWp.seq ?_
    refine CWp.reg tt_ok ?_
    simp only [go_sem, Nat.reduceAdd, Nat.reduceLeDiff, Nat.reduceMul, Nat.reduceSub, Nat.reduceEqDiff]
    refine COps.pure has12 rfl rfl (by simp) (fun _ => p1) (evalC_sound tt_ok _ _ ?_)
    simp only [scanA]
    simp only [go_sem, Nat.reduceAdd, Nat.reduceLeDiff, Nat.reduceMul, Nat.reduceSub, Nat.reduceEqDiff]
    refine CWp.seq ?_
    refine CWp.seq ?_
    refine CWp.reg tt_ok ?_
    simp only [go_sem, Nat.reduceAdd, Nat.reduceLeDiff, Nat.reduceMul, Nat.reduceSub, Nat.reduceEqDiff]
    by_cases he : (scanM s sy).2.2 = 0
    · have hsy : sy.any (fun x => !symM x) = false := by
        cases h : sy.any (fun x => !symM x) with
        | false => rfl
        | true => simp [scanM, h] at he
      have hsl := scanM_len s sy
      obtain ⟨ts, hS, hts⟩ : ∃ ts, Scans sy (lead s) (s.drop (lead s)) ts ∧ scanM s sy = (ts, 0, 0) := by
        rcases scanM_or s sy hsy (by omega) with ⟨ts, h0, h⟩ | ⟨i, e, h0, _, h⟩
        · exact ⟨ts, h0, h⟩
        · rw [h] at he; exact absurd he h0
      rw [hts] at hsl ⊢
      simp only at hsl
      obtain ⟨tl, htl, htat⟩ := hS.last
      have hll := lead_le s
      rw [List.length_drop] at htat
      have htlk := toks_at ts _ tl htl
      obtain ⟨t0, ts0, hne⟩ := hS.ne
      have hpos : 0 < ts.length := by rw [hne]; simp
      refine CWp.cond rfl (fun h => absurd h (by simp)) (fun _ => ?_)
      refine CWp.skip ?_
      simp only [go_sem, Nat.reduceAdd, Nat.reduceLeDiff, Nat.reduceMul, Nat.reduceSub, Nat.reduceEqDiff]
      refine CWp.seq ?_
      refine CWp.reg tt_ok ?_
      simp only [go_sem, Nat.reduceAdd, Nat.reduceLeDiff, Nat.reduceMul, Nat.reduceSub, Nat.reduceEqDiff]
      refine CWp.seq ?_
      refine CWp.seq ?_
      refine CWp.reg tt_ok ?_
      simp only [go_sem, Nat.reduceAdd, Nat.reduceLeDiff, Nat.reduceMul, Nat.reduceSub, Nat.reduceEqDiff]
      refine CWp.block ?_
      refine CWp.loop (CLoop.junk (t := lp5_0 (.v (.str s)) (.v (.sl .no 3 (toks ts))) (.v (.int .i64 ((0 : Nat) : Int))) (.v (.bool false)) (.v (.int .i64 ((0 : Nat) : Int)))) (cov_loop .no s (by omega) sy ts (by omega) M _ ?_ (ts.length + 1) 0 0 false _ (by omega) (by omega) ?_) (by simp [Junked, lp5_0, ownE]))
      · intro L
        simp only [go_sem, lp5_0]
        refine CWp.seq ?_
        refine CWp.reg tt_ok ?_
        simp only [go_sem, Nat.reduceAdd, Nat.reduceLeDiff, Nat.reduceMul, Nat.reduceSub, Nat.reduceEqDiff]
        refine COps.pure has11 rfl rfl (by simp) (fun _ => awake_spec) (evalC_sound tt_ok _ _ ?_)
        have tn : ((ts.length : Int) - 1).toNat = ts.length - 1 := by omega
        simp only [go_sem, Nat.reduceAdd, Nat.reduceLeDiff, Nat.reduceMul, Nat.reduceSub, Nat.reduceEqDiff, toks_len, tn, htlk, tokA]
        repeat (with_reducible refine And.intro (by first | exact True.intro | assumption | omega | (intros; omega) | (intro hg; simp only [Bool.and_eq_true, Bool.or_eq_true, decide_eq_true_eq, Bool.not_eq_true', decide_eq_false_iff_not] at hg; omega) | (simp only [decide_eq_true_eq, Bool.and_eq_true, Bool.or_eq_true, Bool.not_eq_true', decide_eq_false_iff_not]; omega) | (intros; simp_all; done) | (intros; simp_all; omega)) ?_)
        repeat (first | refine CWp.seq ?_ | refine CWp.block ?_ | (refine CWp.ret ?_; try simp only [go_sem, Nat.reduceAdd, Nat.reduceLeDiff, Nat.reduceMul, Nat.reduceSub, Nat.reduceEqDiff]) | (refine CWp.skip ?_; try simp only [go_sem, Nat.reduceAdd, Nat.reduceLeDiff, Nat.reduceMul, Nat.reduceSub, Nat.reduceEqDiff]) | (refine CWp.reg tt_ok ?_; simp only [go_sem, Nat.reduceAdd, Nat.reduceLeDiff, Nat.reduceMul, Nat.reduceSub, Nat.reduceEqDiff]))
        refine Fin.ret1 (.inl rfl) rfl rfl rfl (Mem.sub.refl _) ⟨?_, rfl⟩
        have z1 : decide ((0 : Int) < (ts.length : Int)) = true := decide_eq_true (by omega)
        have z2 : decide ((tl.2.2 : Int) = (s.length : Int)) = true := decide_eq_true (by omega)
        rw [z1, z2]
        rfl
      · intro _
        rw [List.drop_zero]
        refine ⟨rfl, Nat.zero_le _, ?_⟩
        rw [List.drop_zero, Nat.zero_add]
        exact hS
    · have hnil := scanM_err s sy he
      rw [hnil]
      have hl0 : (toks []).length = 0 := rfl
      refine CWp.cond rfl (fun _ => ?_) (fun h => absurd h (by simp; omega))
      refine CWp.seq ?_
      refine CWp.reg tt_ok ?_
      simp only [go_sem, Nat.reduceAdd, Nat.reduceLeDiff, Nat.reduceMul, Nat.reduceSub, Nat.reduceEqDiff]
      refine COps.pure has11 rfl rfl (by simp) (fun _ => awake_spec) (evalC_sound tt_ok _ _ ?_)
      simp only [go_sem, Nat.reduceAdd, Nat.reduceLeDiff, Nat.reduceMul, Nat.reduceSub, Nat.reduceEqDiff, hl0]
      repeat (first | refine CWp.seq ?_ | refine CWp.block ?_ | (refine CWp.ret ?_; try simp only [go_sem, Nat.reduceAdd, Nat.reduceLeDiff, Nat.reduceMul, Nat.reduceSub, Nat.reduceEqDiff]) | (refine CWp.skip ?_; try simp only [go_sem, Nat.reduceAdd, Nat.reduceLeDiff, Nat.reduceMul, Nat.reduceSub, Nat.reduceEqDiff]) | (refine CWp.reg tt_ok ?_; simp only [go_sem, Nat.reduceAdd, Nat.reduceLeDiff, Nat.reduceMul, Nat.reduceSub, Nat.reduceEqDiff]))
      exact Fin.ret1 (.inl rfl) rfl rfl rfl (Mem.sub.refl _) ⟨by simp, rfl⟩
end Go.Proofs.LxA
