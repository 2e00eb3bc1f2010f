import Derived.Test.YticifcoffgoajaaDoorLx7
import Derived.Test.YticifcoffgoajaaDoorLx8
set_option linter.unusedVariables false
set_option linter.unusedSimpArgs false
set_option maxRecDepth 100000
namespace Go.Proofs.LxA
open Go Go.Am Go.Proofs Go.RowKit
set_option linter.unusedSectionVars false

theorem prefixes_law (s r : List UInt8) (hs : s.length ≤ 9223372036854775806) (hr : r.length ≤ 9223372036854775806) :
    Pure Tryd.prog 9 [.str s, .str r] (.bool true) := fun M => by
  refine enter9 _ _ ?_
  simp only [cc9]
  refine CWp.seq ?_
  refine CWp.reg tt_ok ?_
  simp only [go_sem, Nat.reduceAdd, Nat.reduceLeDiff, Nat.reduceMul, Nat.reduceSub, Nat.reduceEqDiff]
  refine CWp.seq ?_
  refine CWp.seq ?_
  refine CWp.reg tt_ok ?_
  simp only [go_sem, Nat.reduceAdd, Nat.reduceLeDiff, Nat.reduceMul, Nat.reduceSub, Nat.reduceEqDiff]
  have hk : decide ((1000 : Int) < (s.length : Int)) = decide (1000 < s.length) := decide_eq_decide.2 (by omega)
  have hk2 : decide ((300 : Int) < (r.length : Int)) = decide (300 < r.length) := decide_eq_decide.2 (by omega)
  simp only [hk, hk2]
  refine CWp.cond rfl ?_ ?_ <;> intro hc
  · refine CWp.seq ?_
    refine CWp.reg tt_ok ?_
    simp only [go_sem, Nat.reduceAdd, Nat.reduceLeDiff, Nat.reduceMul, Nat.reduceSub, Nat.reduceEqDiff]
    refine COps.pure has11 rfl rfl (by simp) (fun _ => awake_spec) (evalC_sound tt_ok _ _ ?_)
    simp only [go_sem, Nat.reduceAdd, Nat.reduceLeDiff, Nat.reduceMul, Nat.reduceSub, Nat.reduceEqDiff]
    repeat (first | refine CWp.seq ?_ | refine CWp.block ?_ | (refine CWp.ret ?_; try simp only [go_sem, Nat.reduceAdd, Nat.reduceLeDiff, Nat.reduceMul, Nat.reduceSub, Nat.reduceEqDiff]) | (refine CWp.skip ?_; try simp only [go_sem, Nat.reduceAdd, Nat.reduceLeDiff, Nat.reduceMul, Nat.reduceSub, Nat.reduceEqDiff]) | (refine CWp.reg tt_ok ?_; simp only [go_sem, Nat.reduceAdd, Nat.reduceLeDiff, Nat.reduceMul, Nat.reduceSub, Nat.reduceEqDiff]))
    exact Fin.ret1 (.inl rfl) rfl rfl rfl (Mem.sub.refl _) ⟨rfl, rfl⟩
  · have hc2 : s.length ≤ 1000 ∧ r.length ≤ 300 := by
      simp only [Bool.or_eq_false_iff, decide_eq_false_iff_not] at hc
      omega
    have p1 := scanP_spec .full s [] (by omega) (by simp) (by simp)
    have p2 := scanP_spec .full (s ++ 10 :: r) [] (by simp; omega) (by simp) (by simp)
    have hplain := prefixes_plain s r hc2.1 hc2.2
    have hor := scanM_or s [] rfl (by omega)
    refine CWp.skip ?_
    simp only [go_sem, Nat.reduceAdd, Nat.reduceLeDiff, Nat.reduceMul, Nat.reduceSub, Nat.reduceEqDiff]
    refine CWp.seq ?_
    refine CWp.reg tt_ok ?_
    simp only [go_sem, Nat.reduceAdd, Nat.reduceLeDiff, Nat.reduceMul, Nat.reduceSub, Nat.reduceEqDiff]
    refine COps.pure has12 rfl rfl (by simp) (fun _ => p1) (evalC_sound tt_ok _ _ ?_)
    simp only [scanA]
    simp only [go_sem, Nat.reduceAdd, Nat.reduceLeDiff, Nat.reduceMul, Nat.reduceSub, Nat.reduceEqDiff]
    refine CWp.seq ?_
    refine CWp.seq ?_
    refine CWp.reg tt_ok ?_
    simp only [go_sem, Nat.reduceAdd, Nat.reduceLeDiff, Nat.reduceMul, Nat.reduceSub, Nat.reduceEqDiff]
    rcases hor with ⟨ts, _, h2⟩ | ⟨i, e, he, _, h2⟩
    · rw [h2]
      refine CWp.cond rfl (fun _ => ?_) (fun h => by simp at h)
      refine CWp.seq ?_
      refine CWp.reg tt_ok ?_
      simp only [go_sem, Nat.reduceAdd, Nat.reduceLeDiff, Nat.reduceMul, Nat.reduceSub, Nat.reduceEqDiff]
      refine COps.pure has11 rfl rfl (by simp) (fun _ => awake_spec) (evalC_sound tt_ok _ _ ?_)
      simp only [go_sem, Nat.reduceAdd, Nat.reduceLeDiff, Nat.reduceMul, Nat.reduceSub, Nat.reduceEqDiff]
      repeat (first | refine CWp.seq ?_ | refine CWp.block ?_ | (refine CWp.ret ?_; try simp only [go_sem, Nat.reduceAdd, Nat.reduceLeDiff, Nat.reduceMul, Nat.reduceSub, Nat.reduceEqDiff]) | (refine CWp.skip ?_; try simp only [go_sem, Nat.reduceAdd, Nat.reduceLeDiff, Nat.reduceMul, Nat.reduceSub, Nat.reduceEqDiff]) | (refine CWp.reg tt_ok ?_; simp only [go_sem, Nat.reduceAdd, Nat.reduceLeDiff, Nat.reduceMul, Nat.reduceSub, Nat.reduceEqDiff]))
      exact Fin.ret1 (.inl rfl) rfl rfl rfl (Mem.sub.refl _) ⟨rfl, rfl⟩
    · obtain ⟨q1, q2⟩ := hplain i e he h2
      rw [q1] at p2
      rw [h2]
      simp only [scanA] at p2
      refine CWp.cond rfl (fun h => absurd h (by simp; omega)) (fun _ => ?_)
      refine CWp.skip ?_
      simp only [go_sem, Nat.reduceAdd, Nat.reduceLeDiff, Nat.reduceMul, Nat.reduceSub, Nat.reduceEqDiff]
      refine CWp.seq ?_
      refine CWp.reg tt_ok ?_
      simp only [go_sem, Nat.reduceAdd, Nat.reduceLeDiff, Nat.reduceMul, Nat.reduceSub, Nat.reduceEqDiff]
      have ea : s ++ [10] ++ r = s ++ 10 :: r := by simp
      simp only [ea, List.length_append, List.length_cons, List.length_nil]
      repeat (with_reducible refine And.intro (by first | exact True.intro | assumption | omega | (intros; omega) | (intro hg; simp only [Bool.and_eq_true, Bool.or_eq_true, decide_eq_true_eq, Bool.not_eq_true', decide_eq_false_iff_not] at hg; omega) | (simp only [decide_eq_true_eq, Bool.and_eq_true, Bool.or_eq_true, Bool.not_eq_true', decide_eq_false_iff_not]; omega) | (intros; simp_all; done) | (intros; simp_all; omega)) ?_)
      refine COps.pure has12 rfl rfl (by simp) (fun _ => p2) (evalC_sound tt_ok _ _ ?_)
      simp only [go_sem, Nat.reduceAdd, Nat.reduceLeDiff, Nat.reduceMul, Nat.reduceSub, Nat.reduceEqDiff]
      refine CWp.seq ?_
      refine CWp.reg tt_ok ?_
      simp only [go_sem, Nat.reduceAdd, Nat.reduceLeDiff, Nat.reduceMul, Nat.reduceSub, Nat.reduceEqDiff]
      refine COps.pure has11 rfl rfl (by simp) (fun _ => awake_spec) (evalC_sound tt_ok _ _ ?_)
      simp only [go_sem, Nat.reduceAdd, Nat.reduceLeDiff, Nat.reduceMul, Nat.reduceSub, Nat.reduceEqDiff]
      repeat (first | refine CWp.seq ?_ | refine CWp.block ?_ | (refine CWp.ret ?_; try simp only [go_sem, Nat.reduceAdd, Nat.reduceLeDiff, Nat.reduceMul, Nat.reduceSub, Nat.reduceEqDiff]) | (refine CWp.skip ?_; try simp only [go_sem, Nat.reduceAdd, Nat.reduceLeDiff, Nat.reduceMul, Nat.reduceSub, Nat.reduceEqDiff]) | (refine CWp.reg tt_ok ?_; simp only [go_sem, Nat.reduceAdd, Nat.reduceLeDiff, Nat.reduceMul, Nat.reduceSub, Nat.reduceEqDiff]))
      refine Fin.ret1 (.inl rfl) rfl rfl rfl (Mem.sub.refl _) ⟨?_, rfl⟩
      have : decide ((i : Int) < (s.length : Int)) = true := decide_eq_true (by omega)
      simp [this, q2]

/-! The loop that joins. -/
def joinF : Bool → List UInt8 → List Tok → List UInt8
  | _, acc, [] => acc
  | f, acc, t :: ts => joinF false ((bif f then acc else acc ++ [32]) ++ t.2.1) ts
theorem joinF_len (f : Bool) (acc : List UInt8) : ∀ (ts : List Tok), acc.length ≤ (joinF f acc ts).length
  | [] => Nat.le_refl _
  | t :: ts => by
    have h1 : acc.length ≤ ((bif f then acc else acc ++ [32]) ++ t.2.1).length := by cases f <;> simp <;> omega
    exact Nat.le_trans h1 (joinF_len false ((bif f then acc else acc ++ [32]) ++ t.2.1) ts)
theorem joinF_false : ∀ (ts : List Tok) (acc : List UInt8), joinF false acc ts = acc ++ (match ts with | [] => [] | _ :: _ => 32 :: joinT ts)
  | [], acc => by simp [joinF]
  | t :: ts, acc => by
    simp only [joinF, cond_false, joinF_false ts, joinT]
    cases ts <;> simp
theorem joinF_true (ts : List Tok) : joinF true [] ts = joinT ts := by
  cases ts with
  | nil => rfl
  | cons t ts =>
    simp only [joinF, cond_true, joinF_false, joinT, List.nil_append]
    cases ts <;> rfl

theorem join_loop (x1 : TV) (own : Own) (a : List Tok) (hlen : a.length ≤ 1000000) (hj : (joinT a).length ≤ 1000000) (M : Mem) (Q : AExit → St → Prop) (hQ : Q (.exit 0) { tmps := lp6_0 x1 (.v (.sl own 3 (toks a))) (.v (.str (joinT a))) .junk, loc := [], rows := [], defs := [], M := M }) : ∀ (n i : Nat) (acc : List UInt8), a.length - i < n → i ≤ a.length → joinF (decide (i = 0)) acc (a.drop i) = joinT a →
    CLoop none Tryd.prog tt esc6 cc6_l0 Q { tmps := lp6_0 x1 (.v (.sl own 3 (toks a))) (.v (.str acc)) (.v (.int .i64 (i : Int))), loc := [], rows := [], defs := [], M := M } := by
  intro n
  induction n with
  | zero => intro i acc h0; omega
  | succ n ih =>
    intro i acc h0 h1 hacc
    refine CLoop.unroll ?_
    generalize hK : CLoop none Tryd.prog tt esc6 cc6_l0 Q = K
    simp only [cc6_l0, lp6_0]
    refine CWp.seq ?_
    refine CWp.seq ?_
    refine CWp.reg tt_ok ?_
    simp only [go_sem, Nat.reduceAdd, Nat.reduceLeDiff, Nat.reduceMul, Nat.reduceSub, Nat.reduceEqDiff, toks_len]
    refine CWp.cond rfl ?_ ?_ <;> intro hc
    · have hi : i < a.length := by simpa using hc
      have hxa := toks_at a i a[i] (List.getElem?_eq_getElem hi)
      have hd := List.drop_eq_getElem_cons hi
      rw [hd] at hacc
      simp only [joinF] at hacc
      have hl := joinF_len false ((bif decide (i = 0) then acc else acc ++ [32]) ++ a[i].2.1) (a.drop (i + 1))
      rw [hacc] at hl
      have hf : decide (i + 1 = 0) = false := by simp
      refine CWp.skip ?_
      simp only [go_sem, Nat.reduceAdd, Nat.reduceLeDiff, Nat.reduceMul, Nat.reduceSub, Nat.reduceEqDiff]
      refine CWp.seq ?_
      refine CWp.block ?_
      refine CWp.seq ?_
      refine CWp.seq ?_
      refine CWp.reg tt_ok ?_
      simp only [go_sem, Nat.reduceAdd, Nat.reduceLeDiff, Nat.reduceMul, Nat.reduceSub, Nat.reduceEqDiff]
      refine CWp.cond rfl ?_ ?_ <;> intro hc2
      · have h0i : decide (i = 0) = false := decide_eq_false (by have := of_decide_eq_true hc2; omega)
        rw [h0i] at hacc hl
        simp only [cond_false, List.length_append, List.length_cons, List.length_nil] at hacc hl
        refine CWp.reg tt_ok ?_
        simp only [go_sem, Nat.reduceAdd, Nat.reduceLeDiff, Nat.reduceMul, Nat.reduceSub, Nat.reduceEqDiff]
        refine And.intro (by omega) ?_
        refine CWp.reg tt_ok ?_
        simp only [go_sem, Nat.reduceAdd, Nat.reduceLeDiff, Nat.reduceMul, Nat.reduceSub, Nat.reduceEqDiff, hxa, tokA, toks_len]
        repeat (with_reducible refine And.intro (by first | exact True.intro | assumption | omega | (intros; omega) | (intro hg; simp only [Bool.and_eq_true, Bool.or_eq_true, decide_eq_true_eq, Bool.not_eq_true', decide_eq_false_iff_not] at hg; omega) | (simp only [decide_eq_true_eq, Bool.and_eq_true, Bool.or_eq_true, Bool.not_eq_true', decide_eq_false_iff_not]; omega) | (intros; simp_all; done) | (intros; simp_all; omega)) ?_)
        repeat (first | refine CWp.seq ?_ | refine CWp.block ?_ | (refine CWp.ret ?_; try simp only [go_sem, Nat.reduceAdd, Nat.reduceLeDiff, Nat.reduceMul, Nat.reduceSub, Nat.reduceEqDiff]) | (refine CWp.skip ?_; try simp only [go_sem, Nat.reduceAdd, Nat.reduceLeDiff, Nat.reduceMul, Nat.reduceSub, Nat.reduceEqDiff]) | (refine CWp.reg tt_ok ?_; simp only [go_sem, Nat.reduceAdd, Nat.reduceLeDiff, Nat.reduceMul, Nat.reduceSub, Nat.reduceEqDiff]))
        repeat (with_reducible refine And.intro (by first | exact True.intro | assumption | omega | (intros; omega) | (intro hg; simp only [Bool.and_eq_true, Bool.or_eq_true, decide_eq_true_eq, Bool.not_eq_true', decide_eq_false_iff_not] at hg; omega) | (simp only [decide_eq_true_eq, Bool.and_eq_true, Bool.or_eq_true, Bool.not_eq_true', decide_eq_false_iff_not]; omega) | (intros; simp_all; done) | (intros; simp_all; omega)) ?_)
        rw [← hK]
        exact CLoop.junk (t := lp6_0 x1 (.v (.sl own 3 (toks a))) (.v (.str (acc ++ [32] ++ a[i].2.1))) (.v (.int .i64 ((i + 1 : Nat) : Int)))) (ih (i + 1) _ (by omega) (by omega) (by rw [hf]; exact hacc)) (by simp [Junked, lp6_0])
      · have h0i : decide (i = 0) = true := decide_eq_true (by have := of_decide_eq_false hc2; omega)
        rw [h0i] at hacc hl
        simp only [cond_true, List.length_append, List.length_cons, List.length_nil] at hacc hl
        refine CWp.skip ?_
        simp only [go_sem, Nat.reduceAdd, Nat.reduceLeDiff, Nat.reduceMul, Nat.reduceSub, Nat.reduceEqDiff]
        refine CWp.reg tt_ok ?_
        simp only [go_sem, Nat.reduceAdd, Nat.reduceLeDiff, Nat.reduceMul, Nat.reduceSub, Nat.reduceEqDiff, hxa, tokA, toks_len]
        repeat (with_reducible refine And.intro (by first | exact True.intro | assumption | omega | (intros; omega) | (intro hg; simp only [Bool.and_eq_true, Bool.or_eq_true, decide_eq_true_eq, Bool.not_eq_true', decide_eq_false_iff_not] at hg; omega) | (simp only [decide_eq_true_eq, Bool.and_eq_true, Bool.or_eq_true, Bool.not_eq_true', decide_eq_false_iff_not]; omega) | (intros; simp_all; done) | (intros; simp_all; omega)) ?_)
        repeat (first | refine CWp.seq ?_ | refine CWp.block ?_ | (refine CWp.ret ?_; try simp only [go_sem, Nat.reduceAdd, Nat.reduceLeDiff, Nat.reduceMul, Nat.reduceSub, Nat.reduceEqDiff]) | (refine CWp.skip ?_; try simp only [go_sem, Nat.reduceAdd, Nat.reduceLeDiff, Nat.reduceMul, Nat.reduceSub, Nat.reduceEqDiff]) | (refine CWp.reg tt_ok ?_; simp only [go_sem, Nat.reduceAdd, Nat.reduceLeDiff, Nat.reduceMul, Nat.reduceSub, Nat.reduceEqDiff]))
        repeat (with_reducible refine And.intro (by first | exact True.intro | assumption | omega | (intros; omega) | (intro hg; simp only [Bool.and_eq_true, Bool.or_eq_true, decide_eq_true_eq, Bool.not_eq_true', decide_eq_false_iff_not] at hg; omega) | (simp only [decide_eq_true_eq, Bool.and_eq_true, Bool.or_eq_true, Bool.not_eq_true', decide_eq_false_iff_not]; omega) | (intros; simp_all; done) | (intros; simp_all; omega)) ?_)
        rw [← hK]
        exact CLoop.junk (t := lp6_0 x1 (.v (.sl own 3 (toks a))) (.v (.str (acc ++ a[i].2.1))) (.v (.int .i64 ((i + 1 : Nat) : Int)))) (ih (i + 1) _ (by omega) (by omega) (by rw [hf]; exact hacc)) (by simp [Junked, lp6_0])
    · have hi : i = a.length := by simp at hc; omega
      subst hi
      rw [List.drop_length] at hacc
      have hacc : acc = joinT a := hacc
      subst hacc
      exact CWp.junk (t := lp6_0 x1 (.v (.sl own 3 (toks a))) (.v (.str (joinT a))) .junk) (CWp.exit hQ) (by simp [Junked, lp6_0])

theorem back_law (own : Own) (s : List UInt8) (sy : List (List UInt8)) (hs : s.length ≤ 9223372036854775806) (hlen : sy.length ≤ 9223372036854775806) :
    Pure Tryd.prog 6 [.str s, .sl own 1 (strs sy)] (.bool true) := fun M => by
  refine enter6 _ _ ?_
  simp only [cc6]
  refine CWp.seq ?_
  refine CWp.reg tt_ok ?_
  simp only [go_sem, Nat.reduceAdd, Nat.reduceLeDiff, Nat.reduceMul, Nat.reduceSub, Nat.reduceEqDiff]
  refine CWp.seq ?_
  refine CWp.seq ?_
  refine CWp.reg tt_ok ?_
  simp only [go_sem, Nat.reduceAdd, Nat.reduceLeDiff, Nat.reduceMul, Nat.reduceSub, Nat.reduceEqDiff]
  refine COps.pure has10 rfl rfl (by simp) (fun _ => few_spec own sy hlen) (evalC_sound tt_ok _ _ ?_)
  simp only [go_sem, Nat.reduceAdd, Nat.reduceLeDiff, Nat.reduceMul, Nat.reduceSub, Nat.reduceEqDiff]
  repeat (with_reducible refine And.intro (by first | exact True.intro | assumption | omega | (intros; omega) | (intro hg; simp only [Bool.and_eq_true, Bool.or_eq_true, decide_eq_true_eq, Bool.not_eq_true', decide_eq_false_iff_not] at hg; omega) | (simp only [decide_eq_true_eq, Bool.and_eq_true, Bool.or_eq_true, Bool.not_eq_true', decide_eq_false_iff_not]; omega) | (intros; simp_all; done) | (intros; simp_all; omega)) ?_)
  have hk : decide ((1000 : Int) < (s.length : Int)) = decide (1000 < s.length) := decide_eq_decide.2 (by omega)
  simp only [hk]
  refine CWp.cond rfl ?_ ?_ <;> intro hc
  · refine CWp.seq ?_
    refine CWp.reg tt_ok ?_
    simp only [go_sem, Nat.reduceAdd, Nat.reduceLeDiff, Nat.reduceMul, Nat.reduceSub, Nat.reduceEqDiff]
    refine COps.pure has11 rfl rfl (by simp) (fun _ => awake_spec) (evalC_sound tt_ok _ _ ?_)
    simp only [go_sem, Nat.reduceAdd, Nat.reduceLeDiff, Nat.reduceMul, Nat.reduceSub, Nat.reduceEqDiff]
    repeat (first | refine CWp.seq ?_ | refine CWp.block ?_ | (refine CWp.ret ?_; try simp only [go_sem, Nat.reduceAdd, Nat.reduceLeDiff, Nat.reduceMul, Nat.reduceSub, Nat.reduceEqDiff]) | (refine CWp.skip ?_; try simp only [go_sem, Nat.reduceAdd, Nat.reduceLeDiff, Nat.reduceMul, Nat.reduceSub, Nat.reduceEqDiff]) | (refine CWp.reg tt_ok ?_; simp only [go_sem, Nat.reduceAdd, Nat.reduceLeDiff, Nat.reduceMul, Nat.reduceSub, Nat.reduceEqDiff]))
    exact Fin.ret1 (.inl rfl) rfl rfl rfl (Mem.sub.refl _) ⟨rfl, rfl⟩
  · have hc2 : s.length ≤ 1000 ∧ fewM sy = true := by
      revert hc
      cases fewM sy <;> simp
    obtain ⟨f1, f2⟩ := few_use hc2.2
    have hx : ∀ x ∈ sy, x.length ≤ 1000000 := fun x hx => by have := f2 x hx; omega
    have p1 := scanP_spec own s sy (by omega) hx (by omega)
    refine CWp.skip ?_
    simp only [go_sem, Nat.reduceAdd, Nat.reduceLeDiff, Nat.reduceMul, Nat.reduceSub, Nat.reduceEqDiff]
    refine CWp.seq ?_
    refine CWp.reg tt_ok ?_
    simp only [go_sem, Nat.reduceAdd, Nat.reduceLeDiff, Nat.reduceMul, Nat.reduceSub, Nat.reduceEqDiff]
    refine COps.pure has12 rfl rfl (by simp) (fun _ => p1) (evalC_sound tt_ok _ _ ?_)
    simp only [scanA]
    simp only [go_sem, Nat.reduceAdd, Nat.reduceLeDiff, Nat.reduceMul, Nat.reduceSub, Nat.reduceEqDiff]
    refine CWp.seq ?_
    refine CWp.seq ?_
    refine CWp.reg tt_ok ?_
    simp only [go_sem, Nat.reduceAdd, Nat.reduceLeDiff, Nat.reduceMul, Nat.reduceSub, Nat.reduceEqDiff]
    by_cases he : (scanM s sy).2.2 = 0
    · have hsy : sy.any (fun x => !symM x) = false := by
        cases h : sy.any (fun x => !symM x) with
        | false => rfl
        | true => simp [scanM, h] at he
      have hsl := scanM_len s sy
      obtain ⟨ts, hts⟩ : ∃ ts, scanM s sy = (ts, 0, 0) := by
        rcases scanM_or s sy hsy (by omega) with ⟨ts, _, h⟩ | ⟨i, e, h0, _, h⟩
        · exact ⟨ts, h⟩
        · rw [h] at he; exact absurd he h0
      obtain ⟨ts', b1, b2, b3⟩ := back_plain s sy hsy hc2.1 ts hts
      rw [hts] at hsl ⊢
      have p2 := scanP_spec own (joinT ts) sy (by omega) hx (by omega)
      rw [b1] at p2
      have hl2 := b2.len
      simp only at hsl
      have p3 := same_spec .no .no ts ts' true (by omega) (by omega)
      rw [alike_same b2] at p3
      replace p2 : Pure Tryd.prog 12 [.str (joinT ts), .sl own 1 (strs sy)] (.tup [.sl .no 3 (toks ts'), .int .i64 0, .int .i64 0]) := p2
      refine CWp.cond rfl (fun h => absurd h (by simp)) (fun _ => ?_)
      refine CWp.skip ?_
      simp only [go_sem, Nat.reduceAdd, Nat.reduceLeDiff, Nat.reduceMul, Nat.reduceSub, Nat.reduceEqDiff]
      refine CWp.seq ?_
      refine CWp.reg tt_ok ?_
      simp only [go_sem, Nat.reduceAdd, Nat.reduceLeDiff, Nat.reduceMul, Nat.reduceSub, Nat.reduceEqDiff]
      refine CWp.seq ?_
      refine CWp.seq ?_
      refine CWp.reg tt_ok ?_
      simp only [go_sem, Nat.reduceAdd, Nat.reduceLeDiff, Nat.reduceMul, Nat.reduceSub, Nat.reduceEqDiff]
      refine CWp.block ?_
      refine CWp.loop (CLoop.junk (t := lp6_0 (.v (.sl own 1 (strs sy))) (.v (.sl .no 3 (toks ts))) (.v (.str [])) (.v (.int .i64 ((0 : Nat) : Int)))) (join_loop _ .no ts (by omega) (by omega) M _ ?_ (ts.length + 1) 0 [] (by omega) (by omega) (joinF_true ts)) (by simp [Junked, lp6_0, ownE]))
      simp only [go_sem, lp6_0]
      refine CWp.seq ?_
      refine CWp.reg tt_ok ?_
      simp only [go_sem, Nat.reduceAdd, Nat.reduceLeDiff, Nat.reduceMul, Nat.reduceSub, Nat.reduceEqDiff]
      refine COps.pure has12 rfl rfl (by simp) (fun _ => p2) (evalC_sound tt_ok _ _ ?_)
      simp only [go_sem, Nat.reduceAdd, Nat.reduceLeDiff, Nat.reduceMul, Nat.reduceSub, Nat.reduceEqDiff]
      refine CWp.seq ?_
      refine CWp.reg tt_ok ?_
      simp only [go_sem, Nat.reduceAdd, Nat.reduceLeDiff, Nat.reduceMul, Nat.reduceSub, Nat.reduceEqDiff]
      refine COps.pure has11 rfl rfl (by simp) (fun _ => awake_spec) (evalC_sound tt_ok _ _ ?_)
      simp only [go_sem, Nat.reduceAdd, Nat.reduceLeDiff, Nat.reduceMul, Nat.reduceSub, Nat.reduceEqDiff]
      refine COps.pure has14 rfl rfl (by simp) (fun _ => p3) (evalC_sound tt_ok _ _ ?_)
      simp only [go_sem, Nat.reduceAdd, Nat.reduceLeDiff, Nat.reduceMul, Nat.reduceSub, Nat.reduceEqDiff]
      repeat (first | refine CWp.seq ?_ | refine CWp.block ?_ | (refine CWp.ret ?_; try simp only [go_sem, Nat.reduceAdd, Nat.reduceLeDiff, Nat.reduceMul, Nat.reduceSub, Nat.reduceEqDiff]) | (refine CWp.skip ?_; try simp only [go_sem, Nat.reduceAdd, Nat.reduceLeDiff, Nat.reduceMul, Nat.reduceSub, Nat.reduceEqDiff]) | (refine CWp.reg tt_ok ?_; simp only [go_sem, Nat.reduceAdd, Nat.reduceLeDiff, Nat.reduceMul, Nat.reduceSub, Nat.reduceEqDiff]))
      exact Fin.ret1 (.inl rfl) rfl rfl rfl (Mem.sub.refl _) ⟨by simp, rfl⟩
    · refine CWp.cond rfl (fun _ => ?_) (fun h => absurd h (by simp; omega))
      refine CWp.seq ?_
      refine CWp.reg tt_ok ?_
      simp only [go_sem, Nat.reduceAdd, Nat.reduceLeDiff, Nat.reduceMul, Nat.reduceSub, Nat.reduceEqDiff]
      refine COps.pure has11 rfl rfl (by simp) (fun _ => awake_spec) (evalC_sound tt_ok _ _ ?_)
      simp only [go_sem, Nat.reduceAdd, Nat.reduceLeDiff, Nat.reduceMul, Nat.reduceSub, Nat.reduceEqDiff]
      repeat (first | refine CWp.seq ?_ | refine CWp.block ?_ | (refine CWp.ret ?_; try simp only [go_sem, Nat.reduceAdd, Nat.reduceLeDiff, Nat.reduceMul, Nat.reduceSub, Nat.reduceEqDiff]) | (refine CWp.skip ?_; try simp only [go_sem, Nat.reduceAdd, Nat.reduceLeDiff, Nat.reduceMul, Nat.reduceSub, Nat.reduceEqDiff]) | (refine CWp.reg tt_ok ?_; simp only [go_sem, Nat.reduceAdd, Nat.reduceLeDiff, Nat.reduceMul, Nat.reduceSub, Nat.reduceEqDiff]))
      exact Fin.ret1 (.inl rfl) rfl rfl rfl (Mem.sub.refl _) ⟨rfl, rfl⟩
end Go.Proofs.LxA
