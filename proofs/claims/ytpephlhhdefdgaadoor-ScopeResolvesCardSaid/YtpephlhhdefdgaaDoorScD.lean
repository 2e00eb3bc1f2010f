import Derived.Test.YtpephlhhdefdgaaDoorScC
set_option linter.unusedVariables false
set_option linter.unusedSimpArgs false
set_option maxRecDepth 100000
namespace Go.Proofs.ScA
open Go Go.Am Go.Proofs Go.RowKit
set_option linter.unusedSectionVars false

def idxN {α : Type} (p : α → Bool) (l : List α) : Nat → Nat → Int
  | 0, _ => -1
  | n + 1, i => match l[i]? with
    | some x => bif p x then (i : Int) else idxN p l n (i + 1)
    | none => -1
theorem idxN_any {α : Type} (p : α → Bool) (l : List α) : ∀ (n i : Nat), l.length - i < n → i ≤ l.length → decide (0 ≤ idxN p l n i) = (l.drop i).any p
  | 0, i, h0, h1 => by omega
  | n + 1, i, h0, h1 => by
    rcases Nat.lt_or_ge i l.length with hi | hi
    · have e : idxN p l (n + 1) i = bif p l[i] then (i : Int) else idxN p l n (i + 1) := by
        simp only [idxN, List.getElem?_eq_getElem hi]
      rw [List.drop_eq_getElem_cons hi, List.any_cons]
      by_cases hp : p l[i] = true
      · have e2 : idxN p l (n + 1) i = i := by rw [e, hp]; rfl
        rw [hp, Bool.true_or]
        exact decide_eq_true (by rw [e2]; omega)
      · have hp : p l[i] = false := by simpa using hp
        have e2 : idxN p l (n + 1) i = idxN p l n (i + 1) := by rw [e, hp]; rfl
        rw [hp, Bool.false_or, ← idxN_any p l n (i + 1) (by omega) (by omega)]
        exact decide_eq_decide.2 (by rw [e2])
    · have e : idxN p l (n + 1) i = -1 := by simp only [idxN, List.getElem?_eq_none hi]
      rw [List.drop_eq_nil_of_le hi]
      exact decide_eq_false (by rw [e]; omega)

theorem index_loop (own : Own) (l : List (List UInt8)) (s : List UInt8) (hlen : l.length ≤ 1000000) (M : Mem) (Q : AExit → St → Prop) : ∀ (n i : Nat), l.length - i < n → i ≤ l.length →
    (∀ k t, idxN (fun x => decide (s = x)) l n i = k → t[4]? = some (.v (.int .i64 k)) → Q .ret { tmps := t, loc := [], rows := [], defs := [], M := M }) →
    (idxN (fun x => decide (s = x)) l n i = -1 → Q (.exit 0) { tmps := lp41_0 (.v (.sl own 1 (strs l))) (.v (.str s)) (.v (.int .i64 (l.length : Int))) (.v (.int .i64 (l.length : Int))), loc := [], rows := [], defs := [], M := M }) →
    CLoop none Tryd.prog tt esc41 cc41_l0 Q { tmps := lp41_0 (.v (.sl own 1 (strs l))) (.v (.str s)) (.v (.int .i64 (l.length : Int))) (.v (.int .i64 (i : Int))), loc := [], rows := [], defs := [], M := M } := by
  intro n
  induction n with
  | zero => intro i h0 h1 hQ1 hQ2; omega
  | succ n ih =>
    intro i h0 h1 hQ1 hQ2
    refine CLoop.unroll ?_
    generalize hK : CLoop none Tryd.prog tt esc41 cc41_l0 Q = K
    simp only [cc41_l0, lp41_0]
    repeat (first | refine CWp.seq ?_ | refine CWp.block ?_ | (refine CWp.ret ?_; try simp only [go_sem, Nat.reduceAdd, Nat.reduceLeDiff, Nat.reduceMul, Nat.reduceSub, Nat.reduceEqDiff]) | (refine CWp.skip ?_; try simp only [go_sem, Nat.reduceAdd, Nat.reduceLeDiff, Nat.reduceMul, Nat.reduceSub, Nat.reduceEqDiff]) | (refine CWp.reg tt_ok ?_; simp only [go_sem, Nat.reduceAdd, Nat.reduceLeDiff, Nat.reduceMul, Nat.reduceSub, Nat.reduceEqDiff]))
    refine CWp.cond rfl ?_ ?_ <;> intro hc
    · have hi : i < l.length := by simpa using hc
      have hx := strs_at l i l[i] (List.getElem?_eq_getElem hi)
      simp only [idxN, List.getElem?_eq_getElem hi] at hQ1 hQ2
      refine CWp.skip ?_
      simp only [go_sem, Nat.reduceAdd, Nat.reduceLeDiff, Nat.reduceMul, Nat.reduceSub, Nat.reduceEqDiff]
      repeat (first | refine CWp.seq ?_ | refine CWp.block ?_ | (refine CWp.ret ?_; try simp only [go_sem, Nat.reduceAdd, Nat.reduceLeDiff, Nat.reduceMul, Nat.reduceSub, Nat.reduceEqDiff]) | (refine CWp.skip ?_; try simp only [go_sem, Nat.reduceAdd, Nat.reduceLeDiff, Nat.reduceMul, Nat.reduceSub, Nat.reduceEqDiff]) | (refine CWp.reg tt_ok ?_; simp only [go_sem, Nat.reduceAdd, Nat.reduceLeDiff, Nat.reduceMul, Nat.reduceSub, Nat.reduceEqDiff]))
      simp only [go_sem, hx, strs_len]
      repeat (with_reducible refine And.intro (by first | exact True.intro | assumption | omega | (intros; omega) | (intro hg; simp only [Bool.and_eq_true, Bool.or_eq_true, decide_eq_true_eq, Bool.not_eq_true', decide_eq_false_iff_not] at hg; omega) | (simp only [decide_eq_true_eq, Bool.and_eq_true, Bool.or_eq_true, Bool.not_eq_true', decide_eq_false_iff_not]; omega) | (intros; simp_all; done) | (intros; simp_all; omega)) ?_)
      refine CWp.cond rfl ?_ ?_ <;> intro hc2
      · repeat (first | refine CWp.seq ?_ | refine CWp.block ?_ | (refine CWp.ret ?_; try simp only [go_sem, Nat.reduceAdd, Nat.reduceLeDiff, Nat.reduceMul, Nat.reduceSub, Nat.reduceEqDiff]) | (refine CWp.skip ?_; try simp only [go_sem, Nat.reduceAdd, Nat.reduceLeDiff, Nat.reduceMul, Nat.reduceSub, Nat.reduceEqDiff]) | (refine CWp.reg tt_ok ?_; simp only [go_sem, Nat.reduceAdd, Nat.reduceLeDiff, Nat.reduceMul, Nat.reduceSub, Nat.reduceEqDiff]))
        refine hQ1 _ _ ?_ rfl
        rw [hc2]; rfl
      · rw [hc2] at hQ1 hQ2
        simp only [cond_false] at hQ1 hQ2
        repeat (first | refine CWp.seq ?_ | refine CWp.block ?_ | (refine CWp.ret ?_; try simp only [go_sem, Nat.reduceAdd, Nat.reduceLeDiff, Nat.reduceMul, Nat.reduceSub, Nat.reduceEqDiff]) | (refine CWp.skip ?_; try simp only [go_sem, Nat.reduceAdd, Nat.reduceLeDiff, Nat.reduceMul, Nat.reduceSub, Nat.reduceEqDiff]) | (refine CWp.reg tt_ok ?_; simp only [go_sem, Nat.reduceAdd, Nat.reduceLeDiff, Nat.reduceMul, Nat.reduceSub, Nat.reduceEqDiff]))
        repeat (with_reducible refine And.intro (by first | exact True.intro | assumption | omega | (intros; omega) | (intro hg; simp only [Bool.and_eq_true, Bool.or_eq_true, decide_eq_true_eq, Bool.not_eq_true', decide_eq_false_iff_not] at hg; omega) | (simp only [decide_eq_true_eq, Bool.and_eq_true, Bool.or_eq_true, Bool.not_eq_true', decide_eq_false_iff_not]; omega) | (intros; simp_all; done) | (intros; simp_all; omega)) ?_)
        rw [← hK]
        exact CLoop.junk (t := lp41_0 (.v (.sl own 1 (strs l))) (.v (.str s)) (.v (.int .i64 (l.length : Int))) (.v (.int .i64 ((i + 1 : Nat) : Int)))) (ih (i + 1) (by omega) (by omega) hQ1 hQ2) (by simp [Junked, lp41_0])
    · have hi : i = l.length := by simp at hc; omega
      subst hi
      refine CWp.junk (t := lp41_0 (.v (.sl own 1 (strs l))) (.v (.str s)) (.v (.int .i64 (l.length : Int))) (.v (.int .i64 (l.length : Int)))) (CWp.exit (hQ2 ?_)) (by simp [Junked, lp41_0])
      simp [idxN]

theorem index_spec (own : Own) (l : List (List UInt8)) (s : List UInt8) (hlen : l.length ≤ 1000000) : Pure Tryd.prog 41 [.sl own 1 (strs l), .str s] (.int .i64 (idxN (fun x => decide (s = x)) l (l.length + 1) 0)) := fun M => by
  refine enter41 _ _ ?_
  simp only [cc41]
  repeat (first | refine CWp.seq ?_ | refine CWp.block ?_ | (refine CWp.ret ?_; try simp only [go_sem, Nat.reduceAdd, Nat.reduceLeDiff, Nat.reduceMul, Nat.reduceSub, Nat.reduceEqDiff]) | (refine CWp.skip ?_; try simp only [go_sem, Nat.reduceAdd, Nat.reduceLeDiff, Nat.reduceMul, Nat.reduceSub, Nat.reduceEqDiff]) | (refine CWp.reg tt_ok ?_; simp only [go_sem, Nat.reduceAdd, Nat.reduceLeDiff, Nat.reduceMul, Nat.reduceSub, Nat.reduceEqDiff]))
  refine CWp.loop (CLoop.junk (t := lp41_0 (.v (.sl own 1 (strs l))) (.v (.str s)) (.v (.int .i64 (l.length : Int))) (.v (.int .i64 ((0 : Nat) : Int)))) (index_loop own l s hlen M _ (l.length + 1) 0 (by omega) (by omega) ?_ ?_) (by simp [Junked, lp41_0, strs_len]))
  · intro k t hk ht
    simp only [go_sem, Nat.reduceAdd, Nat.reduceLeDiff, Nat.reduceMul, Nat.reduceSub, Nat.reduceEqDiff]
    exact Fin.ret1 (.inl rfl) rfl rfl (by rw [ht]; rfl) (Mem.sub.refl _) ⟨by rw [hk], rfl⟩
  · intro hk
    simp only [go_sem, lp41_0]
    repeat (first | refine CWp.seq ?_ | refine CWp.block ?_ | (refine CWp.ret ?_; try simp only [go_sem, Nat.reduceAdd, Nat.reduceLeDiff, Nat.reduceMul, Nat.reduceSub, Nat.reduceEqDiff]) | (refine CWp.skip ?_; try simp only [go_sem, Nat.reduceAdd, Nat.reduceLeDiff, Nat.reduceMul, Nat.reduceSub, Nat.reduceEqDiff]) | (refine CWp.reg tt_ok ?_; simp only [go_sem, Nat.reduceAdd, Nat.reduceLeDiff, Nat.reduceMul, Nat.reduceSub, Nat.reduceEqDiff]))
    exact Fin.ret1 (.inl rfl) rfl rfl rfl (Mem.sub.refl _) ⟨by rw [hk], rfl⟩

theorem contains_spec (own : Own) (l : List (List UInt8)) (s : List UInt8) (hlen : l.length ≤ 1000000) : Pure Tryd.prog 29 [.sl own 1 (strs l), .str s] (.bool (l.contains s)) := fun M => by
  refine enter29 _ _ ?_
  simp only [cc29]
  repeat (first | refine CWp.seq ?_ | refine CWp.block ?_ | (refine CWp.ret ?_; try simp only [go_sem, Nat.reduceAdd, Nat.reduceLeDiff, Nat.reduceMul, Nat.reduceSub, Nat.reduceEqDiff]) | (refine CWp.skip ?_; try simp only [go_sem, Nat.reduceAdd, Nat.reduceLeDiff, Nat.reduceMul, Nat.reduceSub, Nat.reduceEqDiff]) | (refine CWp.reg tt_ok ?_; simp only [go_sem, Nat.reduceAdd, Nat.reduceLeDiff, Nat.reduceMul, Nat.reduceSub, Nat.reduceEqDiff]))
  refine COps.pure has41 rfl rfl (by simp) (fun _ => index_spec own l s hlen) (evalC_sound tt_ok _ _ ?_)
  simp only [go_sem, Nat.reduceAdd, Nat.reduceLeDiff, Nat.reduceMul, Nat.reduceSub, Nat.reduceEqDiff]
  repeat (first | refine CWp.seq ?_ | refine CWp.block ?_ | (refine CWp.ret ?_; try simp only [go_sem, Nat.reduceAdd, Nat.reduceLeDiff, Nat.reduceMul, Nat.reduceSub, Nat.reduceEqDiff]) | (refine CWp.skip ?_; try simp only [go_sem, Nat.reduceAdd, Nat.reduceLeDiff, Nat.reduceMul, Nat.reduceSub, Nat.reduceEqDiff]) | (refine CWp.reg tt_ok ?_; simp only [go_sem, Nat.reduceAdd, Nat.reduceLeDiff, Nat.reduceMul, Nat.reduceSub, Nat.reduceEqDiff]))
  refine Fin.ret1 (.inl rfl) rfl rfl rfl (Mem.sub.refl _) ⟨?_, rfl⟩
  rw [idxN_any _ _ _ _ (by omega) (by omega), List.drop_zero]
  have : (l.any fun x => decide (s = x)) = l.contains s := by
    rw [Bool.eq_iff_iff]; simp
  rw [this]

/-- A predicate of the program's. -/
def PredAt {α : Type} (g : FuncId) (cap : List AV) (enc : α → AV) (p : α → Bool) (l : List α) (M : Mem) : Prop :=
  Has Tryd.prog g ∧ ∀ x ∈ l, ACalls Tryd.prog g (enc x :: cap) M fun e M' => e = .ret (.bool (p x)) ∧ M' = M

theorem indexF_loop (own : Own) (l : List (List UInt8)) (g : FuncId) (cap : List AV) (p : List UInt8 → Bool) (hlen : l.length ≤ 1000000) (M : Mem) (hp : PredAt g cap AV.str p l M) (Q : AExit → St → Prop) : ∀ (n i : Nat), l.length - i < n → i ≤ l.length →
    (∀ k t, idxN p l n i = k → t[4]? = some (.v (.int .i64 k)) → Q .ret { tmps := t, loc := [], rows := [], defs := [], M := M }) →
    (idxN p l n i = -1 → Q (.exit 0) { tmps := lp33_0 (.v (.sl own 1 (strs l))) (.v (.fn (.func g) [] cap)) (.v (.int .i64 (l.length : Int))) (.v (.int .i64 (l.length : Int))), loc := [], rows := [], defs := [], M := M }) →
    CLoop none Tryd.prog tt esc33 cc33_l0 Q { tmps := lp33_0 (.v (.sl own 1 (strs l))) (.v (.fn (.func g) [] cap)) (.v (.int .i64 (l.length : Int))) (.v (.int .i64 (i : Int))), loc := [], rows := [], defs := [], M := M } := by
  intro n
  induction n with
  | zero => intro i h0 h1 hQ1 hQ2; omega
  | succ n ih =>
    intro i h0 h1 hQ1 hQ2
    refine CLoop.unroll ?_
    generalize hK : CLoop none Tryd.prog tt esc33 cc33_l0 Q = K
    simp only [cc33_l0, lp33_0]
    repeat (first | refine CWp.seq ?_ | refine CWp.block ?_ | (refine CWp.ret ?_; try simp only [go_sem, Nat.reduceAdd, Nat.reduceLeDiff, Nat.reduceMul, Nat.reduceSub, Nat.reduceEqDiff]) | (refine CWp.skip ?_; try simp only [go_sem, Nat.reduceAdd, Nat.reduceLeDiff, Nat.reduceMul, Nat.reduceSub, Nat.reduceEqDiff]) | (refine CWp.reg tt_ok ?_; simp only [go_sem, Nat.reduceAdd, Nat.reduceLeDiff, Nat.reduceMul, Nat.reduceSub, Nat.reduceEqDiff]))
    refine CWp.cond rfl ?_ ?_ <;> intro hc
    · have hi : i < l.length := by simpa using hc
      have hx := strs_at l i l[i] (List.getElem?_eq_getElem hi)
      simp only [idxN, List.getElem?_eq_getElem hi] at hQ1 hQ2
      refine CWp.skip ?_
      simp only [go_sem, Nat.reduceAdd, Nat.reduceLeDiff, Nat.reduceMul, Nat.reduceSub, Nat.reduceEqDiff]
      repeat (first | refine CWp.seq ?_ | refine CWp.block ?_ | (refine CWp.ret ?_; try simp only [go_sem, Nat.reduceAdd, Nat.reduceLeDiff, Nat.reduceMul, Nat.reduceSub, Nat.reduceEqDiff]) | (refine CWp.skip ?_; try simp only [go_sem, Nat.reduceAdd, Nat.reduceLeDiff, Nat.reduceMul, Nat.reduceSub, Nat.reduceEqDiff]) | (refine CWp.reg tt_ok ?_; simp only [go_sem, Nat.reduceAdd, Nat.reduceLeDiff, Nat.reduceMul, Nat.reduceSub, Nat.reduceEqDiff]))
      simp only [go_sem, hx, strs_len]
      repeat (with_reducible refine And.intro (by first | exact True.intro | assumption | omega | (intros; omega) | (intro hg; simp only [Bool.and_eq_true, Bool.or_eq_true, decide_eq_true_eq, Bool.not_eq_true', decide_eq_false_iff_not] at hg; omega) | (simp only [decide_eq_true_eq, Bool.and_eq_true, Bool.or_eq_true, Bool.not_eq_true', decide_eq_false_iff_not]; omega) | (intros; simp_all; done) | (intros; simp_all; omega)) ?_)
      refine COps.call hp.1 rfl (by simp) ((hp.2 l[i] (List.getElem_mem hi)).mono ?_)
      rintro x M' ⟨rfl, rfl⟩
      refine evalC_sound tt_ok _ _ ?_
      simp only [go_sem, Nat.reduceAdd, Nat.reduceLeDiff, Nat.reduceMul, Nat.reduceSub, Nat.reduceEqDiff]
      refine CWp.cond rfl ?_ ?_ <;> intro hc2
      · repeat (first | refine CWp.seq ?_ | refine CWp.block ?_ | (refine CWp.ret ?_; try simp only [go_sem, Nat.reduceAdd, Nat.reduceLeDiff, Nat.reduceMul, Nat.reduceSub, Nat.reduceEqDiff]) | (refine CWp.skip ?_; try simp only [go_sem, Nat.reduceAdd, Nat.reduceLeDiff, Nat.reduceMul, Nat.reduceSub, Nat.reduceEqDiff]) | (refine CWp.reg tt_ok ?_; simp only [go_sem, Nat.reduceAdd, Nat.reduceLeDiff, Nat.reduceMul, Nat.reduceSub, Nat.reduceEqDiff]))
        refine hQ1 _ _ ?_ rfl
        rw [hc2]; rfl
      · rw [hc2] at hQ1 hQ2
        simp only [cond_false] at hQ1 hQ2
        repeat (first | refine CWp.seq ?_ | refine CWp.block ?_ | (refine CWp.ret ?_; try simp only [go_sem, Nat.reduceAdd, Nat.reduceLeDiff, Nat.reduceMul, Nat.reduceSub, Nat.reduceEqDiff]) | (refine CWp.skip ?_; try simp only [go_sem, Nat.reduceAdd, Nat.reduceLeDiff, Nat.reduceMul, Nat.reduceSub, Nat.reduceEqDiff]) | (refine CWp.reg tt_ok ?_; simp only [go_sem, Nat.reduceAdd, Nat.reduceLeDiff, Nat.reduceMul, Nat.reduceSub, Nat.reduceEqDiff]))
        repeat (with_reducible refine And.intro (by first | exact True.intro | assumption | omega | (intros; omega) | (intro hg; simp only [Bool.and_eq_true, Bool.or_eq_true, decide_eq_true_eq, Bool.not_eq_true', decide_eq_false_iff_not] at hg; omega) | (simp only [decide_eq_true_eq, Bool.and_eq_true, Bool.or_eq_true, Bool.not_eq_true', decide_eq_false_iff_not]; omega) | (intros; simp_all; done) | (intros; simp_all; omega)) ?_)
        rw [← hK]
        exact CLoop.junk (t := lp33_0 (.v (.sl own 1 (strs l))) (.v (.fn (.func g) [] cap)) (.v (.int .i64 (l.length : Int))) (.v (.int .i64 ((i + 1 : Nat) : Int)))) (ih (i + 1) (by omega) (by omega) hQ1 hQ2) (by simp [Junked, lp33_0])
    · have hi : i = l.length := by simp at hc; omega
      subst hi
      refine CWp.junk (t := lp33_0 (.v (.sl own 1 (strs l))) (.v (.fn (.func g) [] cap)) (.v (.int .i64 (l.length : Int))) (.v (.int .i64 (l.length : Int)))) (CWp.exit (hQ2 ?_)) (by simp [Junked, lp33_0])
      simp [idxN]

theorem containsF_spec (own : Own) (l : List (List UInt8)) (g : FuncId) (cap : List AV) (p : List UInt8 → Bool) (hlen : l.length ≤ 1000000) (M : Mem) (hp : PredAt g cap AV.str p l M) :
    ACalls Tryd.prog 15 [.sl own 1 (strs l), .fn (.func g) [] cap] M fun e M' => e = .ret (.bool (l.any p)) ∧ M' = M := by
  have hidx : ACalls Tryd.prog 33 [.sl own 1 (strs l), .fn (.func g) [] cap] M fun e M' => e = .ret (.int .i64 (idxN p l (l.length + 1) 0)) ∧ M' = M := by
    refine enter33 _ _ ?_
    simp only [cc33]
    repeat (first | refine CWp.seq ?_ | refine CWp.block ?_ | (refine CWp.ret ?_; try simp only [go_sem, Nat.reduceAdd, Nat.reduceLeDiff, Nat.reduceMul, Nat.reduceSub, Nat.reduceEqDiff]) | (refine CWp.skip ?_; try simp only [go_sem, Nat.reduceAdd, Nat.reduceLeDiff, Nat.reduceMul, Nat.reduceSub, Nat.reduceEqDiff]) | (refine CWp.reg tt_ok ?_; simp only [go_sem, Nat.reduceAdd, Nat.reduceLeDiff, Nat.reduceMul, Nat.reduceSub, Nat.reduceEqDiff]))
    refine CWp.loop (CLoop.junk (t := lp33_0 (.v (.sl own 1 (strs l))) (.v (.fn (.func g) [] cap)) (.v (.int .i64 (l.length : Int))) (.v (.int .i64 ((0 : Nat) : Int)))) (indexF_loop own l g cap p hlen M hp _ (l.length + 1) 0 (by omega) (by omega) ?_ ?_) (by simp [Junked, lp33_0, strs_len]))
    · intro k t hk ht
      simp only [go_sem, Nat.reduceAdd, Nat.reduceLeDiff, Nat.reduceMul, Nat.reduceSub, Nat.reduceEqDiff]
      exact Fin.ret1 (.inl rfl) rfl rfl (by rw [ht]; rfl) (Mem.sub.refl _) ⟨by rw [hk], rfl⟩
    · intro hk
      simp only [go_sem, lp33_0]
      repeat (first | refine CWp.seq ?_ | refine CWp.block ?_ | (refine CWp.ret ?_; try simp only [go_sem, Nat.reduceAdd, Nat.reduceLeDiff, Nat.reduceMul, Nat.reduceSub, Nat.reduceEqDiff]) | (refine CWp.skip ?_; try simp only [go_sem, Nat.reduceAdd, Nat.reduceLeDiff, Nat.reduceMul, Nat.reduceSub, Nat.reduceEqDiff]) | (refine CWp.reg tt_ok ?_; simp only [go_sem, Nat.reduceAdd, Nat.reduceLeDiff, Nat.reduceMul, Nat.reduceSub, Nat.reduceEqDiff]))
      exact Fin.ret1 (.inl rfl) rfl rfl rfl (Mem.sub.refl _) ⟨by rw [hk], rfl⟩
  refine enter15 _ _ ?_
  simp only [cc15]
  repeat (first | refine CWp.seq ?_ | refine CWp.block ?_ | (refine CWp.ret ?_; try simp only [go_sem, Nat.reduceAdd, Nat.reduceLeDiff, Nat.reduceMul, Nat.reduceSub, Nat.reduceEqDiff]) | (refine CWp.skip ?_; try simp only [go_sem, Nat.reduceAdd, Nat.reduceLeDiff, Nat.reduceMul, Nat.reduceSub, Nat.reduceEqDiff]) | (refine CWp.reg tt_ok ?_; simp only [go_sem, Nat.reduceAdd, Nat.reduceLeDiff, Nat.reduceMul, Nat.reduceSub, Nat.reduceEqDiff]))
  refine COps.call has33 rfl (by simp) (hidx.mono ?_)
  rintro x M' ⟨rfl, rfl⟩
  refine evalC_sound tt_ok _ _ ?_
  simp only [go_sem, Nat.reduceAdd, Nat.reduceLeDiff, Nat.reduceMul, Nat.reduceSub, Nat.reduceEqDiff]
  repeat (first | refine CWp.seq ?_ | refine CWp.block ?_ | (refine CWp.ret ?_; try simp only [go_sem, Nat.reduceAdd, Nat.reduceLeDiff, Nat.reduceMul, Nat.reduceSub, Nat.reduceEqDiff]) | (refine CWp.skip ?_; try simp only [go_sem, Nat.reduceAdd, Nat.reduceLeDiff, Nat.reduceMul, Nat.reduceSub, Nat.reduceEqDiff]) | (refine CWp.reg tt_ok ?_; simp only [go_sem, Nat.reduceAdd, Nat.reduceLeDiff, Nat.reduceMul, Nat.reduceSub, Nat.reduceEqDiff]))
  refine Fin.ret1 (.inl rfl) rfl rfl rfl (Mem.sub.refl _) ⟨?_, rfl⟩
  rw [idxN_any _ _ _ _ (by omega) (by omega), List.drop_zero]

theorem long_spec (s : List UInt8) (hs : s.length ≤ 140737488355328) : Pure Tryd.prog 32 [.str s] (.bool (decide (100 < s.length))) := fun M => by
  refine enter32 _ ?_
  simp only [cc32]
  repeat (first | refine CWp.seq ?_ | refine CWp.block ?_ | (refine CWp.ret ?_; try simp only [go_sem, Nat.reduceAdd, Nat.reduceLeDiff, Nat.reduceMul, Nat.reduceSub, Nat.reduceEqDiff]) | (refine CWp.skip ?_; try simp only [go_sem, Nat.reduceAdd, Nat.reduceLeDiff, Nat.reduceMul, Nat.reduceSub, Nat.reduceEqDiff]) | (refine CWp.reg tt_ok ?_; simp only [go_sem, Nat.reduceAdd, Nat.reduceLeDiff, Nat.reduceMul, Nat.reduceSub, Nat.reduceEqDiff]))
  exact Fin.ret1 (.inl rfl) rfl rfl rfl (Mem.sub.refl _) ⟨by rw [show decide ((100 : Int) < (s.length : Int)) = decide (100 < s.length) from decide_eq_decide.2 (by omega)], rfl⟩
theorem long2_spec (s : List UInt8) (hs : s.length ≤ 140737488355328) : Pure Tryd.prog 16 [.str s] (.bool (decide (100 < s.length))) := fun M => by
  refine enter16 _ ?_
  simp only [cc16]
  repeat (first | refine CWp.seq ?_ | refine CWp.block ?_ | (refine CWp.ret ?_; try simp only [go_sem, Nat.reduceAdd, Nat.reduceLeDiff, Nat.reduceMul, Nat.reduceSub, Nat.reduceEqDiff]) | (refine CWp.skip ?_; try simp only [go_sem, Nat.reduceAdd, Nat.reduceLeDiff, Nat.reduceMul, Nat.reduceSub, Nat.reduceEqDiff]) | (refine CWp.reg tt_ok ?_; simp only [go_sem, Nat.reduceAdd, Nat.reduceLeDiff, Nat.reduceMul, Nat.reduceSub, Nat.reduceEqDiff]))
  exact Fin.ret1 (.inl rfl) rfl rfl rfl (Mem.sub.refl _) ⟨by rw [show decide ((100 : Int) < (s.length : Int)) = decide (100 < s.length) from decide_eq_decide.2 (by omega)], rfl⟩
end Go.Proofs.ScA
