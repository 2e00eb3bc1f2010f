import Derived.Test.YticifcoffgoajaaDoorLxAF
set_option linter.unusedVariables false
set_option linter.unusedSimpArgs false
set_option maxRecDepth 100000
namespace Go.Proofs.LxA
open Go Go.Am Go.Proofs
set_option linter.unusedSectionVars false
variable [Inhabited LaidBox]

def letterB (c : Int) : Bool := (decide (97 ≤ c) && decide (c ≤ 122)) || (decide (65 ≤ c) && decide (c ≤ 90))
def digitB (c : Int) : Bool := decide (48 ≤ c) && decide (c ≤ 57)
def beginsB (c : Int) : Bool := letterB c || decide (c = 95)
def classI (c : Int) : Int := bif beginsB c then 1 else bif digitB c then 2 else bif decide (c = 34) then 3 else 0
def inWordB (c : Int) : Bool := beginsB c || digitB c || decide (c = 39)

theorem letter_spec (c : Int) : Pure Tryd.prog 46 [.int .u8 c] (.bool (letterB c)) := fun M => by
  refine enter46 _ ?_
  simp only [cc46]
  repeat (first | refine CWp.seq ?_ | refine CWp.block ?_ | (refine CWp.ret ?_; try simp only [go_sem, Nat.reduceAdd, Nat.reduceLeDiff, Nat.reduceMul, Nat.reduceSub, Nat.reduceEqDiff]) | (refine CWp.skip ?_; try simp only [go_sem, Nat.reduceAdd, Nat.reduceLeDiff, Nat.reduceMul, Nat.reduceSub, Nat.reduceEqDiff]) | (refine CWp.reg tt_ok ?_; simp only [go_sem, Nat.reduceAdd, Nat.reduceLeDiff, Nat.reduceMul, Nat.reduceSub, Nat.reduceEqDiff]))
  exact Fin.ret1 (.inl rfl) Tryd.results46 rfl rfl (Mem.sub.refl _) ⟨by simp [letterB, Bool.or_assoc], rfl⟩

theorem digit_spec (c : Int) : Pure Tryd.prog 43 [.int .u8 c] (.bool (digitB c)) := fun M => by
  refine enter43 _ ?_
  simp only [cc43]
  repeat (first | refine CWp.seq ?_ | refine CWp.block ?_ | (refine CWp.ret ?_; try simp only [go_sem, Nat.reduceAdd, Nat.reduceLeDiff, Nat.reduceMul, Nat.reduceSub, Nat.reduceEqDiff]) | (refine CWp.skip ?_; try simp only [go_sem, Nat.reduceAdd, Nat.reduceLeDiff, Nat.reduceMul, Nat.reduceSub, Nat.reduceEqDiff]) | (refine CWp.reg tt_ok ?_; simp only [go_sem, Nat.reduceAdd, Nat.reduceLeDiff, Nat.reduceMul, Nat.reduceSub, Nat.reduceEqDiff]))
  exact Fin.ret1 (.inl rfl) Tryd.results43 rfl rfl (Mem.sub.refl _) ⟨rfl, rfl⟩

theorem begins_spec (c : Int) : Pure Tryd.prog 31 [.int .u8 c] (.bool (beginsB c)) := fun M => by
  refine enter31 _ ?_
  simp only [cc31]
  repeat (first | refine CWp.seq ?_ | refine CWp.block ?_ | (refine CWp.ret ?_; try simp only [go_sem, Nat.reduceAdd, Nat.reduceLeDiff, Nat.reduceMul, Nat.reduceSub, Nat.reduceEqDiff]) | (refine CWp.skip ?_; try simp only [go_sem, Nat.reduceAdd, Nat.reduceLeDiff, Nat.reduceMul, Nat.reduceSub, Nat.reduceEqDiff]) | (refine CWp.reg tt_ok ?_; simp only [go_sem, Nat.reduceAdd, Nat.reduceLeDiff, Nat.reduceMul, Nat.reduceSub, Nat.reduceEqDiff]))
  refine COps.pure has46 rfl rfl (fun _ => ⟨trivial, trivial⟩) (fun _ => letter_spec _) (evalC_sound tt_ok _ _ ?_)
  simp only [go_sem, Nat.reduceAdd, Nat.reduceLeDiff, Nat.reduceMul, Nat.reduceSub, Nat.reduceEqDiff]
  repeat (first | refine CWp.seq ?_ | refine CWp.block ?_ | (refine CWp.ret ?_; try simp only [go_sem, Nat.reduceAdd, Nat.reduceLeDiff, Nat.reduceMul, Nat.reduceSub, Nat.reduceEqDiff]) | (refine CWp.skip ?_; try simp only [go_sem, Nat.reduceAdd, Nat.reduceLeDiff, Nat.reduceMul, Nat.reduceSub, Nat.reduceEqDiff]) | (refine CWp.reg tt_ok ?_; simp only [go_sem, Nat.reduceAdd, Nat.reduceLeDiff, Nat.reduceMul, Nat.reduceSub, Nat.reduceEqDiff]))
  exact Fin.ret1 (.inl rfl) Tryd.results31 rfl rfl (Mem.sub.refl _) ⟨rfl, rfl⟩

theorem class_spec (c : Int) : Pure Tryd.prog 26 [.int .u8 c] (.int .i64 (classI c)) := fun M => by
  refine enter26 _ ?_
  simp only [cc26]
  repeat' (first | refine CWp.seq ?_ | refine CWp.block ?_ | (refine CWp.ret ?_; try simp only [go_sem, Nat.reduceAdd, Nat.reduceLeDiff, Nat.reduceMul, Nat.reduceSub, Nat.reduceEqDiff]) | (refine CWp.skip ?_; try simp only [go_sem, Nat.reduceAdd, Nat.reduceLeDiff, Nat.reduceMul, Nat.reduceSub, Nat.reduceEqDiff]) | (refine CWp.reg tt_ok ?_; simp only [go_sem, Nat.reduceAdd, Nat.reduceLeDiff, Nat.reduceMul, Nat.reduceSub, Nat.reduceEqDiff]) | (refine CWp.exit ?_; simp only [go_sem, Nat.reduceAdd, Nat.reduceLeDiff, Nat.reduceMul, Nat.reduceSub, Nat.reduceEqDiff]) | (refine CWp.cond rfl ?_ ?_ <;> intro h))
  all_goals refine Fin.ret1 (.inl rfl) Tryd.results26 rfl rfl (Mem.sub.refl _) ⟨?_, rfl⟩
  all_goals grind [classI, beginsB, letterB, digitB]

theorem inWord_spec (c : Int) : Pure Tryd.prog 29 [.int .u8 c] (.bool (inWordB c)) := fun M => by
  refine enter29 _ ?_
  simp only [cc29]
  repeat (first | refine CWp.seq ?_ | refine CWp.block ?_ | (refine CWp.ret ?_; try simp only [go_sem, Nat.reduceAdd, Nat.reduceLeDiff, Nat.reduceMul, Nat.reduceSub, Nat.reduceEqDiff]) | (refine CWp.skip ?_; try simp only [go_sem, Nat.reduceAdd, Nat.reduceLeDiff, Nat.reduceMul, Nat.reduceSub, Nat.reduceEqDiff]) | (refine CWp.reg tt_ok ?_; simp only [go_sem, Nat.reduceAdd, Nat.reduceLeDiff, Nat.reduceMul, Nat.reduceSub, Nat.reduceEqDiff]))
  refine COps.pure has26 rfl rfl (by simp) (fun _ => class_spec _) (evalC_sound tt_ok _ _ ?_)
  simp only [go_sem, Nat.reduceAdd, Nat.reduceLeDiff, Nat.reduceMul, Nat.reduceSub, Nat.reduceEqDiff]
  refine COps.pure has26 rfl rfl (by simp) (fun _ => class_spec _) (evalC_sound tt_ok _ _ ?_)
  simp only [go_sem, Nat.reduceAdd, Nat.reduceLeDiff, Nat.reduceMul, Nat.reduceSub, Nat.reduceEqDiff]
  repeat (first | refine CWp.seq ?_ | refine CWp.block ?_ | (refine CWp.ret ?_; try simp only [go_sem, Nat.reduceAdd, Nat.reduceLeDiff, Nat.reduceMul, Nat.reduceSub, Nat.reduceEqDiff]) | (refine CWp.skip ?_; try simp only [go_sem, Nat.reduceAdd, Nat.reduceLeDiff, Nat.reduceMul, Nat.reduceSub, Nat.reduceEqDiff]) | (refine CWp.reg tt_ok ?_; simp only [go_sem, Nat.reduceAdd, Nat.reduceLeDiff, Nat.reduceMul, Nat.reduceSub, Nat.reduceEqDiff]))
  refine Fin.ret1 (.inl rfl) Tryd.results29 rfl rfl (Mem.sub.refl _) ⟨?_, rfl⟩
  congr 2
  unfold classI inWordB
  cases beginsB c <;> cases digitB c <;> simp
  by_cases h : c = 34 <;> simp [h]

/-- The component at an offset. -/
def isComp (c : Int) : Bool := beginsB c || digitB c || decide (c = 39)
def byteI (s : List UInt8) (i : Nat) : Int := ((s.getD i 0).toNat : Int)
def compEnd (s : List UInt8) : Nat → Nat → Nat
  | 0, at_ => at_
  | n + 1, at_ => if at_ < s.length ∧ isComp (byteI s at_) = true then compEnd s n (at_ + 1) else at_

theorem comp_loop (s : List UInt8) (hlen : s.length ≤ 9223372036854775806) (M : Mem) (Q : AExit → St → Prop) : ∀ (n at_ : Nat), s.length - at_ < n → at_ ≤ s.length →
    Q (.exit 0) { tmps := lp32_0 (.v (.str s)) (.v (.int .i64 ((compEnd s n at_ : Nat) : Int))), loc := [], rows := [], defs := [], M := M } →
    CLoop none Tryd.prog tt esc32 cc32_l0 Q { tmps := lp32_0 (.v (.str s)) (.v (.int .i64 (at_ : Int))), loc := [], rows := [], defs := [], M := M } := by
  intro n
  induction n with
  | zero => intro at_ h0 h1 hQ; omega
  | succ n ih =>
    intro at_ h0 h1 hQ
    refine CLoop.unroll ?_
    generalize hK : CLoop none Tryd.prog tt esc32 cc32_l0 Q = K
    simp only [cc32_l0, lp32_0]
    repeat (first | refine CWp.seq ?_ | refine CWp.block ?_ | (refine CWp.ret ?_; try simp only [go_sem, Nat.reduceAdd, Nat.reduceLeDiff, Nat.reduceMul, Nat.reduceSub, Nat.reduceEqDiff]) | (refine CWp.skip ?_; try simp only [go_sem, Nat.reduceAdd, Nat.reduceLeDiff, Nat.reduceMul, Nat.reduceSub, Nat.reduceEqDiff]) | (refine CWp.reg tt_ok ?_; simp only [go_sem, Nat.reduceAdd, Nat.reduceLeDiff, Nat.reduceMul, Nat.reduceSub, Nat.reduceEqDiff]))
    repeat (with_reducible refine And.intro (by first | exact True.intro | assumption | omega | (intros; omega) | (intro hg; simp only [Bool.and_eq_true, Bool.or_eq_true, decide_eq_true_eq, Bool.not_eq_true', decide_eq_false_iff_not] at hg; omega) | (simp only [decide_eq_true_eq, Bool.and_eq_true, Bool.or_eq_true, Bool.not_eq_true', decide_eq_false_iff_not]; omega) | (intros; simp_all; done) | (intros; simp_all; omega)) ?_)
    refine COps.pure has31 rfl rfl (by simp) (fun _ => begins_spec _) (evalC_sound tt_ok _ _ ?_)
    simp only [go_sem, Nat.reduceAdd, Nat.reduceLeDiff, Nat.reduceMul, Nat.reduceSub, Nat.reduceEqDiff]
    repeat (with_reducible refine And.intro (by first | exact True.intro | assumption | omega | (intros; omega) | (intro hg; simp only [Bool.and_eq_true, Bool.or_eq_true, decide_eq_true_eq, Bool.not_eq_true', decide_eq_false_iff_not] at hg; omega) | (simp only [decide_eq_true_eq, Bool.and_eq_true, Bool.or_eq_true, Bool.not_eq_true', decide_eq_false_iff_not]; omega) | (intros; simp_all; done) | (intros; simp_all; omega)) ?_)
    refine COps.pure has43 rfl rfl (by simp) (fun _ => digit_spec _) (evalC_sound tt_ok _ _ ?_)
    simp only [go_sem, Nat.reduceAdd, Nat.reduceLeDiff, Nat.reduceMul, Nat.reduceSub, Nat.reduceEqDiff]
    repeat (with_reducible refine And.intro (by first | exact True.intro | assumption | omega | (intros; omega) | (intro hg; simp only [Bool.and_eq_true, Bool.or_eq_true, decide_eq_true_eq, Bool.not_eq_true', decide_eq_false_iff_not] at hg; omega) | (simp only [decide_eq_true_eq, Bool.and_eq_true, Bool.or_eq_true, Bool.not_eq_true', decide_eq_false_iff_not]; omega) | (intros; simp_all; done) | (intros; simp_all; omega)) ?_)
    repeat (first | refine CWp.seq ?_ | refine CWp.block ?_ | (refine CWp.ret ?_; try simp only [go_sem, Nat.reduceAdd, Nat.reduceLeDiff, Nat.reduceMul, Nat.reduceSub, Nat.reduceEqDiff]) | (refine CWp.skip ?_; try simp only [go_sem, Nat.reduceAdd, Nat.reduceLeDiff, Nat.reduceMul, Nat.reduceSub, Nat.reduceEqDiff]) | (refine CWp.reg tt_ok ?_; simp only [go_sem, Nat.reduceAdd, Nat.reduceLeDiff, Nat.reduceMul, Nat.reduceSub, Nat.reduceEqDiff]))
    refine CWp.cond rfl ?_ ?_ <;> intro hc
    · repeat (first | refine CWp.seq ?_ | refine CWp.block ?_ | (refine CWp.ret ?_; try simp only [go_sem, Nat.reduceAdd, Nat.reduceLeDiff, Nat.reduceMul, Nat.reduceSub, Nat.reduceEqDiff]) | (refine CWp.skip ?_; try simp only [go_sem, Nat.reduceAdd, Nat.reduceLeDiff, Nat.reduceMul, Nat.reduceSub, Nat.reduceEqDiff]) | (refine CWp.reg tt_ok ?_; simp only [go_sem, Nat.reduceAdd, Nat.reduceLeDiff, Nat.reduceMul, Nat.reduceSub, Nat.reduceEqDiff]))
      repeat (with_reducible refine And.intro (by first | exact True.intro | assumption | omega | (intros; omega) | (intro hg; simp only [Bool.and_eq_true, Bool.or_eq_true, decide_eq_true_eq, Bool.not_eq_true', decide_eq_false_iff_not] at hg; omega) | (simp only [decide_eq_true_eq, Bool.and_eq_true, Bool.or_eq_true, Bool.not_eq_true', decide_eq_false_iff_not]; omega) | (intros; simp_all; done) | (intros; simp_all; omega)) ?_)
      simp only [Bool.and_eq_true, decide_eq_true_eq] at hc
      rw [← hK]
      refine CLoop.junk (t := lp32_0 (.v (.str s)) (.v (.int .i64 ((at_ + 1 : Nat) : Int)))) (ih (at_ + 1) (by omega) (by omega) ?_) (by simp [Junked, lp32_0])
      have e : compEnd s (n + 1) at_ = compEnd s n (at_ + 1) := by
        simp only [compEnd]
        rw [if_pos ⟨by omega, hc.2⟩]
      rw [← e]; exact hQ
    ·
      have e : compEnd s (n + 1) at_ = at_ := by
        simp only [compEnd]
        rw [if_neg]
        rintro ⟨h2, h3⟩
        simp only [isComp, byteI] at h3
        simp [h2] at hc
        simp_all
      rw [e] at hQ
      exact CWp.junk (t := lp32_0 (.v (.str s)) (.v (.int .i64 (at_ : Int)))) (CWp.exit hQ) (by simp [Junked, lp32_0])

theorem component_spec (s : List UInt8) (hlen : s.length ≤ 9223372036854775806) (at_ : Nat) (hat : at_ ≤ s.length) : Pure Tryd.prog 32 [.str s, .int .i64 (at_ : Int)] (.int .i64 ((compEnd s (s.length + 1) at_ : Nat) : Int)) := fun M => by
  refine enter32 _ _ ?_
  simp only [cc32]
  repeat (first | refine CWp.seq ?_ | refine CWp.block ?_ | (refine CWp.ret ?_; try simp only [go_sem, Nat.reduceAdd, Nat.reduceLeDiff, Nat.reduceMul, Nat.reduceSub, Nat.reduceEqDiff]) | (refine CWp.skip ?_; try simp only [go_sem, Nat.reduceAdd, Nat.reduceLeDiff, Nat.reduceMul, Nat.reduceSub, Nat.reduceEqDiff]) | (refine CWp.reg tt_ok ?_; simp only [go_sem, Nat.reduceAdd, Nat.reduceLeDiff, Nat.reduceMul, Nat.reduceSub, Nat.reduceEqDiff]))
  refine CWp.loop (CLoop.junk (t := lp32_0 (.v (.str s)) (.v (.int .i64 (at_ : Int)))) (comp_loop s hlen M _ (s.length + 1) at_ (by omega) hat ?_) (by simp [Junked, lp32_0]))
  simp only [go_sem, lp32_0]
  repeat (first | refine CWp.seq ?_ | refine CWp.block ?_ | (refine CWp.ret ?_; try simp only [go_sem, Nat.reduceAdd, Nat.reduceLeDiff, Nat.reduceMul, Nat.reduceSub, Nat.reduceEqDiff]) | (refine CWp.skip ?_; try simp only [go_sem, Nat.reduceAdd, Nat.reduceLeDiff, Nat.reduceMul, Nat.reduceSub, Nat.reduceEqDiff]) | (refine CWp.reg tt_ok ?_; simp only [go_sem, Nat.reduceAdd, Nat.reduceLeDiff, Nat.reduceMul, Nat.reduceSub, Nat.reduceEqDiff]))
  exact Fin.ret1 (.inl rfl) Tryd.results32 rfl rfl (Mem.sub.refl _) ⟨rfl, rfl⟩
end Go.Proofs.LxA
set_option linter.unusedVariables false
set_option linter.unusedSimpArgs false
set_option maxRecDepth 100000
namespace Go.Proofs.LxA
open Go Go.Am Go.Proofs
set_option linter.unusedSectionVars false
variable [Inhabited LaidBox]


theorem has_loop (own : Own) (l : List (List UInt8)) (s : List UInt8) (hlen : l.length ≤ 9223372036854775806) (M : Mem) (Q : AExit → St → Prop) : ∀ (n i : Nat), l.length - i < n → i ≤ l.length →
    (s ∈ l.drop i → ∀ t, t[4]? = some (.v (.bool true)) → Q .ret { tmps := t, loc := [], rows := [], defs := [], M := M }) →
    (s ∉ l.drop i → Q (.exit 0) { tmps := lp42_0 (.v (.sl own 1 (strs l))) (.v (.str s)) (.v (.int .i64 (l.length : Int))), loc := [], rows := [], defs := [], M := M }) →
    CLoop none Tryd.prog tt esc42 cc42_l0 Q { tmps := lp42_0 (.v (.sl own 1 (strs l))) (.v (.str s)) (.v (.int .i64 (i : Int))), loc := [], rows := [], defs := [], M := M } := by
  intro n
  induction n with
  | zero => intro i h0 h1 hQ1 hQ2; omega
  | succ n ih =>
    intro i h0 h1 hQ1 hQ2
    refine CLoop.unroll ?_
    generalize hK : CLoop none Tryd.prog tt esc42 cc42_l0 Q = K
    simp only [cc42_l0, lp42_0]
    repeat (first | refine CWp.seq ?_ | refine CWp.block ?_ | (refine CWp.ret ?_; try simp only [go_sem, Nat.reduceAdd, Nat.reduceLeDiff, Nat.reduceMul, Nat.reduceSub, Nat.reduceEqDiff]) | (refine CWp.skip ?_; try simp only [go_sem, Nat.reduceAdd, Nat.reduceLeDiff, Nat.reduceMul, Nat.reduceSub, Nat.reduceEqDiff]) | (refine CWp.reg tt_ok ?_; simp only [go_sem, Nat.reduceAdd, Nat.reduceLeDiff, Nat.reduceMul, Nat.reduceSub, Nat.reduceEqDiff]))
    simp only [strs_len]
    refine CWp.cond rfl ?_ ?_ <;> intro hc
    · have hi : i < l.length := by simpa using hc
      have hx := strs_at l i l[i] (List.getElem?_eq_getElem hi)
      refine CWp.skip ?_
      simp only [go_sem, Nat.reduceAdd, Nat.reduceLeDiff, Nat.reduceMul, Nat.reduceSub, Nat.reduceEqDiff]
      refine CWp.seq ?_
      refine CWp.block ?_
      refine CWp.seq ?_
      refine CWp.reg tt_ok ?_
      simp only [go_sem, hx, strs_len]
      repeat (with_reducible refine And.intro (by first | exact True.intro | assumption | omega | (intros; omega) | (intro hg; simp only [Bool.and_eq_true, Bool.or_eq_true, decide_eq_true_eq, Bool.not_eq_true', decide_eq_false_iff_not] at hg; omega) | (simp only [decide_eq_true_eq, Bool.and_eq_true, Bool.or_eq_true, Bool.not_eq_true', decide_eq_false_iff_not]; omega) | (intros; simp_all; done) | (intros; simp_all; omega)) ?_)
      refine CWp.cond rfl ?_ ?_ <;> intro hc2
      · repeat (first | refine CWp.seq ?_ | refine CWp.block ?_ | (refine CWp.ret ?_; try simp only [go_sem, Nat.reduceAdd, Nat.reduceLeDiff, Nat.reduceMul, Nat.reduceSub, Nat.reduceEqDiff]) | (refine CWp.skip ?_; try simp only [go_sem, Nat.reduceAdd, Nat.reduceLeDiff, Nat.reduceMul, Nat.reduceSub, Nat.reduceEqDiff]) | (refine CWp.reg tt_ok ?_; simp only [go_sem, Nat.reduceAdd, Nat.reduceLeDiff, Nat.reduceMul, Nat.reduceSub, Nat.reduceEqDiff]))
        refine hQ1 ?_ _ rfl
        have e : l[i] = s := by simpa using hc2
        rw [List.drop_eq_getElem_cons hi, e]
        exact List.mem_cons_self
      · repeat (first | refine CWp.seq ?_ | refine CWp.block ?_ | (refine CWp.ret ?_; try simp only [go_sem, Nat.reduceAdd, Nat.reduceLeDiff, Nat.reduceMul, Nat.reduceSub, Nat.reduceEqDiff]) | (refine CWp.skip ?_; try simp only [go_sem, Nat.reduceAdd, Nat.reduceLeDiff, Nat.reduceMul, Nat.reduceSub, Nat.reduceEqDiff]) | (refine CWp.reg tt_ok ?_; simp only [go_sem, Nat.reduceAdd, Nat.reduceLeDiff, Nat.reduceMul, Nat.reduceSub, Nat.reduceEqDiff]))
        repeat (with_reducible refine And.intro (by first | exact True.intro | assumption | omega | (intros; omega) | (intro hg; simp only [Bool.and_eq_true, Bool.or_eq_true, decide_eq_true_eq, Bool.not_eq_true', decide_eq_false_iff_not] at hg; omega) | (simp only [decide_eq_true_eq, Bool.and_eq_true, Bool.or_eq_true, Bool.not_eq_true', decide_eq_false_iff_not]; omega) | (intros; simp_all; done) | (intros; simp_all; omega)) ?_)
        have e : ¬ s = l[i] := by
          intro e
          simp [e] at hc2
        rw [← hK]
        refine CLoop.junk (t := lp42_0 (.v (.sl own 1 (strs l))) (.v (.str s)) (.v (.int .i64 ((i + 1 : Nat) : Int)))) (ih (i + 1) (by omega) (by omega) ?_ ?_) (by simp [Junked, lp42_0])
        · intro hm
          refine hQ1 ?_
          rw [List.drop_eq_getElem_cons hi]
          exact List.mem_cons_of_mem _ hm
        · intro hm
          refine hQ2 ?_
          rw [List.drop_eq_getElem_cons hi]
          exact fun h => (List.mem_cons.1 h).elim e hm
    · have hi : i = l.length := by simp at hc; omega
      refine CWp.junk (t := lp42_0 (.v (.sl own 1 (strs l))) (.v (.str s)) (.v (.int .i64 (l.length : Int)))) (CWp.exit (hQ2 ?_)) (by simp [Junked, lp42_0, hi])
      rw [hi]; simp

theorem has_spec (own : Own) (l : List (List UInt8)) (s : List UInt8) (hlen : l.length ≤ 9223372036854775806) : Pure Tryd.prog 42 [.sl own 1 (strs l), .str s] (.bool (decide (s ∈ l))) := fun M => by
  refine enter42 _ _ ?_
  simp only [cc42]
  repeat (first | refine CWp.seq ?_ | refine CWp.block ?_ | (refine CWp.ret ?_; try simp only [go_sem, Nat.reduceAdd, Nat.reduceLeDiff, Nat.reduceMul, Nat.reduceSub, Nat.reduceEqDiff]) | (refine CWp.skip ?_; try simp only [go_sem, Nat.reduceAdd, Nat.reduceLeDiff, Nat.reduceMul, Nat.reduceSub, Nat.reduceEqDiff]) | (refine CWp.reg tt_ok ?_; simp only [go_sem, Nat.reduceAdd, Nat.reduceLeDiff, Nat.reduceMul, Nat.reduceSub, Nat.reduceEqDiff]))
  refine CWp.loop (CLoop.junk (t := lp42_0 (.v (.sl own 1 (strs l))) (.v (.str s)) (.v (.int .i64 ((0 : Nat) : Int)))) (has_loop own l s hlen M _ (l.length + 1) 0 (by omega) (by omega) ?_ ?_) (by simp [Junked, lp42_0]))
  · intro hm t ht
    simp only [go_sem, Nat.reduceAdd, Nat.reduceLeDiff, Nat.reduceMul, Nat.reduceSub, Nat.reduceEqDiff]
    refine Fin.ret1 (.inl rfl) Tryd.results42 rfl (by rw [ht]; rfl) (Mem.sub.refl _) ⟨?_, rfl⟩
    simp at hm
    simp [hm]
  · intro hm
    simp only [go_sem, lp42_0]
    repeat (first | refine CWp.seq ?_ | refine CWp.block ?_ | (refine CWp.ret ?_; try simp only [go_sem, Nat.reduceAdd, Nat.reduceLeDiff, Nat.reduceMul, Nat.reduceSub, Nat.reduceEqDiff]) | (refine CWp.skip ?_; try simp only [go_sem, Nat.reduceAdd, Nat.reduceLeDiff, Nat.reduceMul, Nat.reduceSub, Nat.reduceEqDiff]) | (refine CWp.reg tt_ok ?_; simp only [go_sem, Nat.reduceAdd, Nat.reduceLeDiff, Nat.reduceMul, Nat.reduceSub, Nat.reduceEqDiff]))
    refine Fin.ret1 (.inl rfl) Tryd.results42 rfl rfl (Mem.sub.refl _) ⟨?_, rfl⟩
    simp at hm
    simp [hm]
end Go.Proofs.LxA
set_option linter.unusedVariables false
set_option linter.unusedSimpArgs false
set_option maxRecDepth 100000
namespace Go.Proofs.LxA
open Go Go.Am Go.Proofs
set_option linter.unusedSectionVars false
variable [Inhabited LaidBox]

def matchB (s : List UInt8) (at_ : Nat) (x : List UInt8) : Bool := decide (at_ + x.length ≤ s.length) && decide ((s.take (at_ + x.length)).drop at_ = x)
def longStep (s : List UInt8) (at_ best : Nat) (x : List UInt8) : Nat := bif decide (best < x.length) && matchB s at_ x then x.length else best
def longestM (s : List UInt8) (at_ : Nat) (l : List (List UInt8)) : Nat := l.foldl (longStep s at_) 0

theorem long_loop (own : Own) (l : List (List UInt8)) (s : List UInt8) (at_ : Nat) (hat : at_ ≤ s.length) (hs : s.length ≤ 1000000000) (hx : ∀ x ∈ l, x.length ≤ 1000000000) (hlen : l.length ≤ 1000000000) (M : Mem) (Q : AExit → St → Prop) : ∀ (n i best : Nat), l.length - i < n → i ≤ l.length →
    Q (.exit 0) { tmps := lp44_0 (.v (.str s)) (.v (.int .i64 (at_ : Int))) (.v (.sl own 1 (strs l))) (.v (.int .i64 (((l.drop i).foldl (longStep s at_) best : Nat) : Int))) (.v (.int .i64 (l.length : Int))), loc := [], rows := [], defs := [], M := M } →
    CLoop none Tryd.prog tt esc44 cc44_l0 Q { tmps := lp44_0 (.v (.str s)) (.v (.int .i64 (at_ : Int))) (.v (.sl own 1 (strs l))) (.v (.int .i64 (best : Int))) (.v (.int .i64 (i : Int))), loc := [], rows := [], defs := [], M := M } := by
  intro n
  induction n with
  | zero => intro i best h0 h1 hQ; omega
  | succ n ih =>
    intro i best h0 h1 hQ
    refine CLoop.unroll ?_
    generalize hK : CLoop none Tryd.prog tt esc44 cc44_l0 Q = K
    simp only [cc44_l0, lp44_0]
    repeat (first | refine CWp.seq ?_ | refine CWp.block ?_ | (refine CWp.ret ?_; try simp only [go_sem, Nat.reduceAdd, Nat.reduceLeDiff, Nat.reduceMul, Nat.reduceSub, Nat.reduceEqDiff]) | (refine CWp.skip ?_; try simp only [go_sem, Nat.reduceAdd, Nat.reduceLeDiff, Nat.reduceMul, Nat.reduceSub, Nat.reduceEqDiff]) | (refine CWp.reg tt_ok ?_; simp only [go_sem, Nat.reduceAdd, Nat.reduceLeDiff, Nat.reduceMul, Nat.reduceSub, Nat.reduceEqDiff]))
    simp only [strs_len]
    refine CWp.cond rfl ?_ ?_ <;> intro hc
    · have hi : i < l.length := by simpa using hc
      have hxi := hx l[i] (List.getElem_mem hi)
      have hxx := strs_at l i l[i] (List.getElem?_eq_getElem hi)
      refine CWp.skip ?_
      simp only [go_sem, Nat.reduceAdd, Nat.reduceLeDiff, Nat.reduceMul, Nat.reduceSub, Nat.reduceEqDiff]
      refine CWp.seq ?_
      refine CWp.block ?_
      refine CWp.seq ?_
      refine CWp.reg tt_ok ?_
      simp only [go_sem, hxx, strs_len]
      repeat (with_reducible refine And.intro (by first | exact True.intro | assumption | omega | (intros; omega) | (intro hg; simp only [Bool.and_eq_true, Bool.or_eq_true, decide_eq_true_eq, Bool.not_eq_true', decide_eq_false_iff_not] at hg; omega) | (simp only [decide_eq_true_eq, Bool.and_eq_true, Bool.or_eq_true, Bool.not_eq_true', decide_eq_false_iff_not]; omega) | (intros; simp_all; done) | (intros; simp_all; omega)) ?_)
      refine CWp.seq ?_
      refine CWp.dreg mixed tt_ok dr44_0 ?_
      simp only [go_sem, hxx, strs_len, Nat.le_refl]
      repeat (with_reducible refine And.intro (by first | exact True.intro | assumption | omega | (intros; omega) | (intro hg; simp only [Bool.and_eq_true, Bool.or_eq_true, decide_eq_true_eq, Bool.not_eq_true', decide_eq_false_iff_not] at hg; omega) | (simp only [decide_eq_true_eq, Bool.and_eq_true, Bool.or_eq_true, Bool.not_eq_true', decide_eq_false_iff_not]; omega) | (intros; simp_all; done) | (intros; simp_all; omega)) ?_)
      have e : (l.drop i).foldl (longStep s at_) best = (l.drop (i + 1)).foldl (longStep s at_) (longStep s at_ best l[i]) := by
        rw [List.drop_eq_getElem_cons hi]; rfl
      rw [e] at hQ
      have key : (decide ((best : Int) < (l[i].length : Int)) && decide ((at_ : Int) + (l[i].length : Int) ≤ (s.length : Int)) && decide (List.drop at_ (List.take ((at_ : Int) + (l[i].length : Int)).toNat s) = l[i])) = (decide (best < l[i].length) && matchB s at_ l[i]) := by
        unfold matchB
        have e1 : ((at_ : Int) + (l[i].length : Int)).toNat = at_ + l[i].length := by omega
        rw [e1, Bool.and_assoc]
        congr 1
        · exact decide_eq_decide.2 (by omega)
        · congr 1
          exact decide_eq_decide.2 (by omega)
      rw [key]
      refine CWp.cond rfl ?_ ?_ <;> intro hc2
      · repeat (first | refine CWp.seq ?_ | refine CWp.block ?_ | (refine CWp.ret ?_; try simp only [go_sem, Nat.reduceAdd, Nat.reduceLeDiff, Nat.reduceMul, Nat.reduceSub, Nat.reduceEqDiff]) | (refine CWp.skip ?_; try simp only [go_sem, Nat.reduceAdd, Nat.reduceLeDiff, Nat.reduceMul, Nat.reduceSub, Nat.reduceEqDiff]) | (refine CWp.reg tt_ok ?_; simp only [go_sem, Nat.reduceAdd, Nat.reduceLeDiff, Nat.reduceMul, Nat.reduceSub, Nat.reduceEqDiff]))
        repeat (with_reducible refine And.intro (by first | exact True.intro | assumption | omega | (intros; omega) | (intro hg; simp only [Bool.and_eq_true, Bool.or_eq_true, decide_eq_true_eq, Bool.not_eq_true', decide_eq_false_iff_not] at hg; omega) | (simp only [decide_eq_true_eq, Bool.and_eq_true, Bool.or_eq_true, Bool.not_eq_true', decide_eq_false_iff_not]; omega) | (intros; simp_all; done) | (intros; simp_all; omega)) ?_)
        have e2 : longStep s at_ best l[i] = l[i].length := by unfold longStep; rw [hc2]; rfl
        rw [e2] at hQ
        rw [← hK]
        exact CLoop.junk (t := lp44_0 (.v (.str s)) (.v (.int .i64 (at_ : Int))) (.v (.sl own 1 (strs l))) (.v (.int .i64 (l[i].length : Int))) (.v (.int .i64 ((i + 1 : Nat) : Int)))) (ih (i + 1) l[i].length (by omega) (by omega) hQ) (by simp [Junked, lp44_0])
      · repeat (first | refine CWp.seq ?_ | refine CWp.block ?_ | (refine CWp.ret ?_; try simp only [go_sem, Nat.reduceAdd, Nat.reduceLeDiff, Nat.reduceMul, Nat.reduceSub, Nat.reduceEqDiff]) | (refine CWp.skip ?_; try simp only [go_sem, Nat.reduceAdd, Nat.reduceLeDiff, Nat.reduceMul, Nat.reduceSub, Nat.reduceEqDiff]) | (refine CWp.reg tt_ok ?_; simp only [go_sem, Nat.reduceAdd, Nat.reduceLeDiff, Nat.reduceMul, Nat.reduceSub, Nat.reduceEqDiff]))
        repeat (with_reducible refine And.intro (by first | exact True.intro | assumption | omega | (intros; omega) | (intro hg; simp only [Bool.and_eq_true, Bool.or_eq_true, decide_eq_true_eq, Bool.not_eq_true', decide_eq_false_iff_not] at hg; omega) | (simp only [decide_eq_true_eq, Bool.and_eq_true, Bool.or_eq_true, Bool.not_eq_true', decide_eq_false_iff_not]; omega) | (intros; simp_all; done) | (intros; simp_all; omega)) ?_)
        have e2 : longStep s at_ best l[i] = best := by unfold longStep; rw [hc2]; rfl
        rw [e2] at hQ
        rw [← hK]
        exact CLoop.junk (t := lp44_0 (.v (.str s)) (.v (.int .i64 (at_ : Int))) (.v (.sl own 1 (strs l))) (.v (.int .i64 (best : Int))) (.v (.int .i64 ((i + 1 : Nat) : Int)))) (ih (i + 1) best (by omega) (by omega) hQ) (by simp [Junked, lp44_0])
    · have hi : i = l.length := by simp at hc; omega
      subst hi
      simp only [List.drop_length, List.foldl_nil] at hQ
      exact CWp.junk (t := lp44_0 (.v (.str s)) (.v (.int .i64 (at_ : Int))) (.v (.sl own 1 (strs l))) (.v (.int .i64 (best : Int))) (.v (.int .i64 (l.length : Int)))) (CWp.exit hQ) (by simp [Junked, lp44_0])

theorem longest_spec (own : Own) (l : List (List UInt8)) (s : List UInt8) (at_ : Nat) (hat : at_ ≤ s.length) (hs : s.length ≤ 1000000000) (hx : ∀ x ∈ l, x.length ≤ 1000000000) (hlen : l.length ≤ 1000000000) : Pure Tryd.prog 44 [.str s, .int .i64 (at_ : Int), .sl own 1 (strs l)] (.int .i64 ((longestM s at_ l : Nat) : Int)) := fun M => by
  refine enter44 _ _ _ ?_
  simp only [cc44]
  repeat (first | refine CWp.seq ?_ | refine CWp.block ?_ | (refine CWp.ret ?_; try simp only [go_sem, Nat.reduceAdd, Nat.reduceLeDiff, Nat.reduceMul, Nat.reduceSub, Nat.reduceEqDiff]) | (refine CWp.skip ?_; try simp only [go_sem, Nat.reduceAdd, Nat.reduceLeDiff, Nat.reduceMul, Nat.reduceSub, Nat.reduceEqDiff]) | (refine CWp.reg tt_ok ?_; simp only [go_sem, Nat.reduceAdd, Nat.reduceLeDiff, Nat.reduceMul, Nat.reduceSub, Nat.reduceEqDiff]))
  refine CWp.loop (CLoop.junk (t := lp44_0 (.v (.str s)) (.v (.int .i64 (at_ : Int))) (.v (.sl own 1 (strs l))) (.v (.int .i64 ((0 : Nat) : Int))) (.v (.int .i64 ((0 : Nat) : Int)))) (long_loop own l s at_ hat hs hx hlen M _ (l.length + 1) 0 0 (by omega) (by omega) ?_) (by simp [Junked, lp44_0]))
  simp only [go_sem, lp44_0]
  repeat (first | refine CWp.seq ?_ | refine CWp.block ?_ | (refine CWp.ret ?_; try simp only [go_sem, Nat.reduceAdd, Nat.reduceLeDiff, Nat.reduceMul, Nat.reduceSub, Nat.reduceEqDiff]) | (refine CWp.skip ?_; try simp only [go_sem, Nat.reduceAdd, Nat.reduceLeDiff, Nat.reduceMul, Nat.reduceSub, Nat.reduceEqDiff]) | (refine CWp.reg tt_ok ?_; simp only [go_sem, Nat.reduceAdd, Nat.reduceLeDiff, Nat.reduceMul, Nat.reduceSub, Nat.reduceEqDiff]))
  exact Fin.ret1 (.inl rfl) Tryd.results44 rfl rfl (Mem.sub.refl _) ⟨rfl, rfl⟩
end Go.Proofs.LxA
set_option linter.unusedVariables false
set_option linter.unusedSimpArgs false
set_option maxRecDepth 100000
namespace Go.Proofs.LxA
open Go Go.Am Go.Proofs
set_option linter.unusedSectionVars false
variable [Inhabited LaidBox]

theorem compEnd_le (s : List UInt8) : ∀ (n at_ : Nat), at_ ≤ s.length → at_ ≤ compEnd s n at_ ∧ compEnd s n at_ ≤ s.length
  | 0, at_, h => ⟨Nat.le_refl _, h⟩
  | n + 1, at_, h => by
    simp only [compEnd]
    split
    · rename_i h1
      have := compEnd_le s n (at_ + 1) (by omega)
      omega
    · omega

def dotB (s : List UInt8) (at_ : Nat) : Bool := decide (at_ + 1 < s.length) && decide (byteI s at_ = 46) && beginsB (byteI s (at_ + 1))
def nameLoop (s : List UInt8) : Nat → Nat → Nat
  | 0, at_ => at_
  | n + 1, at_ => bif dotB s at_ then nameLoop s n (compEnd s (s.length + 1) (at_ + 1)) else at_
def nameEnd (s : List UInt8) (at_ : Nat) : Nat := nameLoop s (s.length + 1) (compEnd s (s.length + 1) at_)

theorem name_loop (s : List UInt8) (hlen : s.length ≤ 1000000000) (M : Mem) (Q : AExit → St → Prop) : ∀ (n at_ : Nat), s.length - at_ < n → at_ ≤ s.length →
    Q (.exit 0) { tmps := lp41_0 (.v (.str s)) (.v (.int .i64 ((nameLoop s n at_ : Nat) : Int))), loc := [], rows := [], defs := [], M := M } →
    CLoop none Tryd.prog tt esc41 cc41_l0 Q { tmps := lp41_0 (.v (.str s)) (.v (.int .i64 (at_ : Int))), loc := [], rows := [], defs := [], M := M } := by
  intro n
  induction n with
  | zero => intro at_ h0 h1 hQ; omega
  | succ n ih =>
    intro at_ h0 h1 hQ
    refine CLoop.unroll ?_
    generalize hK : CLoop none Tryd.prog tt esc41 cc41_l0 Q = K
    simp only [cc41_l0, lp41_0]
    repeat (first | refine CWp.seq ?_ | refine CWp.block ?_ | (refine CWp.ret ?_; try simp only [go_sem, Nat.reduceAdd, Nat.reduceLeDiff, Nat.reduceMul, Nat.reduceSub, Nat.reduceEqDiff]) | (refine CWp.skip ?_; try simp only [go_sem, Nat.reduceAdd, Nat.reduceLeDiff, Nat.reduceMul, Nat.reduceSub, Nat.reduceEqDiff]) | (refine CWp.reg tt_ok ?_; simp only [go_sem, Nat.reduceAdd, Nat.reduceLeDiff, Nat.reduceMul, Nat.reduceSub, Nat.reduceEqDiff]))
    repeat (with_reducible refine And.intro (by first | exact True.intro | assumption | omega | (intros; omega) | (intro hg; simp only [Bool.and_eq_true, Bool.or_eq_true, decide_eq_true_eq, Bool.not_eq_true', decide_eq_false_iff_not] at hg; omega) | (simp only [decide_eq_true_eq, Bool.and_eq_true, Bool.or_eq_true, Bool.not_eq_true', decide_eq_false_iff_not]; omega) | (intros; simp_all; done) | (intros; simp_all; omega)) ?_)
    refine COps.pure has31 rfl rfl (by simp) (fun _ => begins_spec _) (evalC_sound tt_ok _ _ ?_)
    simp only [go_sem, Nat.reduceAdd, Nat.reduceLeDiff, Nat.reduceMul, Nat.reduceSub, Nat.reduceEqDiff]
    repeat (with_reducible refine And.intro (by first | exact True.intro | assumption | omega | (intros; omega) | (intro hg; simp only [Bool.and_eq_true, Bool.or_eq_true, decide_eq_true_eq, Bool.not_eq_true', decide_eq_false_iff_not] at hg; omega) | (simp only [decide_eq_true_eq, Bool.and_eq_true, Bool.or_eq_true, Bool.not_eq_true', decide_eq_false_iff_not]; omega) | (intros; simp_all; done) | (intros; simp_all; omega)) ?_)
    have key : (decide ((at_ : Int) + 1 < (s.length : Int)) && decide ((((s.getD at_ 0).toNat : Nat) : Int) = 46) && beginsB (((s.getD ((at_ : Int) + 1).toNat 0).toNat : Nat) : Int)) = dotB s at_ := by
      have e1 : ((at_ : Int) + 1).toNat = at_ + 1 := by omega
      rw [e1]
      unfold dotB byteI
      congr 2
      exact decide_eq_decide.2 (by omega)
    simp only [key]
    refine CWp.cond rfl ?_ ?_ <;> intro hc
    · have hlt : at_ + 1 < s.length := by
        unfold dotB at hc
        simp only [Bool.and_eq_true, decide_eq_true_eq] at hc
        exact hc.1.1
      repeat (first | refine CWp.seq ?_ | refine CWp.block ?_ | (refine CWp.ret ?_; try simp only [go_sem, Nat.reduceAdd, Nat.reduceLeDiff, Nat.reduceMul, Nat.reduceSub, Nat.reduceEqDiff]) | (refine CWp.skip ?_; try simp only [go_sem, Nat.reduceAdd, Nat.reduceLeDiff, Nat.reduceMul, Nat.reduceSub, Nat.reduceEqDiff]) | (refine CWp.reg tt_ok ?_; simp only [go_sem, Nat.reduceAdd, Nat.reduceLeDiff, Nat.reduceMul, Nat.reduceSub, Nat.reduceEqDiff]))
      repeat (with_reducible refine And.intro (by first | exact True.intro | assumption | omega | (intros; omega) | (intro hg; simp only [Bool.and_eq_true, Bool.or_eq_true, decide_eq_true_eq, Bool.not_eq_true', decide_eq_false_iff_not] at hg; omega) | (simp only [decide_eq_true_eq, Bool.and_eq_true, Bool.or_eq_true, Bool.not_eq_true', decide_eq_false_iff_not]; omega) | (intros; simp_all; done) | (intros; simp_all; omega)) ?_)
      have hcomp := component_spec s (by omega) (at_ + 1) (by omega)
      refine COps.pure has32 rfl rfl (by simp) (fun _ => hcomp) (evalC_sound tt_ok _ _ ?_)
      simp only [go_sem, Nat.reduceAdd, Nat.reduceLeDiff, Nat.reduceMul, Nat.reduceSub, Nat.reduceEqDiff]
      repeat (with_reducible refine And.intro (by first | exact True.intro | assumption | omega | (intros; omega) | (intro hg; simp only [Bool.and_eq_true, Bool.or_eq_true, decide_eq_true_eq, Bool.not_eq_true', decide_eq_false_iff_not] at hg; omega) | (simp only [decide_eq_true_eq, Bool.and_eq_true, Bool.or_eq_true, Bool.not_eq_true', decide_eq_false_iff_not]; omega) | (intros; simp_all; done) | (intros; simp_all; omega)) ?_)
      have hb := compEnd_le s (s.length + 1) (at_ + 1) (by omega)
      simp only [nameLoop, hc, cond_true] at hQ
      rw [← hK]
      exact CLoop.junk (t := lp41_0 (.v (.str s)) (.v (.int .i64 ((compEnd s (s.length + 1) (at_ + 1) : Nat) : Int)))) (ih _ (by omega) (by omega) hQ) (by simp [Junked, lp41_0])
    · simp only [nameLoop, hc, cond_false] at hQ
      exact CWp.junk (t := lp41_0 (.v (.str s)) (.v (.int .i64 (at_ : Int)))) (CWp.exit hQ) (by simp [Junked, lp41_0])

theorem name_spec (s : List UInt8) (hlen : s.length ≤ 1000000000) (at_ : Nat) (hat : at_ ≤ s.length) : Pure Tryd.prog 41 [.str s, .int .i64 (at_ : Int)] (.int .i64 ((nameEnd s at_ : Nat) : Int)) := fun M => by
  refine enter41 _ _ ?_
  simp only [cc41]
  repeat (first | refine CWp.seq ?_ | refine CWp.block ?_ | (refine CWp.ret ?_; try simp only [go_sem, Nat.reduceAdd, Nat.reduceLeDiff, Nat.reduceMul, Nat.reduceSub, Nat.reduceEqDiff]) | (refine CWp.skip ?_; try simp only [go_sem, Nat.reduceAdd, Nat.reduceLeDiff, Nat.reduceMul, Nat.reduceSub, Nat.reduceEqDiff]) | (refine CWp.reg tt_ok ?_; simp only [go_sem, Nat.reduceAdd, Nat.reduceLeDiff, Nat.reduceMul, Nat.reduceSub, Nat.reduceEqDiff]))
  refine COps.pure has32 rfl rfl (by simp) (fun _ => component_spec s (by omega) at_ hat) (evalC_sound tt_ok _ _ ?_)
  simp only [go_sem, Nat.reduceAdd, Nat.reduceLeDiff, Nat.reduceMul, Nat.reduceSub, Nat.reduceEqDiff]
  repeat (first | refine CWp.seq ?_ | refine CWp.block ?_ | (refine CWp.ret ?_; try simp only [go_sem, Nat.reduceAdd, Nat.reduceLeDiff, Nat.reduceMul, Nat.reduceSub, Nat.reduceEqDiff]) | (refine CWp.skip ?_; try simp only [go_sem, Nat.reduceAdd, Nat.reduceLeDiff, Nat.reduceMul, Nat.reduceSub, Nat.reduceEqDiff]) | (refine CWp.reg tt_ok ?_; simp only [go_sem, Nat.reduceAdd, Nat.reduceLeDiff, Nat.reduceMul, Nat.reduceSub, Nat.reduceEqDiff]))
  have hb := compEnd_le s (s.length + 1) at_ hat
  refine CWp.loop (CLoop.junk (t := lp41_0 (.v (.str s)) (.v (.int .i64 ((compEnd s (s.length + 1) at_ : Nat) : Int)))) (name_loop s hlen M _ (s.length + 1) _ (by omega) (by omega) ?_) (by simp [Junked, lp41_0]))
  simp only [go_sem, lp41_0]
  repeat (first | refine CWp.seq ?_ | refine CWp.block ?_ | (refine CWp.ret ?_; try simp only [go_sem, Nat.reduceAdd, Nat.reduceLeDiff, Nat.reduceMul, Nat.reduceSub, Nat.reduceEqDiff]) | (refine CWp.skip ?_; try simp only [go_sem, Nat.reduceAdd, Nat.reduceLeDiff, Nat.reduceMul, Nat.reduceSub, Nat.reduceEqDiff]) | (refine CWp.reg tt_ok ?_; simp only [go_sem, Nat.reduceAdd, Nat.reduceLeDiff, Nat.reduceMul, Nat.reduceSub, Nat.reduceEqDiff]))
  exact Fin.ret1 (.inl rfl) Tryd.results41 rfl rfl (Mem.sub.refl _) ⟨rfl, rfl⟩
end Go.Proofs.LxA
set_option linter.unusedVariables false
set_option linter.unusedSimpArgs false
set_option maxRecDepth 100000
namespace Go.Proofs.LxA
open Go Go.Am Go.Proofs
set_option linter.unusedSectionVars false
variable [Inhabited LaidBox]

def signL : List UInt8 := [33, 35, 36, 37, 38, 42, 43, 45, 47, 58, 60, 61, 62, 63, 64, 92, 94, 124, 126]
def signB (c : Int) : Bool := signL.any fun b => decide ((b.toNat : Int) = c)

theorem sign_loop (c : Int) (M : Mem) (Q : AExit → St → Prop) : ∀ (n i : Nat), signL.length - i < n → i ≤ signL.length →
    ((signL.drop i).any (fun b => decide ((b.toNat : Int) = c)) = true → ∀ t, t[2]? = some (.v (.bool true)) → Q .ret { tmps := t, loc := [], rows := [], defs := [], M := M }) →
    ((signL.drop i).any (fun b => decide ((b.toNat : Int) = c)) = false → Q (.exit 0) { tmps := lp33_0 (.v (.int .u8 c)) (.v (.str signL)) (.v (.int .i64 (signL.length : Int))), loc := [], rows := [], defs := [], M := M }) →
    CLoop none Tryd.prog tt esc33 cc33_l0 Q { tmps := lp33_0 (.v (.int .u8 c)) (.v (.str signL)) (.v (.int .i64 (i : Int))), loc := [], rows := [], defs := [], M := M } := by
  have hl : signL.length = 19 := rfl
  generalize signL = l at *
  intro n
  induction n with
  | zero => intro i h0 h1 hQ1 hQ2; omega
  | succ n ih =>
    intro i h0 h1 hQ1 hQ2
    refine CLoop.unroll ?_
    generalize hK : CLoop none Tryd.prog tt esc33 cc33_l0 Q = K
    simp only [cc33_l0, lp33_0]
    repeat (first | refine CWp.seq ?_ | refine CWp.block ?_ | (refine CWp.ret ?_; try simp only [go_sem, Nat.reduceAdd, Nat.reduceLeDiff, Nat.reduceMul, Nat.reduceSub, Nat.reduceEqDiff]) | (refine CWp.skip ?_; try simp only [go_sem, Nat.reduceAdd, Nat.reduceLeDiff, Nat.reduceMul, Nat.reduceSub, Nat.reduceEqDiff]) | (refine CWp.reg tt_ok ?_; simp only [go_sem, Nat.reduceAdd, Nat.reduceLeDiff, Nat.reduceMul, Nat.reduceSub, Nat.reduceEqDiff]))
    refine CWp.cond rfl ?_ ?_ <;> intro hc
    · have hi : i < l.length := by simpa using hc
      have e0 : l.getD i 0 = l[i] := by simp [List.getD_eq_getElem?_getD, List.getElem?_eq_getElem hi]
      rw [List.drop_eq_getElem_cons hi] at hQ1 hQ2
      simp only [List.any_cons] at hQ1 hQ2
      refine CWp.skip ?_
      simp only [go_sem, Nat.reduceAdd, Nat.reduceLeDiff, Nat.reduceMul, Nat.reduceSub, Nat.reduceEqDiff]
      repeat (first | refine CWp.seq ?_ | refine CWp.block ?_ | (refine CWp.ret ?_; try simp only [go_sem, Nat.reduceAdd, Nat.reduceLeDiff, Nat.reduceMul, Nat.reduceSub, Nat.reduceEqDiff]) | (refine CWp.skip ?_; try simp only [go_sem, Nat.reduceAdd, Nat.reduceLeDiff, Nat.reduceMul, Nat.reduceSub, Nat.reduceEqDiff]) | (refine CWp.reg tt_ok ?_; simp only [go_sem, Nat.reduceAdd, Nat.reduceLeDiff, Nat.reduceMul, Nat.reduceSub, Nat.reduceEqDiff]))
      repeat (with_reducible refine And.intro (by first | exact True.intro | assumption | omega | (intros; omega) | (intro hg; simp only [Bool.and_eq_true, Bool.or_eq_true, decide_eq_true_eq, Bool.not_eq_true', decide_eq_false_iff_not] at hg; omega) | (simp only [decide_eq_true_eq, Bool.and_eq_true, Bool.or_eq_true, Bool.not_eq_true', decide_eq_false_iff_not]; omega) | (intros; simp_all; done) | (intros; simp_all; omega)) ?_)
      rw [e0]
      refine CWp.cond rfl ?_ ?_ <;> intro hc2
      · repeat (first | refine CWp.seq ?_ | refine CWp.block ?_ | (refine CWp.ret ?_; try simp only [go_sem, Nat.reduceAdd, Nat.reduceLeDiff, Nat.reduceMul, Nat.reduceSub, Nat.reduceEqDiff]) | (refine CWp.skip ?_; try simp only [go_sem, Nat.reduceAdd, Nat.reduceLeDiff, Nat.reduceMul, Nat.reduceSub, Nat.reduceEqDiff]) | (refine CWp.reg tt_ok ?_; simp only [go_sem, Nat.reduceAdd, Nat.reduceLeDiff, Nat.reduceMul, Nat.reduceSub, Nat.reduceEqDiff]))
        exact hQ1 (by rw [hc2]; rfl) _ rfl
      · repeat (first | refine CWp.seq ?_ | refine CWp.block ?_ | (refine CWp.ret ?_; try simp only [go_sem, Nat.reduceAdd, Nat.reduceLeDiff, Nat.reduceMul, Nat.reduceSub, Nat.reduceEqDiff]) | (refine CWp.skip ?_; try simp only [go_sem, Nat.reduceAdd, Nat.reduceLeDiff, Nat.reduceMul, Nat.reduceSub, Nat.reduceEqDiff]) | (refine CWp.reg tt_ok ?_; simp only [go_sem, Nat.reduceAdd, Nat.reduceLeDiff, Nat.reduceMul, Nat.reduceSub, Nat.reduceEqDiff]))
        repeat (with_reducible refine And.intro (by first | exact True.intro | assumption | omega | (intros; omega) | (intro hg; simp only [Bool.and_eq_true, Bool.or_eq_true, decide_eq_true_eq, Bool.not_eq_true', decide_eq_false_iff_not] at hg; omega) | (simp only [decide_eq_true_eq, Bool.and_eq_true, Bool.or_eq_true, Bool.not_eq_true', decide_eq_false_iff_not]; omega) | (intros; simp_all; done) | (intros; simp_all; omega)) ?_)
        rw [hc2] at hQ1 hQ2
        simp only [Bool.false_or] at hQ1 hQ2
        rw [← hK]
        exact CLoop.junk (t := lp33_0 (.v (.int .u8 c)) (.v (.str l)) (.v (.int .i64 ((i + 1 : Nat) : Int)))) (ih (i + 1) (by omega) (by omega) hQ1 hQ2) (by simp [Junked, lp33_0])
    · have hi : i = l.length := by simp at hc; omega
      refine CWp.junk (t := lp33_0 (.v (.int .u8 c)) (.v (.str l)) (.v (.int .i64 (l.length : Int)))) (CWp.exit (hQ2 ?_)) (by simp [Junked, lp33_0, hi])
      rw [hi]; simp

theorem sign_spec (c : Int) : Pure Tryd.prog 33 [.int .u8 c] (.bool (signB c)) := fun M => by
  refine enter33 _ ?_
  simp only [cc33]
  repeat (first | refine CWp.seq ?_ | refine CWp.block ?_ | (refine CWp.ret ?_; try simp only [go_sem, Nat.reduceAdd, Nat.reduceLeDiff, Nat.reduceMul, Nat.reduceSub, Nat.reduceEqDiff]) | (refine CWp.skip ?_; try simp only [go_sem, Nat.reduceAdd, Nat.reduceLeDiff, Nat.reduceMul, Nat.reduceSub, Nat.reduceEqDiff]) | (refine CWp.reg tt_ok ?_; simp only [go_sem, Nat.reduceAdd, Nat.reduceLeDiff, Nat.reduceMul, Nat.reduceSub, Nat.reduceEqDiff]))
  refine CWp.loop (CLoop.junk (t := lp33_0 (.v (.int .u8 c)) (.v (.str signL)) (.v (.int .i64 ((0 : Nat) : Int)))) (sign_loop c M _ (signL.length + 1) 0 (by omega) (by omega) ?_ ?_) (by simp [Junked, lp33_0, signL]))
  · intro hm t ht
    simp only [go_sem, Nat.reduceAdd, Nat.reduceLeDiff, Nat.reduceMul, Nat.reduceSub, Nat.reduceEqDiff]
    refine Fin.ret1 (.inl rfl) Tryd.results33 rfl (by rw [ht]; rfl) (Mem.sub.refl _) ⟨?_, rfl⟩
    rw [List.drop_zero] at hm
    unfold signB; rw [hm]
  · intro hm
    simp only [go_sem, lp33_0]
    repeat (first | refine CWp.seq ?_ | refine CWp.block ?_ | (refine CWp.ret ?_; try simp only [go_sem, Nat.reduceAdd, Nat.reduceLeDiff, Nat.reduceMul, Nat.reduceSub, Nat.reduceEqDiff]) | (refine CWp.skip ?_; try simp only [go_sem, Nat.reduceAdd, Nat.reduceLeDiff, Nat.reduceMul, Nat.reduceSub, Nat.reduceEqDiff]) | (refine CWp.reg tt_ok ?_; simp only [go_sem, Nat.reduceAdd, Nat.reduceLeDiff, Nat.reduceMul, Nat.reduceSub, Nat.reduceEqDiff]))
    refine Fin.ret1 (.inl rfl) Tryd.results33 rfl rfl (Mem.sub.refl _) ⟨?_, rfl⟩
    rw [List.drop_zero] at hm
    unfold signB; rw [hm]
end Go.Proofs.LxA
set_option linter.unusedVariables false
set_option linter.unusedSimpArgs false
set_option maxRecDepth 100000
namespace Go.Proofs.LxA
open Go Go.Am Go.Proofs
set_option linter.unusedSectionVars false
variable [Inhabited LaidBox]

def kwL : List (List UInt8) := [[102, 117, 110], [108, 101, 116], [105, 110], [83, 105, 103, 109, 97], [80, 114, 111, 112], [84, 121, 112, 101], [98, 121], [97, 120, 105, 111, 109], [100, 101, 102], [116, 104, 101, 111, 114, 101, 109], [105, 110, 100, 117, 99, 116, 105, 118, 101], [102, 117, 110, 99, 116, 105, 111, 110], [97, 110, 100], [101, 110, 100], [99, 108, 97, 115, 115], [105, 110, 115, 116, 97, 110, 99, 101], [110, 111, 116, 97, 116, 105, 111, 110], [110, 97, 109, 101, 115, 112, 97, 99, 101], [111, 112, 101, 110], [99, 104, 101, 99, 107], [101, 118, 97, 108], [105, 109, 112, 111, 114, 116]]
def fixedL : List (List UInt8) := [[40], [41], [40, 41], [123], [125], [91], [93], [44], [59], [58], [58, 61], [45, 62], [61, 62], [124], [64], [43], [95], [46, 123], [46, 49], [46, 50], [60, 124, 62]]

theorem kw_loop (l : List (List UInt8)) (s : List UInt8) (hlen : l.length ≤ 9223372036854775806) (M : Mem) (Q : AExit → St → Prop) : ∀ (n i : Nat), l.length - i < n → i ≤ l.length →
    (s ∈ l.drop i → ∀ t, t[2]? = some (.v (.bool true)) → Q .ret { tmps := t, loc := [], rows := [], defs := [], M := M }) →
    (s ∉ l.drop i → Q (.exit 0) { tmps := lp16_0 (.v (.str s)) (.v (.sl .full 1 (strs l))) (.v (.int .i64 (l.length : Int))), loc := [], rows := [], defs := [], M := M }) →
    CLoop none Tryd.prog tt esc16 cc16_l0 Q { tmps := lp16_0 (.v (.str s)) (.v (.sl .full 1 (strs l))) (.v (.int .i64 (i : Int))), loc := [], rows := [], defs := [], M := M } := by
  intro n
  induction n with
  | zero => intro i h0 h1 hQ1 hQ2; omega
  | succ n ih =>
    intro i h0 h1 hQ1 hQ2
    refine CLoop.unroll ?_
    generalize hK : CLoop none Tryd.prog tt esc16 cc16_l0 Q = K
    simp only [cc16_l0, lp16_0]
    repeat (first | refine CWp.seq ?_ | refine CWp.block ?_ | (refine CWp.ret ?_; try simp only [go_sem, Nat.reduceAdd, Nat.reduceLeDiff, Nat.reduceMul, Nat.reduceSub, Nat.reduceEqDiff]) | (refine CWp.skip ?_; try simp only [go_sem, Nat.reduceAdd, Nat.reduceLeDiff, Nat.reduceMul, Nat.reduceSub, Nat.reduceEqDiff]) | (refine CWp.reg tt_ok ?_; simp only [go_sem, Nat.reduceAdd, Nat.reduceLeDiff, Nat.reduceMul, Nat.reduceSub, Nat.reduceEqDiff]))
    simp only [strs_len]
    refine CWp.cond rfl ?_ ?_ <;> intro hc
    · have hi : i < l.length := by simpa using hc
      have hx := strs_at l i l[i] (List.getElem?_eq_getElem hi)
      refine CWp.skip ?_
      simp only [go_sem, Nat.reduceAdd, Nat.reduceLeDiff, Nat.reduceMul, Nat.reduceSub, Nat.reduceEqDiff]
      refine CWp.seq ?_
      refine CWp.block ?_
      refine CWp.seq ?_
      refine CWp.reg tt_ok ?_
      simp only [go_sem, hx, strs_len]
      repeat (with_reducible refine And.intro (by first | exact True.intro | assumption | omega | (intros; omega) | (intro hg; simp only [Bool.and_eq_true, Bool.or_eq_true, decide_eq_true_eq, Bool.not_eq_true', decide_eq_false_iff_not] at hg; omega) | (simp only [decide_eq_true_eq, Bool.and_eq_true, Bool.or_eq_true, Bool.not_eq_true', decide_eq_false_iff_not]; omega) | (intros; simp_all; done) | (intros; simp_all; omega)) ?_)
      refine CWp.cond rfl ?_ ?_ <;> intro hc2
      · repeat (first | refine CWp.seq ?_ | refine CWp.block ?_ | (refine CWp.ret ?_; try simp only [go_sem, Nat.reduceAdd, Nat.reduceLeDiff, Nat.reduceMul, Nat.reduceSub, Nat.reduceEqDiff]) | (refine CWp.skip ?_; try simp only [go_sem, Nat.reduceAdd, Nat.reduceLeDiff, Nat.reduceMul, Nat.reduceSub, Nat.reduceEqDiff]) | (refine CWp.reg tt_ok ?_; simp only [go_sem, Nat.reduceAdd, Nat.reduceLeDiff, Nat.reduceMul, Nat.reduceSub, Nat.reduceEqDiff]))
        refine hQ1 ?_ _ rfl
        have e : l[i] = s := by simpa using hc2
        rw [List.drop_eq_getElem_cons hi, e]
        exact List.mem_cons_self
      · repeat (first | refine CWp.seq ?_ | refine CWp.block ?_ | (refine CWp.ret ?_; try simp only [go_sem, Nat.reduceAdd, Nat.reduceLeDiff, Nat.reduceMul, Nat.reduceSub, Nat.reduceEqDiff]) | (refine CWp.skip ?_; try simp only [go_sem, Nat.reduceAdd, Nat.reduceLeDiff, Nat.reduceMul, Nat.reduceSub, Nat.reduceEqDiff]) | (refine CWp.reg tt_ok ?_; simp only [go_sem, Nat.reduceAdd, Nat.reduceLeDiff, Nat.reduceMul, Nat.reduceSub, Nat.reduceEqDiff]))
        repeat (with_reducible refine And.intro (by first | exact True.intro | assumption | omega | (intros; omega) | (intro hg; simp only [Bool.and_eq_true, Bool.or_eq_true, decide_eq_true_eq, Bool.not_eq_true', decide_eq_false_iff_not] at hg; omega) | (simp only [decide_eq_true_eq, Bool.and_eq_true, Bool.or_eq_true, Bool.not_eq_true', decide_eq_false_iff_not]; omega) | (intros; simp_all; done) | (intros; simp_all; omega)) ?_)
        have e : ¬ s = l[i] := by
          intro e
          simp [e] at hc2
        rw [← hK]
        refine CLoop.junk (t := lp16_0 (.v (.str s)) (.v (.sl .full 1 (strs l))) (.v (.int .i64 ((i + 1 : Nat) : Int)))) (ih (i + 1) (by omega) (by omega) ?_ ?_) (by simp [Junked, lp16_0])
        · intro hm
          refine hQ1 ?_
          rw [List.drop_eq_getElem_cons hi]
          exact List.mem_cons_of_mem _ hm
        · intro hm
          refine hQ2 ?_
          rw [List.drop_eq_getElem_cons hi]
          exact fun h => (List.mem_cons.1 h).elim e hm
    · have hi : i = l.length := by simp at hc; omega
      refine CWp.junk (t := lp16_0 (.v (.str s)) (.v (.sl .full 1 (strs l))) (.v (.int .i64 (l.length : Int)))) (CWp.exit (hQ2 ?_)) (by simp [Junked, lp16_0, hi])
      rw [hi]; simp

theorem keyword_spec (s : List UInt8) : Pure Tryd.prog 16 [.str s] (.bool (decide (s ∈ kwL))) := fun M => by
  refine enter16 _ ?_
  simp only [cc16]
  repeat (first | refine CWp.seq ?_ | refine CWp.block ?_ | (refine CWp.ret ?_; try simp only [go_sem, Nat.reduceAdd, Nat.reduceLeDiff, Nat.reduceMul, Nat.reduceSub, Nat.reduceEqDiff]) | (refine CWp.skip ?_; try simp only [go_sem, Nat.reduceAdd, Nat.reduceLeDiff, Nat.reduceMul, Nat.reduceSub, Nat.reduceEqDiff]) | (refine CWp.reg tt_ok ?_; simp only [go_sem, Nat.reduceAdd, Nat.reduceLeDiff, Nat.reduceMul, Nat.reduceSub, Nat.reduceEqDiff]))
  refine CWp.loop (CLoop.junk (t := lp16_0 (.v (.str s)) (.v (.sl .full 1 (strs kwL))) (.v (.int .i64 ((0 : Nat) : Int)))) (kw_loop kwL s (by simp [kwL]) M _ (kwL.length + 1) 0 (by omega) (by omega) ?_ ?_) (by simp [Junked, lp16_0, kwL, strs]))
  · intro hm t ht
    simp only [go_sem, Nat.reduceAdd, Nat.reduceLeDiff, Nat.reduceMul, Nat.reduceSub, Nat.reduceEqDiff]
    refine Fin.ret1 (.inl rfl) Tryd.results16 rfl (by rw [ht]; rfl) (Mem.sub.refl _) ⟨?_, rfl⟩
    rw [List.drop_zero] at hm
    rw [decide_eq_true hm]
  · intro hm
    simp only [go_sem, lp16_0]
    repeat (first | refine CWp.seq ?_ | refine CWp.block ?_ | (refine CWp.ret ?_; try simp only [go_sem, Nat.reduceAdd, Nat.reduceLeDiff, Nat.reduceMul, Nat.reduceSub, Nat.reduceEqDiff]) | (refine CWp.skip ?_; try simp only [go_sem, Nat.reduceAdd, Nat.reduceLeDiff, Nat.reduceMul, Nat.reduceSub, Nat.reduceEqDiff]) | (refine CWp.reg tt_ok ?_; simp only [go_sem, Nat.reduceAdd, Nat.reduceLeDiff, Nat.reduceMul, Nat.reduceSub, Nat.reduceEqDiff]))
    refine Fin.ret1 (.inl rfl) Tryd.results16 rfl rfl (Mem.sub.refl _) ⟨?_, rfl⟩
    rw [List.drop_zero] at hm
    rw [decide_eq_false hm]

theorem fixed_spec : Pure Tryd.prog 34 [] (.sl .full 1 (strs fixedL)) := fun M => by
  refine enter34 ?_
  simp only [cc34]
  repeat (first | refine CWp.seq ?_ | refine CWp.block ?_ | (refine CWp.ret ?_; try simp only [go_sem, Nat.reduceAdd, Nat.reduceLeDiff, Nat.reduceMul, Nat.reduceSub, Nat.reduceEqDiff]) | (refine CWp.skip ?_; try simp only [go_sem, Nat.reduceAdd, Nat.reduceLeDiff, Nat.reduceMul, Nat.reduceSub, Nat.reduceEqDiff]) | (refine CWp.reg tt_ok ?_; simp only [go_sem, Nat.reduceAdd, Nat.reduceLeDiff, Nat.reduceMul, Nat.reduceSub, Nat.reduceEqDiff]))
  exact Fin.ret1 (.inl rfl) Tryd.results34 rfl rfl (Mem.sub.refl _) ⟨rfl, rfl⟩
end Go.Proofs.LxA
set_option linter.unusedVariables false
set_option linter.unusedSimpArgs false
set_option maxRecDepth 100000
namespace Go.Proofs.LxA
open Go Go.Am Go.Proofs
set_option linter.unusedSectionVars false
variable [Inhabited LaidBox]

def spaceB (c : Int) : Bool := decide (c = 32) || decide (c = 9) || decide (c = 13) || decide (c = 10)
def lineB (s : List UInt8) (at_ : Nat) : Bool := decide (at_ < s.length) && !decide (byteI s at_ = 10)
def lineEnd (s : List UInt8) : Nat → Nat → Nat
  | 0, at_ => at_
  | n + 1, at_ => bif lineB s at_ then lineEnd s n (at_ + 1) else at_
def dashB (s : List UInt8) (at_ : Nat) : Bool := decide (at_ + 1 < s.length) && decide (byteI s at_ = 45) && decide (byteI s (at_ + 1) = 45)
def skipM (s : List UInt8) : Nat → Nat → Nat
  | 0, at_ => at_
  | n + 1, at_ => bif decide (at_ < s.length) then (bif spaceB (byteI s at_) then skipM s n (at_ + 1) else bif dashB s at_ then skipM s n (lineEnd s (s.length + 1) at_) else at_) else at_

theorem lineEnd_le (s : List UInt8) : ∀ (n at_ : Nat), at_ ≤ s.length → at_ ≤ lineEnd s n at_ ∧ lineEnd s n at_ ≤ s.length
  | 0, at_, h => ⟨Nat.le_refl _, h⟩
  | n + 1, at_, h => by
    simp only [lineEnd]
    cases hb : lineB s at_ with
    | false => simp only [cond_false]; omega
    | true =>
      simp only [cond_true]
      have h1 : at_ < s.length := by
        unfold lineB at hb
        simp only [Bool.and_eq_true, decide_eq_true_eq] at hb
        exact hb.1
      have := lineEnd_le s n (at_ + 1) (by omega)
      omega
theorem lineEnd_dash (s : List UInt8) (at_ : Nat) (h : dashB s at_ = true) : at_ < lineEnd s (s.length + 1) at_ := by
  unfold dashB at h
  simp only [Bool.and_eq_true, decide_eq_true_eq] at h
  obtain ⟨⟨h1, h2⟩, h3⟩ := h
  have hb : lineB s at_ = true := by
    unfold lineB
    rw [h2]
    simp; omega
  simp only [lineEnd, hb, cond_true]
  have := lineEnd_le s s.length (at_ + 1) (by omega)
  omega

theorem line_loop (s : List UInt8) (hlen : s.length ≤ 1000000000) (M : Mem) (Q : AExit → St → Prop) : ∀ (n at_ : Nat), s.length - at_ < n → at_ ≤ s.length →
    Q (.exit 3) { tmps := lp27_1 (.v (.str s)) (.v (.int .i64 ((lineEnd s n at_ : Nat) : Int))), loc := [], rows := [], defs := [], M := M } →
    CLoop none Tryd.prog tt esc27 cc27_l1 Q { tmps := lp27_1 (.v (.str s)) (.v (.int .i64 (at_ : Int))), loc := [], rows := [], defs := [], M := M } := by
  intro n
  induction n with
  | zero => intro at_ h0 h1 hQ; omega
  | succ n ih =>
    intro at_ h0 h1 hQ
    refine CLoop.unroll ?_
    generalize hK : CLoop none Tryd.prog tt esc27 cc27_l1 Q = K
    simp only [cc27_l1, lp27_1]
    repeat (first | refine CWp.seq ?_ | refine CWp.block ?_ | (refine CWp.ret ?_; try simp only [go_sem, Nat.reduceAdd, Nat.reduceLeDiff, Nat.reduceMul, Nat.reduceSub, Nat.reduceEqDiff]) | (refine CWp.skip ?_; try simp only [go_sem, Nat.reduceAdd, Nat.reduceLeDiff, Nat.reduceMul, Nat.reduceSub, Nat.reduceEqDiff]) | (refine CWp.reg tt_ok ?_; simp only [go_sem, Nat.reduceAdd, Nat.reduceLeDiff, Nat.reduceMul, Nat.reduceSub, Nat.reduceEqDiff]))
    repeat (with_reducible refine And.intro (by first | exact True.intro | assumption | omega | (intros; omega) | (intro hg; simp only [Bool.and_eq_true, Bool.or_eq_true, decide_eq_true_eq, Bool.not_eq_true', decide_eq_false_iff_not] at hg; omega) | (simp only [decide_eq_true_eq, Bool.and_eq_true, Bool.or_eq_true, Bool.not_eq_true', decide_eq_false_iff_not]; omega) | (intros; simp_all; done) | (intros; simp_all; omega)) ?_)
    have key : (decide ((at_ : Int) < (s.length : Int)) && !decide ((((s.getD at_ 0).toNat : Nat) : Int) = 10)) = lineB s at_ := by
      unfold lineB byteI
      congr 1
      exact decide_eq_decide.2 (by omega)
    simp only [key]
    refine CWp.cond rfl ?_ ?_ <;> intro hc
    · have hlt : at_ < s.length := by
        unfold lineB at hc
        simp only [Bool.and_eq_true, decide_eq_true_eq] at hc
        exact hc.1
      repeat (first | refine CWp.seq ?_ | refine CWp.block ?_ | (refine CWp.ret ?_; try simp only [go_sem, Nat.reduceAdd, Nat.reduceLeDiff, Nat.reduceMul, Nat.reduceSub, Nat.reduceEqDiff]) | (refine CWp.skip ?_; try simp only [go_sem, Nat.reduceAdd, Nat.reduceLeDiff, Nat.reduceMul, Nat.reduceSub, Nat.reduceEqDiff]) | (refine CWp.reg tt_ok ?_; simp only [go_sem, Nat.reduceAdd, Nat.reduceLeDiff, Nat.reduceMul, Nat.reduceSub, Nat.reduceEqDiff]))
      repeat (with_reducible refine And.intro (by first | exact True.intro | assumption | omega | (intros; omega) | (intro hg; simp only [Bool.and_eq_true, Bool.or_eq_true, decide_eq_true_eq, Bool.not_eq_true', decide_eq_false_iff_not] at hg; omega) | (simp only [decide_eq_true_eq, Bool.and_eq_true, Bool.or_eq_true, Bool.not_eq_true', decide_eq_false_iff_not]; omega) | (intros; simp_all; done) | (intros; simp_all; omega)) ?_)
      simp only [lineEnd, hc, cond_true] at hQ
      rw [← hK]
      exact CLoop.junk (t := lp27_1 (.v (.str s)) (.v (.int .i64 ((at_ + 1 : Nat) : Int)))) (ih _ (by omega) (by omega) hQ) (by simp [Junked, lp27_1])
    · simp only [lineEnd, hc, cond_false] at hQ
      exact CWp.junk (t := lp27_1 (.v (.str s)) (.v (.int .i64 (at_ : Int)))) (CWp.exit hQ) (by simp [Junked, lp27_1])

theorem skip_loop (s : List UInt8) (hlen : s.length ≤ 1000000000) (M : Mem) (Q : AExit → St → Prop) : ∀ (n at_ : Nat), s.length - at_ < n → at_ ≤ s.length →
    (∀ t, t[4]? = some (.v (.int .i64 ((skipM s n at_ : Nat) : Int))) → Q .ret { tmps := t, loc := [], rows := [], defs := [], M := M }) →
    Q (.exit 0) { tmps := lp27_0 (.v (.str s)) (.v (.int .i64 ((skipM s n at_ : Nat) : Int))), loc := [], rows := [], defs := [], M := M } →
    CLoop none Tryd.prog tt esc27 cc27_l0 Q { tmps := lp27_0 (.v (.str s)) (.v (.int .i64 (at_ : Int))), loc := [], rows := [], defs := [], M := M } := by
  intro n
  induction n with
  | zero => intro at_ h0 h1 hQ1 hQ2; omega
  | succ n ih =>
    intro at_ h0 h1 hQ1 hQ2
    refine CLoop.unroll ?_
    generalize hK : CLoop none Tryd.prog tt esc27 cc27_l0 Q = K
    simp only [cc27_l0, lp27_0]
    repeat (first | refine CWp.seq ?_ | refine CWp.block ?_ | (refine CWp.ret ?_; try simp only [go_sem, Nat.reduceAdd, Nat.reduceLeDiff, Nat.reduceMul, Nat.reduceSub, Nat.reduceEqDiff]) | (refine CWp.skip ?_; try simp only [go_sem, Nat.reduceAdd, Nat.reduceLeDiff, Nat.reduceMul, Nat.reduceSub, Nat.reduceEqDiff]) | (refine CWp.reg tt_ok ?_; simp only [go_sem, Nat.reduceAdd, Nat.reduceLeDiff, Nat.reduceMul, Nat.reduceSub, Nat.reduceEqDiff]))
    refine CWp.cond rfl ?_ ?_ <;> intro hc
    · have hlt : at_ < s.length := by simpa using hc
      simp only [skipM, hlt, decide_true, cond_true] at hQ1 hQ2
      refine CWp.skip ?_
      simp only [go_sem, Nat.reduceAdd, Nat.reduceLeDiff, Nat.reduceMul, Nat.reduceSub, Nat.reduceEqDiff]
      repeat (first | refine CWp.seq ?_ | refine CWp.block ?_ | (refine CWp.ret ?_; try simp only [go_sem, Nat.reduceAdd, Nat.reduceLeDiff, Nat.reduceMul, Nat.reduceSub, Nat.reduceEqDiff]) | (refine CWp.skip ?_; try simp only [go_sem, Nat.reduceAdd, Nat.reduceLeDiff, Nat.reduceMul, Nat.reduceSub, Nat.reduceEqDiff]) | (refine CWp.reg tt_ok ?_; simp only [go_sem, Nat.reduceAdd, Nat.reduceLeDiff, Nat.reduceMul, Nat.reduceSub, Nat.reduceEqDiff]))
      repeat (with_reducible refine And.intro (by first | exact True.intro | assumption | omega | (intros; omega) | (intro hg; simp only [Bool.and_eq_true, Bool.or_eq_true, decide_eq_true_eq, Bool.not_eq_true', decide_eq_false_iff_not] at hg; omega) | (simp only [decide_eq_true_eq, Bool.and_eq_true, Bool.or_eq_true, Bool.not_eq_true', decide_eq_false_iff_not]; omega) | (intros; simp_all; done) | (intros; simp_all; omega)) ?_)
      have key : (decide ((((s.getD at_ 0).toNat : Nat) : Int) = 32) || decide ((((s.getD at_ 0).toNat : Nat) : Int) = 9) || decide ((((s.getD at_ 0).toNat : Nat) : Int) = 13) || decide ((((s.getD at_ 0).toNat : Nat) : Int) = 10)) = spaceB (byteI s at_) := rfl
      simp only [key]
      refine CWp.cond rfl ?_ ?_ <;> intro hc2
      · repeat (first | refine CWp.seq ?_ | refine CWp.block ?_ | (refine CWp.ret ?_; try simp only [go_sem, Nat.reduceAdd, Nat.reduceLeDiff, Nat.reduceMul, Nat.reduceSub, Nat.reduceEqDiff]) | (refine CWp.skip ?_; try simp only [go_sem, Nat.reduceAdd, Nat.reduceLeDiff, Nat.reduceMul, Nat.reduceSub, Nat.reduceEqDiff]) | (refine CWp.reg tt_ok ?_; simp only [go_sem, Nat.reduceAdd, Nat.reduceLeDiff, Nat.reduceMul, Nat.reduceSub, Nat.reduceEqDiff]))
        repeat (with_reducible refine And.intro (by first | exact True.intro | assumption | omega | (intros; omega) | (intro hg; simp only [Bool.and_eq_true, Bool.or_eq_true, decide_eq_true_eq, Bool.not_eq_true', decide_eq_false_iff_not] at hg; omega) | (simp only [decide_eq_true_eq, Bool.and_eq_true, Bool.or_eq_true, Bool.not_eq_true', decide_eq_false_iff_not]; omega) | (intros; simp_all; done) | (intros; simp_all; omega)) ?_)
        simp only [hc2, cond_true] at hQ1 hQ2
        rw [← hK]
        exact CLoop.junk (t := lp27_0 (.v (.str s)) (.v (.int .i64 ((at_ + 1 : Nat) : Int)))) (ih _ (by omega) (by omega) hQ1 hQ2) (by simp [Junked, lp27_0])
      · simp only [hc2, cond_false] at hQ1 hQ2
        repeat (first | refine CWp.seq ?_ | refine CWp.block ?_ | (refine CWp.ret ?_; try simp only [go_sem, Nat.reduceAdd, Nat.reduceLeDiff, Nat.reduceMul, Nat.reduceSub, Nat.reduceEqDiff]) | (refine CWp.skip ?_; try simp only [go_sem, Nat.reduceAdd, Nat.reduceLeDiff, Nat.reduceMul, Nat.reduceSub, Nat.reduceEqDiff]) | (refine CWp.reg tt_ok ?_; simp only [go_sem, Nat.reduceAdd, Nat.reduceLeDiff, Nat.reduceMul, Nat.reduceSub, Nat.reduceEqDiff]))
        repeat (with_reducible refine And.intro (by first | exact True.intro | assumption | omega | (intros; omega) | (intro hg; simp only [Bool.and_eq_true, Bool.or_eq_true, decide_eq_true_eq, Bool.not_eq_true', decide_eq_false_iff_not] at hg; omega) | (simp only [decide_eq_true_eq, Bool.and_eq_true, Bool.or_eq_true, Bool.not_eq_true', decide_eq_false_iff_not]; omega) | (intros; simp_all; done) | (intros; simp_all; omega)) ?_)
        have key2 : (decide ((at_ : Int) + 1 < (s.length : Int)) && decide ((((s.getD at_ 0).toNat : Nat) : Int) = 45) && decide ((((s.getD ((at_ : Int) + 1).toNat 0).toNat : Nat) : Int) = 45)) = dashB s at_ := by
          have e1 : ((at_ : Int) + 1).toNat = at_ + 1 := by omega
          rw [e1]
          unfold dashB byteI
          congr 2
          exact decide_eq_decide.2 (by omega)
        simp only [key2]
        refine CWp.cond rfl ?_ ?_ <;> intro hc3
        · simp only [hc3, cond_true] at hQ1 hQ2
          have hd := lineEnd_dash s at_ hc3
          have hd2 := lineEnd_le s (s.length + 1) at_ h1
          refine CWp.block ?_
          refine CWp.loop (CLoop.junk (t := lp27_1 (.v (.str s)) (.v (.int .i64 (at_ : Int)))) (line_loop s hlen M _ (s.length + 1) at_ (by omega) h1 ?_) (by simp [Junked, lp27_1]))
          simp only [go_sem, Nat.reduceAdd, Nat.reduceLeDiff, Nat.reduceMul, Nat.reduceSub, Nat.reduceEqDiff]
          rw [← hK]
          exact CLoop.junk (t := lp27_0 (.v (.str s)) (.v (.int .i64 ((lineEnd s (s.length + 1) at_ : Nat) : Int)))) (ih _ (by omega) (by omega) hQ1 hQ2) (by simp [Junked, lp27_0, lp27_1])
        · simp only [hc3, cond_false] at hQ1 hQ2
          repeat (first | refine CWp.seq ?_ | refine CWp.block ?_ | (refine CWp.ret ?_; try simp only [go_sem, Nat.reduceAdd, Nat.reduceLeDiff, Nat.reduceMul, Nat.reduceSub, Nat.reduceEqDiff]) | (refine CWp.skip ?_; try simp only [go_sem, Nat.reduceAdd, Nat.reduceLeDiff, Nat.reduceMul, Nat.reduceSub, Nat.reduceEqDiff]) | (refine CWp.reg tt_ok ?_; simp only [go_sem, Nat.reduceAdd, Nat.reduceLeDiff, Nat.reduceMul, Nat.reduceSub, Nat.reduceEqDiff]))
          exact hQ1 _ rfl
    · have hge : ¬ at_ < s.length := by simpa using hc
      simp only [skipM, hge, decide_false, cond_false] at hQ2
      exact CWp.junk (t := lp27_0 (.v (.str s)) (.v (.int .i64 (at_ : Int)))) (CWp.exit hQ2) (by simp [Junked, lp27_0])

theorem skip_spec (s : List UInt8) (hlen : s.length ≤ 1000000000) (at_ : Nat) (hat : at_ ≤ s.length) : Pure Tryd.prog 27 [.str s, .int .i64 (at_ : Int)] (.int .i64 ((skipM s (s.length + 1) at_ : Nat) : Int)) := fun M => by
  refine enter27 _ _ ?_
  simp only [cc27]
  repeat (first | refine CWp.seq ?_ | refine CWp.block ?_ | (refine CWp.ret ?_; try simp only [go_sem, Nat.reduceAdd, Nat.reduceLeDiff, Nat.reduceMul, Nat.reduceSub, Nat.reduceEqDiff]) | (refine CWp.skip ?_; try simp only [go_sem, Nat.reduceAdd, Nat.reduceLeDiff, Nat.reduceMul, Nat.reduceSub, Nat.reduceEqDiff]) | (refine CWp.reg tt_ok ?_; simp only [go_sem, Nat.reduceAdd, Nat.reduceLeDiff, Nat.reduceMul, Nat.reduceSub, Nat.reduceEqDiff]))
  refine CWp.loop (CLoop.junk (t := lp27_0 (.v (.str s)) (.v (.int .i64 (at_ : Int)))) (skip_loop s hlen M _ (s.length + 1) at_ (by omega) hat ?_ ?_) (by simp [Junked, lp27_0]))
  · intro t ht
    simp only [go_sem, Nat.reduceAdd, Nat.reduceLeDiff, Nat.reduceMul, Nat.reduceSub, Nat.reduceEqDiff]
    exact Fin.ret1 (.inl rfl) Tryd.results27 rfl (by rw [ht]; rfl) (Mem.sub.refl _) ⟨rfl, rfl⟩
  · simp only [go_sem, lp27_0]
    repeat (first | refine CWp.seq ?_ | refine CWp.block ?_ | (refine CWp.ret ?_; try simp only [go_sem, Nat.reduceAdd, Nat.reduceLeDiff, Nat.reduceMul, Nat.reduceSub, Nat.reduceEqDiff]) | (refine CWp.skip ?_; try simp only [go_sem, Nat.reduceAdd, Nat.reduceLeDiff, Nat.reduceMul, Nat.reduceSub, Nat.reduceEqDiff]) | (refine CWp.reg tt_ok ?_; simp only [go_sem, Nat.reduceAdd, Nat.reduceLeDiff, Nat.reduceMul, Nat.reduceSub, Nat.reduceEqDiff]))
    exact Fin.ret1 (.inl rfl) Tryd.results27 rfl rfl (Mem.sub.refl _) ⟨rfl, rfl⟩
end Go.Proofs.LxA
set_option linter.unusedVariables false
set_option linter.unusedSimpArgs false
set_option maxRecDepth 100000
namespace Go.Proofs.LxA
open Go Go.Am Go.Proofs
set_option linter.unusedSectionVars false
variable [Inhabited LaidBox]

def digAt (s : List UInt8) (at_ : Nat) : Bool := decide (at_ < s.length) && digitB (byteI s at_)
def digEnd (s : List UInt8) : Nat → Nat → Nat
  | 0, at_ => at_
  | n + 1, at_ => bif digAt s at_ then digEnd s n (at_ + 1) else at_
def quoAt (s : List UInt8) (at_ : Nat) : Bool := decide (at_ < s.length) && !decide (byteI s at_ = 34) && !decide (byteI s at_ = 10)
def quoEnd (s : List UInt8) : Nat → Nat → Nat
  | 0, at_ => at_
  | n + 1, at_ => bif quoAt s at_ then quoEnd s n (at_ + 1) else at_

theorem digEnd_le (s : List UInt8) : ∀ (n at_ : Nat), at_ ≤ s.length → at_ ≤ digEnd s n at_ ∧ digEnd s n at_ ≤ s.length
  | 0, at_, h => ⟨Nat.le_refl _, h⟩
  | n + 1, at_, h => by
    simp only [digEnd]
    cases hb : digAt s at_ with
    | false => simp only [cond_false]; omega
    | true =>
      simp only [cond_true]
      have h1 : at_ < s.length := by
        unfold digAt at hb
        simp only [Bool.and_eq_true, decide_eq_true_eq] at hb
        exact hb.1
      have := digEnd_le s n (at_ + 1) (by omega)
      omega
theorem quoEnd_le (s : List UInt8) : ∀ (n at_ : Nat), at_ ≤ s.length → at_ ≤ quoEnd s n at_ ∧ quoEnd s n at_ ≤ s.length
  | 0, at_, h => ⟨Nat.le_refl _, h⟩
  | n + 1, at_, h => by
    simp only [quoEnd]
    cases hb : quoAt s at_ with
    | false => simp only [cond_false]; omega
    | true =>
      simp only [cond_true]
      have h1 : at_ < s.length := by
        unfold quoAt at hb
        simp only [Bool.and_eq_true, decide_eq_true_eq] at hb
        exact hb.1.1
      have := quoEnd_le s n (at_ + 1) (by omega)
      omega

theorem dig_loop (s : List UInt8) (x1 x9 : TV) (hlen : s.length ≤ 1000000000) (M : Mem) (Q : AExit → St → Prop) : ∀ (n at_ : Nat), s.length - at_ < n → at_ ≤ s.length →
    Q (.exit 2) { tmps := lp28_0 (.v (.str s)) x1 x9 (.v (.int .i64 ((digEnd s n at_ : Nat) : Int))), loc := [], rows := [], defs := [], M := M } →
    CLoop none Tryd.prog tt esc28 cc28_l0 Q { tmps := lp28_0 (.v (.str s)) x1 x9 (.v (.int .i64 (at_ : Int))), loc := [], rows := [], defs := [], M := M } := by
  intro n
  induction n with
  | zero => intro at_ h0 h1 hQ; omega
  | succ n ih =>
    intro at_ h0 h1 hQ
    refine CLoop.unroll ?_
    generalize hK : CLoop none Tryd.prog tt esc28 cc28_l0 Q = K
    simp only [cc28_l0, lp28_0]
    repeat (first | refine CWp.seq ?_ | refine CWp.block ?_ | (refine CWp.ret ?_; try simp only [go_sem, Nat.reduceAdd, Nat.reduceLeDiff, Nat.reduceMul, Nat.reduceSub, Nat.reduceEqDiff]) | (refine CWp.skip ?_; try simp only [go_sem, Nat.reduceAdd, Nat.reduceLeDiff, Nat.reduceMul, Nat.reduceSub, Nat.reduceEqDiff]) | (refine CWp.reg tt_ok ?_; simp only [go_sem, Nat.reduceAdd, Nat.reduceLeDiff, Nat.reduceMul, Nat.reduceSub, Nat.reduceEqDiff]))
    repeat (with_reducible refine And.intro (by first | exact True.intro | assumption | omega | (intros; omega) | (intro hg; simp only [Bool.and_eq_true, Bool.or_eq_true, decide_eq_true_eq, Bool.not_eq_true', decide_eq_false_iff_not] at hg; omega) | (simp only [decide_eq_true_eq, Bool.and_eq_true, Bool.or_eq_true, Bool.not_eq_true', decide_eq_false_iff_not]; omega) | (intros; simp_all; done) | (intros; simp_all; omega)) ?_)
    refine COps.pure has43 rfl rfl (by simp) (fun _ => digit_spec _) (evalC_sound tt_ok _ _ ?_)
    simp only [go_sem, Nat.reduceAdd, Nat.reduceLeDiff, Nat.reduceMul, Nat.reduceSub, Nat.reduceEqDiff]
    repeat (with_reducible refine And.intro (by first | exact True.intro | assumption | omega | (intros; omega) | (intro hg; simp only [Bool.and_eq_true, Bool.or_eq_true, decide_eq_true_eq, Bool.not_eq_true', decide_eq_false_iff_not] at hg; omega) | (simp only [decide_eq_true_eq, Bool.and_eq_true, Bool.or_eq_true, Bool.not_eq_true', decide_eq_false_iff_not]; omega) | (intros; simp_all; done) | (intros; simp_all; omega)) ?_)
    have key : (decide ((at_ : Int) < (s.length : Int)) && digitB (((s.getD at_ 0).toNat : Nat) : Int)) = digAt s at_ := by
      unfold digAt byteI
      congr 1
      exact decide_eq_decide.2 (by omega)
    simp only [key]
    refine CWp.cond rfl ?_ ?_ <;> intro hc
    · have hlt : at_ < s.length := by
        unfold digAt at hc
        simp only [Bool.and_eq_true, decide_eq_true_eq] at hc
        exact hc.1
      repeat (first | refine CWp.seq ?_ | refine CWp.block ?_ | (refine CWp.ret ?_; try simp only [go_sem, Nat.reduceAdd, Nat.reduceLeDiff, Nat.reduceMul, Nat.reduceSub, Nat.reduceEqDiff]) | (refine CWp.skip ?_; try simp only [go_sem, Nat.reduceAdd, Nat.reduceLeDiff, Nat.reduceMul, Nat.reduceSub, Nat.reduceEqDiff]) | (refine CWp.reg tt_ok ?_; simp only [go_sem, Nat.reduceAdd, Nat.reduceLeDiff, Nat.reduceMul, Nat.reduceSub, Nat.reduceEqDiff]))
      repeat (with_reducible refine And.intro (by first | exact True.intro | assumption | omega | (intros; omega) | (intro hg; simp only [Bool.and_eq_true, Bool.or_eq_true, decide_eq_true_eq, Bool.not_eq_true', decide_eq_false_iff_not] at hg; omega) | (simp only [decide_eq_true_eq, Bool.and_eq_true, Bool.or_eq_true, Bool.not_eq_true', decide_eq_false_iff_not]; omega) | (intros; simp_all; done) | (intros; simp_all; omega)) ?_)
      simp only [digEnd, hc, cond_true] at hQ
      rw [← hK]
      exact CLoop.junk (t := lp28_0 (.v (.str s)) x1 x9 (.v (.int .i64 ((at_ + 1 : Nat) : Int)))) (ih _ (by omega) (by omega) hQ) (by simp [Junked, lp28_0])
    · simp only [digEnd, hc, cond_false] at hQ
      exact CWp.junk (t := lp28_0 (.v (.str s)) x1 x9 (.v (.int .i64 (at_ : Int)))) (CWp.exit hQ) (by simp [Junked, lp28_0])

theorem quo_loop (s : List UInt8) (x1 : TV) (hlen : s.length ≤ 1000000000) (M : Mem) (Q : AExit → St → Prop) : ∀ (n at_ : Nat), s.length - at_ < n → at_ ≤ s.length →
    Q (.exit 5) { tmps := lp28_1 (.v (.str s)) x1 (.v (.int .i64 ((quoEnd s n at_ : Nat) : Int))), loc := [], rows := [], defs := [], M := M } →
    CLoop none Tryd.prog tt esc28 cc28_l1 Q { tmps := lp28_1 (.v (.str s)) x1 (.v (.int .i64 (at_ : Int))), loc := [], rows := [], defs := [], M := M } := by
  intro n
  induction n with
  | zero => intro at_ h0 h1 hQ; omega
  | succ n ih =>
    intro at_ h0 h1 hQ
    refine CLoop.unroll ?_
    generalize hK : CLoop none Tryd.prog tt esc28 cc28_l1 Q = K
    simp only [cc28_l1, lp28_1]
    repeat (first | refine CWp.seq ?_ | refine CWp.block ?_ | (refine CWp.ret ?_; try simp only [go_sem, Nat.reduceAdd, Nat.reduceLeDiff, Nat.reduceMul, Nat.reduceSub, Nat.reduceEqDiff]) | (refine CWp.skip ?_; try simp only [go_sem, Nat.reduceAdd, Nat.reduceLeDiff, Nat.reduceMul, Nat.reduceSub, Nat.reduceEqDiff]) | (refine CWp.reg tt_ok ?_; simp only [go_sem, Nat.reduceAdd, Nat.reduceLeDiff, Nat.reduceMul, Nat.reduceSub, Nat.reduceEqDiff]))
    repeat (with_reducible refine And.intro (by first | exact True.intro | assumption | omega | (intros; omega) | (intro hg; simp only [Bool.and_eq_true, Bool.or_eq_true, decide_eq_true_eq, Bool.not_eq_true', decide_eq_false_iff_not] at hg; omega) | (simp only [decide_eq_true_eq, Bool.and_eq_true, Bool.or_eq_true, Bool.not_eq_true', decide_eq_false_iff_not]; omega) | (intros; simp_all; done) | (intros; simp_all; omega)) ?_)
    have key : (decide ((at_ : Int) < (s.length : Int)) && !decide ((((s.getD at_ 0).toNat : Nat) : Int) = 34) && !decide ((((s.getD at_ 0).toNat : Nat) : Int) = 10)) = quoAt s at_ := by
      unfold quoAt byteI
      congr 2
      exact decide_eq_decide.2 (by omega)
    simp only [key]
    refine CWp.cond rfl ?_ ?_ <;> intro hc
    · have hlt : at_ < s.length := by
        unfold quoAt at hc
        simp only [Bool.and_eq_true, decide_eq_true_eq] at hc
        exact hc.1.1
      repeat (first | refine CWp.seq ?_ | refine CWp.block ?_ | (refine CWp.ret ?_; try simp only [go_sem, Nat.reduceAdd, Nat.reduceLeDiff, Nat.reduceMul, Nat.reduceSub, Nat.reduceEqDiff]) | (refine CWp.skip ?_; try simp only [go_sem, Nat.reduceAdd, Nat.reduceLeDiff, Nat.reduceMul, Nat.reduceSub, Nat.reduceEqDiff]) | (refine CWp.reg tt_ok ?_; simp only [go_sem, Nat.reduceAdd, Nat.reduceLeDiff, Nat.reduceMul, Nat.reduceSub, Nat.reduceEqDiff]))
      repeat (with_reducible refine And.intro (by first | exact True.intro | assumption | omega | (intros; omega) | (intro hg; simp only [Bool.and_eq_true, Bool.or_eq_true, decide_eq_true_eq, Bool.not_eq_true', decide_eq_false_iff_not] at hg; omega) | (simp only [decide_eq_true_eq, Bool.and_eq_true, Bool.or_eq_true, Bool.not_eq_true', decide_eq_false_iff_not]; omega) | (intros; simp_all; done) | (intros; simp_all; omega)) ?_)
      simp only [quoEnd, hc, cond_true] at hQ
      rw [← hK]
      exact CLoop.junk (t := lp28_1 (.v (.str s)) x1 (.v (.int .i64 ((at_ + 1 : Nat) : Int)))) (ih _ (by omega) (by omega) hQ) (by simp [Junked, lp28_1])
    · simp only [quoEnd, hc, cond_false] at hQ
      exact CWp.junk (t := lp28_1 (.v (.str s)) x1 (.v (.int .i64 (at_ : Int)))) (CWp.exit hQ) (by simp [Junked, lp28_1])
end Go.Proofs.LxA
set_option linter.unusedVariables false
set_option linter.unusedSimpArgs false
set_option maxRecDepth 100000
namespace Go.Proofs.LxA
open Go Go.Am Go.Proofs
set_option linter.unusedSectionVars false
variable [Inhabited LaidBox]

def slice (s : List UInt8) (a b : Nat) : List UInt8 := (s.take b).drop a
def oneM (s : List UInt8) (at_ : Nat) (sy : List (List UInt8)) : Nat × Nat × Nat :=
  let c := byteI s at_
  bif beginsB c then
    let to := nameEnd s at_
    let text := slice s at_ to
    bif decide (to - at_ > 64) then (0, at_, 5) else
    bif decide (text = [95]) || decide (text ∈ sy) then (2, to, 0) else
    bif decide (text ∈ kwL) then (3, to, 0) else (0, to, 0)
  else bif digitB c then
    let to := digEnd s (s.length + 1) at_
    bif decide (to - at_ > 6) then (0, at_, 5) else
    bif decide (to - at_ > 1) && decide (c = 48) then (0, at_, 4) else
    bif decide (to < s.length) && (beginsB (byteI s to) || decide (byteI s to = 39)) then (0, to, 4) else (1, to, 0)
  else bif decide (c = 34) then
    let to := quoEnd s (s.length + 1) (at_ + 1)
    bif decide (to = s.length) || !decide (byteI s to = 34) then (0, at_, 4) else (2, to + 1, 0)
  else
    let n := longestM s at_ (fixedL ++ sy)
    bif decide (n = 0) then (0, at_, 4) else (2, at_ + n, 0)

def tup3 (x : Nat × Nat × Nat) : AV := .tup [.int .i64 (x.1 : Int), .int .i64 (x.2.1 : Int), .int .i64 (x.2.2 : Int)]

theorem nameLoop_le (s : List UInt8) : ∀ (n at_ : Nat), at_ ≤ s.length → at_ ≤ nameLoop s n at_ ∧ nameLoop s n at_ ≤ s.length
  | 0, at_, h => ⟨Nat.le_refl _, h⟩
  | n + 1, at_, h => by
    simp only [nameLoop]
    cases hb : dotB s at_ with
    | false => simp only [cond_false]; omega
    | true =>
      simp only [cond_true]
      have h1 : at_ + 1 < s.length := by
        unfold dotB at hb
        simp only [Bool.and_eq_true, decide_eq_true_eq] at hb
        exact hb.1.1
      have h2 := compEnd_le s (s.length + 1) (at_ + 1) (by omega)
      have := nameLoop_le s n _ h2.2
      omega
theorem nameEnd_le (s : List UInt8) (at_ : Nat) (h : at_ ≤ s.length) : at_ ≤ nameEnd s at_ ∧ nameEnd s at_ ≤ s.length := by
  have h2 := compEnd_le s (s.length + 1) at_ h
  have := nameLoop_le s (s.length + 1) _ h2.2
  unfold nameEnd
  omega
theorem longestM_le (s : List UInt8) (at_ : Nat) (l : List (List UInt8)) (h : at_ ≤ s.length) : at_ + longestM s at_ l ≤ s.length := by
  have : ∀ (l : List (List UInt8)) (b : Nat), at_ + b ≤ s.length → at_ + l.foldl (longStep s at_) b ≤ s.length := by
    intro l
    induction l with
    | nil => exact fun b hb => hb
    | cons x l ih =>
      intro b hb
      refine ih _ ?_
      unfold longStep
      cases hc : decide (b < x.length) && matchB s at_ x with
      | false => exact hb
      | true =>
        unfold matchB at hc
        simp only [Bool.and_eq_true, decide_eq_true_eq] at hc
        exact hc.2.1
  exact this l 0 (by omega)

theorem one_spec (own : Own) (s : List UInt8) (at_ : Nat) (sy : List (List UInt8)) (hlt : at_ < s.length) (hlen : s.length ≤ 1000000000) (hsy : ∀ x ∈ sy, x.length ≤ 1000000) (hl : sy.length ≤ 1000000) :
    Pure Tryd.prog 28 [.str s, .int .i64 (at_ : Int), .sl own 1 (strs sy)] (tup3 (oneM s at_ sy)) := fun M => by
  refine enter28 _ _ _ ?_
  simp only [cc28]
  repeat (first | refine CWp.seq ?_ | refine CWp.block ?_ | (refine CWp.ret ?_; try simp only [go_sem, Nat.reduceAdd, Nat.reduceLeDiff, Nat.reduceMul, Nat.reduceSub, Nat.reduceEqDiff]) | (refine CWp.skip ?_; try simp only [go_sem, Nat.reduceAdd, Nat.reduceLeDiff, Nat.reduceMul, Nat.reduceSub, Nat.reduceEqDiff]) | (refine CWp.reg tt_ok ?_; simp only [go_sem, Nat.reduceAdd, Nat.reduceLeDiff, Nat.reduceMul, Nat.reduceSub, Nat.reduceEqDiff]))
  repeat (with_reducible refine And.intro (by first | exact True.intro | assumption | omega | (intros; omega) | (intro hg; simp only [Bool.and_eq_true, Bool.or_eq_true, decide_eq_true_eq, Bool.not_eq_true', decide_eq_false_iff_not] at hg; omega) | (simp only [decide_eq_true_eq, Bool.and_eq_true, Bool.or_eq_true, Bool.not_eq_true', decide_eq_false_iff_not]; omega) | (intros; simp_all; done) | (intros; simp_all; omega)) ?_)
  have hb : (((s.getD at_ 0).toNat : Nat) : Int) = byteI s at_ := rfl
  simp only [hb]
  generalize hc : byteI s at_ = c
  repeat (first | refine CWp.seq ?_ | refine CWp.block ?_ | (refine CWp.ret ?_; try simp only [go_sem, Nat.reduceAdd, Nat.reduceLeDiff, Nat.reduceMul, Nat.reduceSub, Nat.reduceEqDiff]) | (refine CWp.skip ?_; try simp only [go_sem, Nat.reduceAdd, Nat.reduceLeDiff, Nat.reduceMul, Nat.reduceSub, Nat.reduceEqDiff]) | (refine CWp.reg tt_ok ?_; simp only [go_sem, Nat.reduceAdd, Nat.reduceLeDiff, Nat.reduceMul, Nat.reduceSub, Nat.reduceEqDiff]))
  refine COps.pure has31 rfl rfl (by simp) (fun _ => begins_spec _) (evalC_sound tt_ok _ _ ?_)
  simp only [go_sem, Nat.reduceAdd, Nat.reduceLeDiff, Nat.reduceMul, Nat.reduceSub, Nat.reduceEqDiff]
  refine CWp.cond rfl ?_ ?_ <;> intro h1
  · have hn := nameEnd_le s at_ (by omega)
    repeat (first | refine CWp.seq ?_ | refine CWp.block ?_ | (refine CWp.ret ?_; try simp only [go_sem, Nat.reduceAdd, Nat.reduceLeDiff, Nat.reduceMul, Nat.reduceSub, Nat.reduceEqDiff]) | (refine CWp.skip ?_; try simp only [go_sem, Nat.reduceAdd, Nat.reduceLeDiff, Nat.reduceMul, Nat.reduceSub, Nat.reduceEqDiff]) | (refine CWp.reg tt_ok ?_; simp only [go_sem, Nat.reduceAdd, Nat.reduceLeDiff, Nat.reduceMul, Nat.reduceSub, Nat.reduceEqDiff]))
    refine COps.pure has41 rfl rfl (by simp) (fun _ => name_spec s hlen at_ (by omega)) (evalC_sound tt_ok _ _ ?_)
    simp only [go_sem, Nat.reduceAdd, Nat.reduceLeDiff, Nat.reduceMul, Nat.reduceSub, Nat.reduceEqDiff]
    repeat (first | refine CWp.seq ?_ | refine CWp.block ?_ | (refine CWp.ret ?_; try simp only [go_sem, Nat.reduceAdd, Nat.reduceLeDiff, Nat.reduceMul, Nat.reduceSub, Nat.reduceEqDiff]) | (refine CWp.skip ?_; try simp only [go_sem, Nat.reduceAdd, Nat.reduceLeDiff, Nat.reduceMul, Nat.reduceSub, Nat.reduceEqDiff]) | (refine CWp.reg tt_ok ?_; simp only [go_sem, Nat.reduceAdd, Nat.reduceLeDiff, Nat.reduceMul, Nat.reduceSub, Nat.reduceEqDiff]))
    repeat (with_reducible refine And.intro (by first | exact True.intro | assumption | omega | (intros; omega) | (intro hg; simp only [Bool.and_eq_true, Bool.or_eq_true, decide_eq_true_eq, Bool.not_eq_true', decide_eq_false_iff_not] at hg; omega) | (simp only [decide_eq_true_eq, Bool.and_eq_true, Bool.or_eq_true, Bool.not_eq_true', decide_eq_false_iff_not]; omega) | (intros; simp_all; done) | (intros; simp_all; omega)) ?_)
    have e0 : List.drop at_ (List.take (nameEnd s at_) s) = slice s at_ (nameEnd s at_) := rfl
    simp only [e0]
    generalize hto : nameEnd s at_ = to_ at *
    generalize htx : slice s at_ to_ = tx at *
    repeat (first | refine CWp.seq ?_ | refine CWp.block ?_ | (refine CWp.ret ?_; try simp only [go_sem, Nat.reduceAdd, Nat.reduceLeDiff, Nat.reduceMul, Nat.reduceSub, Nat.reduceEqDiff]) | (refine CWp.skip ?_; try simp only [go_sem, Nat.reduceAdd, Nat.reduceLeDiff, Nat.reduceMul, Nat.reduceSub, Nat.reduceEqDiff]) | (refine CWp.reg tt_ok ?_; simp only [go_sem, Nat.reduceAdd, Nat.reduceLeDiff, Nat.reduceMul, Nat.reduceSub, Nat.reduceEqDiff]))
    repeat (with_reducible refine And.intro (by first | exact True.intro | assumption | omega | (intros; omega) | (intro hg; simp only [Bool.and_eq_true, Bool.or_eq_true, decide_eq_true_eq, Bool.not_eq_true', decide_eq_false_iff_not] at hg; omega) | (simp only [decide_eq_true_eq, Bool.and_eq_true, Bool.or_eq_true, Bool.not_eq_true', decide_eq_false_iff_not]; omega) | (intros; simp_all; done) | (intros; simp_all; omega)) ?_)
    have k2 : decide ((64 : Int) < (to_ : Int) - (at_ : Int)) = decide (to_ - at_ > 64) := decide_eq_decide.2 (by omega)
    simp only [k2]
    refine CWp.cond rfl ?_ ?_ <;> intro h2
    · repeat (first | refine CWp.seq ?_ | refine CWp.block ?_ | (refine CWp.ret ?_; try simp only [go_sem, Nat.reduceAdd, Nat.reduceLeDiff, Nat.reduceMul, Nat.reduceSub, Nat.reduceEqDiff]) | (refine CWp.skip ?_; try simp only [go_sem, Nat.reduceAdd, Nat.reduceLeDiff, Nat.reduceMul, Nat.reduceSub, Nat.reduceEqDiff]) | (refine CWp.reg tt_ok ?_; simp only [go_sem, Nat.reduceAdd, Nat.reduceLeDiff, Nat.reduceMul, Nat.reduceSub, Nat.reduceEqDiff]))
      have e : oneM s at_ sy = (0, at_, 5) := by simp only [oneM, hc, h1, hto, h2, cond_true]
      exact Fin.ret3 (.inl rfl) Tryd.results28 rfl rfl rfl rfl (Mem.sub.refl _) ⟨by rw [e]; rfl, rfl⟩
    · repeat (first | refine CWp.seq ?_ | refine CWp.block ?_ | (refine CWp.ret ?_; try simp only [go_sem, Nat.reduceAdd, Nat.reduceLeDiff, Nat.reduceMul, Nat.reduceSub, Nat.reduceEqDiff]) | (refine CWp.skip ?_; try simp only [go_sem, Nat.reduceAdd, Nat.reduceLeDiff, Nat.reduceMul, Nat.reduceSub, Nat.reduceEqDiff]) | (refine CWp.reg tt_ok ?_; simp only [go_sem, Nat.reduceAdd, Nat.reduceLeDiff, Nat.reduceMul, Nat.reduceSub, Nat.reduceEqDiff]))
      refine COps.pure has42 rfl rfl (by simp) (fun _ => has_spec own sy tx (by omega)) (evalC_sound tt_ok _ _ ?_)
      simp only [go_sem, Nat.reduceAdd, Nat.reduceLeDiff, Nat.reduceMul, Nat.reduceSub, Nat.reduceEqDiff]
      repeat (with_reducible refine And.intro (by first | exact True.intro | assumption | omega | (intros; omega) | (intro hg; simp only [Bool.and_eq_true, Bool.or_eq_true, decide_eq_true_eq, Bool.not_eq_true', decide_eq_false_iff_not] at hg; omega) | (simp only [decide_eq_true_eq, Bool.and_eq_true, Bool.or_eq_true, Bool.not_eq_true', decide_eq_false_iff_not]; omega) | (intros; simp_all; done) | (intros; simp_all; omega)) ?_)
      refine CWp.cond rfl ?_ ?_ <;> intro h3
      · repeat (first | refine CWp.seq ?_ | refine CWp.block ?_ | (refine CWp.ret ?_; try simp only [go_sem, Nat.reduceAdd, Nat.reduceLeDiff, Nat.reduceMul, Nat.reduceSub, Nat.reduceEqDiff]) | (refine CWp.skip ?_; try simp only [go_sem, Nat.reduceAdd, Nat.reduceLeDiff, Nat.reduceMul, Nat.reduceSub, Nat.reduceEqDiff]) | (refine CWp.reg tt_ok ?_; simp only [go_sem, Nat.reduceAdd, Nat.reduceLeDiff, Nat.reduceMul, Nat.reduceSub, Nat.reduceEqDiff]))
        have e : oneM s at_ sy = (2, to_, 0) := by simp only [oneM, hc, h1, hto, htx, h2, h3, cond_true, cond_false]
        exact Fin.ret3 (.inl rfl) Tryd.results28 rfl rfl rfl rfl (Mem.sub.refl _) ⟨by rw [e]; rfl, rfl⟩
      · repeat (first | refine CWp.seq ?_ | refine CWp.block ?_ | (refine CWp.ret ?_; try simp only [go_sem, Nat.reduceAdd, Nat.reduceLeDiff, Nat.reduceMul, Nat.reduceSub, Nat.reduceEqDiff]) | (refine CWp.skip ?_; try simp only [go_sem, Nat.reduceAdd, Nat.reduceLeDiff, Nat.reduceMul, Nat.reduceSub, Nat.reduceEqDiff]) | (refine CWp.reg tt_ok ?_; simp only [go_sem, Nat.reduceAdd, Nat.reduceLeDiff, Nat.reduceMul, Nat.reduceSub, Nat.reduceEqDiff]))
        refine COps.pure has16 rfl rfl (by simp) (fun _ => keyword_spec tx) (evalC_sound tt_ok _ _ ?_)
        simp only [go_sem, Nat.reduceAdd, Nat.reduceLeDiff, Nat.reduceMul, Nat.reduceSub, Nat.reduceEqDiff]
        refine CWp.cond rfl ?_ ?_ <;> intro h4
        · repeat (first | refine CWp.seq ?_ | refine CWp.block ?_ | (refine CWp.ret ?_; try simp only [go_sem, Nat.reduceAdd, Nat.reduceLeDiff, Nat.reduceMul, Nat.reduceSub, Nat.reduceEqDiff]) | (refine CWp.skip ?_; try simp only [go_sem, Nat.reduceAdd, Nat.reduceLeDiff, Nat.reduceMul, Nat.reduceSub, Nat.reduceEqDiff]) | (refine CWp.reg tt_ok ?_; simp only [go_sem, Nat.reduceAdd, Nat.reduceLeDiff, Nat.reduceMul, Nat.reduceSub, Nat.reduceEqDiff]))
          have e : oneM s at_ sy = (3, to_, 0) := by simp only [oneM, hc, h1, hto, htx, h2, h3, h4, cond_true, cond_false]
          exact Fin.ret3 (.inl rfl) Tryd.results28 rfl rfl rfl rfl (Mem.sub.refl _) ⟨by rw [e]; rfl, rfl⟩
        · repeat (first | refine CWp.seq ?_ | refine CWp.block ?_ | (refine CWp.ret ?_; try simp only [go_sem, Nat.reduceAdd, Nat.reduceLeDiff, Nat.reduceMul, Nat.reduceSub, Nat.reduceEqDiff]) | (refine CWp.skip ?_; try simp only [go_sem, Nat.reduceAdd, Nat.reduceLeDiff, Nat.reduceMul, Nat.reduceSub, Nat.reduceEqDiff]) | (refine CWp.reg tt_ok ?_; simp only [go_sem, Nat.reduceAdd, Nat.reduceLeDiff, Nat.reduceMul, Nat.reduceSub, Nat.reduceEqDiff]))
          have e : oneM s at_ sy = (0, to_, 0) := by simp only [oneM, hc, h1, hto, htx, h2, h3, h4, cond_true, cond_false]
          exact Fin.ret3 (.inl rfl) Tryd.results28 rfl rfl rfl rfl (Mem.sub.refl _) ⟨by rw [e]; rfl, rfl⟩
  · repeat (first | refine CWp.seq ?_ | refine CWp.block ?_ | (refine CWp.ret ?_; try simp only [go_sem, Nat.reduceAdd, Nat.reduceLeDiff, Nat.reduceMul, Nat.reduceSub, Nat.reduceEqDiff]) | (refine CWp.skip ?_; try simp only [go_sem, Nat.reduceAdd, Nat.reduceLeDiff, Nat.reduceMul, Nat.reduceSub, Nat.reduceEqDiff]) | (refine CWp.reg tt_ok ?_; simp only [go_sem, Nat.reduceAdd, Nat.reduceLeDiff, Nat.reduceMul, Nat.reduceSub, Nat.reduceEqDiff]))
    refine COps.pure has43 rfl rfl (by simp) (fun _ => digit_spec _) (evalC_sound tt_ok _ _ ?_)
    simp only [go_sem, Nat.reduceAdd, Nat.reduceLeDiff, Nat.reduceMul, Nat.reduceSub, Nat.reduceEqDiff]
    refine CWp.cond rfl ?_ ?_ <;> intro h2
    · repeat (first | refine CWp.seq ?_ | refine CWp.block ?_ | (refine CWp.ret ?_; try simp only [go_sem, Nat.reduceAdd, Nat.reduceLeDiff, Nat.reduceMul, Nat.reduceSub, Nat.reduceEqDiff]) | (refine CWp.skip ?_; try simp only [go_sem, Nat.reduceAdd, Nat.reduceLeDiff, Nat.reduceMul, Nat.reduceSub, Nat.reduceEqDiff]) | (refine CWp.reg tt_ok ?_; simp only [go_sem, Nat.reduceAdd, Nat.reduceLeDiff, Nat.reduceMul, Nat.reduceSub, Nat.reduceEqDiff]))
      have hn := digEnd_le s (s.length + 1) at_ (by omega)
      refine CWp.loop (CLoop.junk (t := lp28_0 (.v (.str s)) (.v (.int .i64 (at_ : Int))) (.v (.int .u8 c)) (.v (.int .i64 (at_ : Int)))) (dig_loop s _ _ hlen M _ (s.length + 1) at_ (by omega) (by omega) ?_) (by simp [Junked, lp28_0]))
      generalize hto : digEnd s (s.length + 1) at_ = to_ at *
      simp only [go_sem, lp28_0]
      repeat (first | refine CWp.seq ?_ | refine CWp.block ?_ | (refine CWp.ret ?_; try simp only [go_sem, Nat.reduceAdd, Nat.reduceLeDiff, Nat.reduceMul, Nat.reduceSub, Nat.reduceEqDiff]) | (refine CWp.skip ?_; try simp only [go_sem, Nat.reduceAdd, Nat.reduceLeDiff, Nat.reduceMul, Nat.reduceSub, Nat.reduceEqDiff]) | (refine CWp.reg tt_ok ?_; simp only [go_sem, Nat.reduceAdd, Nat.reduceLeDiff, Nat.reduceMul, Nat.reduceSub, Nat.reduceEqDiff]))
      repeat (with_reducible refine And.intro (by first | exact True.intro | assumption | omega | (intros; omega) | (intro hg; simp only [Bool.and_eq_true, Bool.or_eq_true, decide_eq_true_eq, Bool.not_eq_true', decide_eq_false_iff_not] at hg; omega) | (simp only [decide_eq_true_eq, Bool.and_eq_true, Bool.or_eq_true, Bool.not_eq_true', decide_eq_false_iff_not]; omega) | (intros; simp_all; done) | (intros; simp_all; omega)) ?_)
      have k3 : decide ((6 : Int) < (to_ : Int) - (at_ : Int)) = decide (to_ - at_ > 6) := decide_eq_decide.2 (by omega)
      simp only [k3]
      refine CWp.cond rfl ?_ ?_ <;> intro h3
      · repeat (first | refine CWp.seq ?_ | refine CWp.block ?_ | (refine CWp.ret ?_; try simp only [go_sem, Nat.reduceAdd, Nat.reduceLeDiff, Nat.reduceMul, Nat.reduceSub, Nat.reduceEqDiff]) | (refine CWp.skip ?_; try simp only [go_sem, Nat.reduceAdd, Nat.reduceLeDiff, Nat.reduceMul, Nat.reduceSub, Nat.reduceEqDiff]) | (refine CWp.reg tt_ok ?_; simp only [go_sem, Nat.reduceAdd, Nat.reduceLeDiff, Nat.reduceMul, Nat.reduceSub, Nat.reduceEqDiff]))
        have e : oneM s at_ sy = (0, at_, 5) := by simp only [oneM, hc, h1, h2, hto, h3, cond_true, cond_false]
        exact Fin.ret3 (.inl rfl) Tryd.results28 rfl rfl rfl rfl (Mem.sub.refl _) ⟨by rw [e]; rfl, rfl⟩
      · repeat (first | refine CWp.seq ?_ | refine CWp.block ?_ | (refine CWp.ret ?_; try simp only [go_sem, Nat.reduceAdd, Nat.reduceLeDiff, Nat.reduceMul, Nat.reduceSub, Nat.reduceEqDiff]) | (refine CWp.skip ?_; try simp only [go_sem, Nat.reduceAdd, Nat.reduceLeDiff, Nat.reduceMul, Nat.reduceSub, Nat.reduceEqDiff]) | (refine CWp.reg tt_ok ?_; simp only [go_sem, Nat.reduceAdd, Nat.reduceLeDiff, Nat.reduceMul, Nat.reduceSub, Nat.reduceEqDiff]))
        repeat (with_reducible refine And.intro (by first | exact True.intro | assumption | omega | (intros; omega) | (intro hg; simp only [Bool.and_eq_true, Bool.or_eq_true, decide_eq_true_eq, Bool.not_eq_true', decide_eq_false_iff_not] at hg; omega) | (simp only [decide_eq_true_eq, Bool.and_eq_true, Bool.or_eq_true, Bool.not_eq_true', decide_eq_false_iff_not]; omega) | (intros; simp_all; done) | (intros; simp_all; omega)) ?_)
        have k4 : (decide ((1 : Int) < (to_ : Int) - (at_ : Int)) && decide (c = 48)) = (decide (to_ - at_ > 1) && decide (c = 48)) := by
          congr 1
          exact decide_eq_decide.2 (by omega)
        simp only [k4]
        refine CWp.cond rfl ?_ ?_ <;> intro h4
        · repeat (first | refine CWp.seq ?_ | refine CWp.block ?_ | (refine CWp.ret ?_; try simp only [go_sem, Nat.reduceAdd, Nat.reduceLeDiff, Nat.reduceMul, Nat.reduceSub, Nat.reduceEqDiff]) | (refine CWp.skip ?_; try simp only [go_sem, Nat.reduceAdd, Nat.reduceLeDiff, Nat.reduceMul, Nat.reduceSub, Nat.reduceEqDiff]) | (refine CWp.reg tt_ok ?_; simp only [go_sem, Nat.reduceAdd, Nat.reduceLeDiff, Nat.reduceMul, Nat.reduceSub, Nat.reduceEqDiff]))
          have e : oneM s at_ sy = (0, at_, 4) := by simp only [oneM, hc, h1, h2, hto, h3, h4, cond_true, cond_false]
          exact Fin.ret3 (.inl rfl) Tryd.results28 rfl rfl rfl rfl (Mem.sub.refl _) ⟨by rw [e]; rfl, rfl⟩
        · repeat (first | refine CWp.seq ?_ | refine CWp.block ?_ | (refine CWp.ret ?_; try simp only [go_sem, Nat.reduceAdd, Nat.reduceLeDiff, Nat.reduceMul, Nat.reduceSub, Nat.reduceEqDiff]) | (refine CWp.skip ?_; try simp only [go_sem, Nat.reduceAdd, Nat.reduceLeDiff, Nat.reduceMul, Nat.reduceSub, Nat.reduceEqDiff]) | (refine CWp.reg tt_ok ?_; simp only [go_sem, Nat.reduceAdd, Nat.reduceLeDiff, Nat.reduceMul, Nat.reduceSub, Nat.reduceEqDiff]))
          repeat (with_reducible refine And.intro (by first | exact True.intro | assumption | omega | (intros; omega) | (intro hg; simp only [Bool.and_eq_true, Bool.or_eq_true, decide_eq_true_eq, Bool.not_eq_true', decide_eq_false_iff_not] at hg; omega) | (simp only [decide_eq_true_eq, Bool.and_eq_true, Bool.or_eq_true, Bool.not_eq_true', decide_eq_false_iff_not]; omega) | (intros; simp_all; done) | (intros; simp_all; omega)) ?_)
          refine COps.pure has31 rfl rfl (by simp) (fun _ => begins_spec _) (evalC_sound tt_ok _ _ ?_)
          simp only [go_sem, Nat.reduceAdd, Nat.reduceLeDiff, Nat.reduceMul, Nat.reduceSub, Nat.reduceEqDiff]
          repeat (with_reducible refine And.intro (by first | exact True.intro | assumption | omega | (intros; omega) | (intro hg; simp only [Bool.and_eq_true, Bool.or_eq_true, decide_eq_true_eq, Bool.not_eq_true', decide_eq_false_iff_not] at hg; omega) | (simp only [decide_eq_true_eq, Bool.and_eq_true, Bool.or_eq_true, Bool.not_eq_true', decide_eq_false_iff_not]; omega) | (intros; simp_all; done) | (intros; simp_all; omega)) ?_)
          have k5 : (decide ((to_ : Int) < (s.length : Int)) && (beginsB (((s.getD to_ 0).toNat : Nat) : Int) || decide ((((s.getD to_ 0).toNat : Nat) : Int) = 39))) = (decide (to_ < s.length) && (beginsB (byteI s to_) || decide (byteI s to_ = 39))) := by
            unfold byteI
            congr 1
            exact decide_eq_decide.2 (by omega)
          simp only [k5]
          refine CWp.cond rfl ?_ ?_ <;> intro h5
          · repeat (first | refine CWp.seq ?_ | refine CWp.block ?_ | (refine CWp.ret ?_; try simp only [go_sem, Nat.reduceAdd, Nat.reduceLeDiff, Nat.reduceMul, Nat.reduceSub, Nat.reduceEqDiff]) | (refine CWp.skip ?_; try simp only [go_sem, Nat.reduceAdd, Nat.reduceLeDiff, Nat.reduceMul, Nat.reduceSub, Nat.reduceEqDiff]) | (refine CWp.reg tt_ok ?_; simp only [go_sem, Nat.reduceAdd, Nat.reduceLeDiff, Nat.reduceMul, Nat.reduceSub, Nat.reduceEqDiff]))
            have e : oneM s at_ sy = (0, to_, 4) := by simp only [oneM, hc, h1, h2, hto, h3, h4, h5, cond_true, cond_false]
            exact Fin.ret3 (.inl rfl) Tryd.results28 rfl rfl rfl rfl (Mem.sub.refl _) ⟨by rw [e]; rfl, rfl⟩
          · repeat (first | refine CWp.seq ?_ | refine CWp.block ?_ | (refine CWp.ret ?_; try simp only [go_sem, Nat.reduceAdd, Nat.reduceLeDiff, Nat.reduceMul, Nat.reduceSub, Nat.reduceEqDiff]) | (refine CWp.skip ?_; try simp only [go_sem, Nat.reduceAdd, Nat.reduceLeDiff, Nat.reduceMul, Nat.reduceSub, Nat.reduceEqDiff]) | (refine CWp.reg tt_ok ?_; simp only [go_sem, Nat.reduceAdd, Nat.reduceLeDiff, Nat.reduceMul, Nat.reduceSub, Nat.reduceEqDiff]))
            have e : oneM s at_ sy = (1, to_, 0) := by simp only [oneM, hc, h1, h2, hto, h3, h4, h5, cond_true, cond_false]
            exact Fin.ret3 (.inl rfl) Tryd.results28 rfl rfl rfl rfl (Mem.sub.refl _) ⟨by rw [e]; rfl, rfl⟩
    · repeat (first | refine CWp.seq ?_ | refine CWp.block ?_ | (refine CWp.ret ?_; try simp only [go_sem, Nat.reduceAdd, Nat.reduceLeDiff, Nat.reduceMul, Nat.reduceSub, Nat.reduceEqDiff]) | (refine CWp.skip ?_; try simp only [go_sem, Nat.reduceAdd, Nat.reduceLeDiff, Nat.reduceMul, Nat.reduceSub, Nat.reduceEqDiff]) | (refine CWp.reg tt_ok ?_; simp only [go_sem, Nat.reduceAdd, Nat.reduceLeDiff, Nat.reduceMul, Nat.reduceSub, Nat.reduceEqDiff]))
      refine CWp.cond rfl ?_ ?_ <;> intro h3
      · repeat (first | refine CWp.seq ?_ | refine CWp.block ?_ | (refine CWp.ret ?_; try simp only [go_sem, Nat.reduceAdd, Nat.reduceLeDiff, Nat.reduceMul, Nat.reduceSub, Nat.reduceEqDiff]) | (refine CWp.skip ?_; try simp only [go_sem, Nat.reduceAdd, Nat.reduceLeDiff, Nat.reduceMul, Nat.reduceSub, Nat.reduceEqDiff]) | (refine CWp.reg tt_ok ?_; simp only [go_sem, Nat.reduceAdd, Nat.reduceLeDiff, Nat.reduceMul, Nat.reduceSub, Nat.reduceEqDiff]))
        repeat (with_reducible refine And.intro (by first | exact True.intro | assumption | omega | (intros; omega) | (intro hg; simp only [Bool.and_eq_true, Bool.or_eq_true, decide_eq_true_eq, Bool.not_eq_true', decide_eq_false_iff_not] at hg; omega) | (simp only [decide_eq_true_eq, Bool.and_eq_true, Bool.or_eq_true, Bool.not_eq_true', decide_eq_false_iff_not]; omega) | (intros; simp_all; done) | (intros; simp_all; omega)) ?_)
        repeat (first | refine CWp.seq ?_ | refine CWp.block ?_ | (refine CWp.ret ?_; try simp only [go_sem, Nat.reduceAdd, Nat.reduceLeDiff, Nat.reduceMul, Nat.reduceSub, Nat.reduceEqDiff]) | (refine CWp.skip ?_; try simp only [go_sem, Nat.reduceAdd, Nat.reduceLeDiff, Nat.reduceMul, Nat.reduceSub, Nat.reduceEqDiff]) | (refine CWp.reg tt_ok ?_; simp only [go_sem, Nat.reduceAdd, Nat.reduceLeDiff, Nat.reduceMul, Nat.reduceSub, Nat.reduceEqDiff]))
        have hn := quoEnd_le s (s.length + 1) (at_ + 1) (by omega)
        refine CWp.loop (CLoop.junk (t := lp28_1 (.v (.str s)) (.v (.int .i64 (at_ : Int))) (.v (.int .i64 ((at_ + 1 : Nat) : Int)))) (quo_loop s _ hlen M _ (s.length + 1) (at_ + 1) (by omega) (by omega) ?_) (by simp [Junked, lp28_1]))
        generalize hto : quoEnd s (s.length + 1) (at_ + 1) = to_ at *
        simp only [go_sem, lp28_1]
        repeat (first | refine CWp.seq ?_ | refine CWp.block ?_ | (refine CWp.ret ?_; try simp only [go_sem, Nat.reduceAdd, Nat.reduceLeDiff, Nat.reduceMul, Nat.reduceSub, Nat.reduceEqDiff]) | (refine CWp.skip ?_; try simp only [go_sem, Nat.reduceAdd, Nat.reduceLeDiff, Nat.reduceMul, Nat.reduceSub, Nat.reduceEqDiff]) | (refine CWp.reg tt_ok ?_; simp only [go_sem, Nat.reduceAdd, Nat.reduceLeDiff, Nat.reduceMul, Nat.reduceSub, Nat.reduceEqDiff]))
        repeat (with_reducible refine And.intro (by first | exact True.intro | assumption | omega | (intros; omega) | (intro hg; simp only [Bool.and_eq_true, Bool.or_eq_true, decide_eq_true_eq, Bool.not_eq_true', decide_eq_false_iff_not] at hg; omega) | (simp only [decide_eq_true_eq, Bool.and_eq_true, Bool.or_eq_true, Bool.not_eq_true', decide_eq_false_iff_not]; omega) | (intros; simp_all; done) | (intros; simp_all; omega)) ?_)
        have k4 : (decide ((to_ : Int) = (s.length : Int)) || !decide ((((s.getD to_ 0).toNat : Nat) : Int) = 34)) = (decide (to_ = s.length) || !decide (byteI s to_ = 34)) := by
          unfold byteI
          congr 1
          exact decide_eq_decide.2 (by omega)
        simp only [k4]
        refine CWp.cond rfl ?_ ?_ <;> intro h4
        · repeat (first | refine CWp.seq ?_ | refine CWp.block ?_ | (refine CWp.ret ?_; try simp only [go_sem, Nat.reduceAdd, Nat.reduceLeDiff, Nat.reduceMul, Nat.reduceSub, Nat.reduceEqDiff]) | (refine CWp.skip ?_; try simp only [go_sem, Nat.reduceAdd, Nat.reduceLeDiff, Nat.reduceMul, Nat.reduceSub, Nat.reduceEqDiff]) | (refine CWp.reg tt_ok ?_; simp only [go_sem, Nat.reduceAdd, Nat.reduceLeDiff, Nat.reduceMul, Nat.reduceSub, Nat.reduceEqDiff]))
          have e : oneM s at_ sy = (0, at_, 4) := by simp only [oneM, hc, h1, h2, h3, hto, h4, cond_true, cond_false]
          exact Fin.ret3 (.inl rfl) Tryd.results28 rfl rfl rfl rfl (Mem.sub.refl _) ⟨by rw [e]; rfl, rfl⟩
        · repeat (first | refine CWp.seq ?_ | refine CWp.block ?_ | (refine CWp.ret ?_; try simp only [go_sem, Nat.reduceAdd, Nat.reduceLeDiff, Nat.reduceMul, Nat.reduceSub, Nat.reduceEqDiff]) | (refine CWp.skip ?_; try simp only [go_sem, Nat.reduceAdd, Nat.reduceLeDiff, Nat.reduceMul, Nat.reduceSub, Nat.reduceEqDiff]) | (refine CWp.reg tt_ok ?_; simp only [go_sem, Nat.reduceAdd, Nat.reduceLeDiff, Nat.reduceMul, Nat.reduceSub, Nat.reduceEqDiff]))
          repeat (with_reducible refine And.intro (by first | exact True.intro | assumption | omega | (intros; omega) | (intro hg; simp only [Bool.and_eq_true, Bool.or_eq_true, decide_eq_true_eq, Bool.not_eq_true', decide_eq_false_iff_not] at hg; omega) | (simp only [decide_eq_true_eq, Bool.and_eq_true, Bool.or_eq_true, Bool.not_eq_true', decide_eq_false_iff_not]; omega) | (intros; simp_all; done) | (intros; simp_all; omega)) ?_)
          repeat (first | refine CWp.seq ?_ | refine CWp.block ?_ | (refine CWp.ret ?_; try simp only [go_sem, Nat.reduceAdd, Nat.reduceLeDiff, Nat.reduceMul, Nat.reduceSub, Nat.reduceEqDiff]) | (refine CWp.skip ?_; try simp only [go_sem, Nat.reduceAdd, Nat.reduceLeDiff, Nat.reduceMul, Nat.reduceSub, Nat.reduceEqDiff]) | (refine CWp.reg tt_ok ?_; simp only [go_sem, Nat.reduceAdd, Nat.reduceLeDiff, Nat.reduceMul, Nat.reduceSub, Nat.reduceEqDiff]))
          have e : oneM s at_ sy = (2, to_ + 1, 0) := by simp only [oneM, hc, h1, h2, h3, hto, h4, cond_true, cond_false]
          exact Fin.ret3 (.inl rfl) Tryd.results28 rfl rfl rfl rfl (Mem.sub.refl _) ⟨by rw [e]; rfl, rfl⟩
      · repeat (first | refine CWp.seq ?_ | refine CWp.block ?_ | (refine CWp.ret ?_; try simp only [go_sem, Nat.reduceAdd, Nat.reduceLeDiff, Nat.reduceMul, Nat.reduceSub, Nat.reduceEqDiff]) | (refine CWp.skip ?_; try simp only [go_sem, Nat.reduceAdd, Nat.reduceLeDiff, Nat.reduceMul, Nat.reduceSub, Nat.reduceEqDiff]) | (refine CWp.reg tt_ok ?_; simp only [go_sem, Nat.reduceAdd, Nat.reduceLeDiff, Nat.reduceMul, Nat.reduceSub, Nat.reduceEqDiff]))
        refine COps.pure has34 rfl rfl (by simp) (fun _ => fixed_spec) (evalC_sound tt_ok _ _ ?_)
        simp only [go_sem, Nat.reduceAdd, Nat.reduceLeDiff, Nat.reduceMul, Nat.reduceSub, Nat.reduceEqDiff]
        simp only [strs_len, show fixedL.length = 21 from rfl]
        repeat (with_reducible refine And.intro (by first | exact True.intro | assumption | omega | (intros; omega) | (intro hg; simp only [Bool.and_eq_true, Bool.or_eq_true, decide_eq_true_eq, Bool.not_eq_true', decide_eq_false_iff_not] at hg; omega) | (simp only [decide_eq_true_eq, Bool.and_eq_true, Bool.or_eq_true, Bool.not_eq_true', decide_eq_false_iff_not]; omega) | (intros; simp_all; done) | (intros; simp_all; omega)) ?_)
        have eapp : strs fixedL ++ strs sy = strs (fixedL ++ sy) := by simp [strs]
        rw [eapp]
        have hn := longestM_le s at_ (fixedL ++ sy) (by omega)
        have hfx : ∀ x ∈ fixedL, x.length ≤ 1000000000 := by decide
        refine COps.pure has44 rfl rfl (by simp) (fun _ => longest_spec .no (fixedL ++ sy) s at_ (by omega) hlen (fun x hx => ?_) (by simp [show fixedL.length = 21 from rfl]; omega)) (evalC_sound tt_ok _ _ ?_)
        · rcases List.mem_append.1 hx with h | h
          · exact hfx x h
          · have := hsy x h; omega
        simp only [go_sem, Nat.reduceAdd, Nat.reduceLeDiff, Nat.reduceMul, Nat.reduceSub, Nat.reduceEqDiff]
        generalize hto : longestM s at_ (fixedL ++ sy) = n at *
        repeat (first | refine CWp.seq ?_ | refine CWp.block ?_ | (refine CWp.ret ?_; try simp only [go_sem, Nat.reduceAdd, Nat.reduceLeDiff, Nat.reduceMul, Nat.reduceSub, Nat.reduceEqDiff]) | (refine CWp.skip ?_; try simp only [go_sem, Nat.reduceAdd, Nat.reduceLeDiff, Nat.reduceMul, Nat.reduceSub, Nat.reduceEqDiff]) | (refine CWp.reg tt_ok ?_; simp only [go_sem, Nat.reduceAdd, Nat.reduceLeDiff, Nat.reduceMul, Nat.reduceSub, Nat.reduceEqDiff]))
        have k4 : decide ((n : Int) = 0) = decide (n = 0) := decide_eq_decide.2 (by omega)
        simp only [k4]
        refine CWp.cond rfl ?_ ?_ <;> intro h4
        · repeat (first | refine CWp.seq ?_ | refine CWp.block ?_ | (refine CWp.ret ?_; try simp only [go_sem, Nat.reduceAdd, Nat.reduceLeDiff, Nat.reduceMul, Nat.reduceSub, Nat.reduceEqDiff]) | (refine CWp.skip ?_; try simp only [go_sem, Nat.reduceAdd, Nat.reduceLeDiff, Nat.reduceMul, Nat.reduceSub, Nat.reduceEqDiff]) | (refine CWp.reg tt_ok ?_; simp only [go_sem, Nat.reduceAdd, Nat.reduceLeDiff, Nat.reduceMul, Nat.reduceSub, Nat.reduceEqDiff]))
          have e : oneM s at_ sy = (0, at_, 4) := by simp only [oneM, hc, h1, h2, h3, hto, h4, cond_true, cond_false]
          exact Fin.ret3 (.inl rfl) Tryd.results28 rfl rfl rfl rfl (Mem.sub.refl _) ⟨by rw [e]; rfl, rfl⟩
        · repeat (first | refine CWp.seq ?_ | refine CWp.block ?_ | (refine CWp.ret ?_; try simp only [go_sem, Nat.reduceAdd, Nat.reduceLeDiff, Nat.reduceMul, Nat.reduceSub, Nat.reduceEqDiff]) | (refine CWp.skip ?_; try simp only [go_sem, Nat.reduceAdd, Nat.reduceLeDiff, Nat.reduceMul, Nat.reduceSub, Nat.reduceEqDiff]) | (refine CWp.reg tt_ok ?_; simp only [go_sem, Nat.reduceAdd, Nat.reduceLeDiff, Nat.reduceMul, Nat.reduceSub, Nat.reduceEqDiff]))
          repeat (with_reducible refine And.intro (by first | exact True.intro | assumption | omega | (intros; omega) | (intro hg; simp only [Bool.and_eq_true, Bool.or_eq_true, decide_eq_true_eq, Bool.not_eq_true', decide_eq_false_iff_not] at hg; omega) | (simp only [decide_eq_true_eq, Bool.and_eq_true, Bool.or_eq_true, Bool.not_eq_true', decide_eq_false_iff_not]; omega) | (intros; simp_all; done) | (intros; simp_all; omega)) ?_)
          repeat (first | refine CWp.seq ?_ | refine CWp.block ?_ | (refine CWp.ret ?_; try simp only [go_sem, Nat.reduceAdd, Nat.reduceLeDiff, Nat.reduceMul, Nat.reduceSub, Nat.reduceEqDiff]) | (refine CWp.skip ?_; try simp only [go_sem, Nat.reduceAdd, Nat.reduceLeDiff, Nat.reduceMul, Nat.reduceSub, Nat.reduceEqDiff]) | (refine CWp.reg tt_ok ?_; simp only [go_sem, Nat.reduceAdd, Nat.reduceLeDiff, Nat.reduceMul, Nat.reduceSub, Nat.reduceEqDiff]))
          have e : oneM s at_ sy = (2, at_ + n, 0) := by simp only [oneM, hc, h1, h2, h3, hto, h4, cond_true, cond_false]
          exact Fin.ret3 (.inl rfl) Tryd.results28 rfl rfl rfl rfl (Mem.sub.refl _) ⟨by rw [e]; rfl, rfl⟩
end Go.Proofs.LxA
