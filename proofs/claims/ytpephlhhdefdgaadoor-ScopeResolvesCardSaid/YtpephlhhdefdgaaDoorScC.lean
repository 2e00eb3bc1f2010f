import Derived.Test.YtpephlhhdefdgaaDoorScB
set_option linter.unusedVariables false
set_option linter.unusedSimpArgs false
set_option maxRecDepth 100000
namespace Go.Proofs.ScA
open Go Go.Am Go.Proofs Go.RowKit
set_option linter.unusedSectionVars false

def letterB (c : Int) : Bool := ((decide (97 ≤ c) && decide (c ≤ 122)) || (decide (65 ≤ c) && decide (c ≤ 90))) || decide (c = 95)
def byteI (s : List UInt8) (i : Nat) : Int := ((s.getD i 0).toNat : Int)

theorem letter_spec (c : Int) : Pure Tryd.prog 34 [.int .u8 c] (.bool (letterB c)) := fun M => by
  refine enter34 _ ?_
  simp only [cc34]
  repeat (first | refine CWp.seq ?_ | refine CWp.block ?_ | (refine CWp.ret ?_; try simp only [go_sem, Nat.reduceAdd, Nat.reduceLeDiff, Nat.reduceMul, Nat.reduceSub, Nat.reduceEqDiff]) | (refine CWp.skip ?_; try simp only [go_sem, Nat.reduceAdd, Nat.reduceLeDiff, Nat.reduceMul, Nat.reduceSub, Nat.reduceEqDiff]) | (refine CWp.reg tt_ok ?_; simp only [go_sem, Nat.reduceAdd, Nat.reduceLeDiff, Nat.reduceMul, Nat.reduceSub, Nat.reduceEqDiff]))
  exact Fin.ret1 (.inl rfl) rfl rfl rfl (Mem.sub.refl _) ⟨by simp [letterB, Bool.or_assoc], rfl⟩
theorem letterR_spec (c : Int) : Pure Tryd.prog 38 [.int .u8 c] (.bool (letterB c)) := fun M => by
  refine enter38 _ ?_
  simp only [cc38]
  repeat (first | refine CWp.seq ?_ | refine CWp.block ?_ | (refine CWp.ret ?_; try simp only [go_sem, Nat.reduceAdd, Nat.reduceLeDiff, Nat.reduceMul, Nat.reduceSub, Nat.reduceEqDiff]) | (refine CWp.skip ?_; try simp only [go_sem, Nat.reduceAdd, Nat.reduceLeDiff, Nat.reduceMul, Nat.reduceSub, Nat.reduceEqDiff]) | (refine CWp.reg tt_ok ?_; simp only [go_sem, Nat.reduceAdd, Nat.reduceLeDiff, Nat.reduceMul, Nat.reduceSub, Nat.reduceEqDiff]))
  exact Fin.ret1 (.inl rfl) rfl rfl rfl (Mem.sub.refl _) ⟨by simp [letterB, Bool.or_assoc], rfl⟩

/-- One byte of a name. -/
def stepT (b : Bool) (c : Int) : Option Bool :=
  bif letterB c then some false else bif b then none else bif decide (c = 46) then some true else bif decide (c < 48) || decide (57 < c) then (bif decide (c = 39) then some b else none) else some b
def runT (s : List UInt8) : Nat → Nat → Bool → Option Bool
  | 0, _, b => some b
  | n + 1, i, b => bif decide (i < s.length) then (match stepT b (byteI s i) with
    | none => none
    | some b' => runT s n (i + 1) b') else some b
def nameM (s : List UInt8) : Bool := match runT s (s.length + 1) 0 true with
  | none => false
  | some b => !b && decide (s.length ≤ 64)

theorem name_loop (s : List UInt8) (hlen : s.length ≤ 1000000) (M : Mem) (Q : AExit → St → Prop) : ∀ (n i : Nat) (b : Bool), s.length - i < n → i ≤ s.length →
    (runT s n i b = none → ∀ t, t[2]? = some (.v (.bool false)) → Q .ret { tmps := t, loc := [], rows := [], defs := [], M := M }) →
    (∀ b', runT s n i b = some b' → Q (.exit 0) { tmps := lp19_0 (.v (.str s)) (.v (.bool b')) (.v (.int .i64 (s.length : Int))) (.v (.int .i64 (s.length : Int))), loc := [], rows := [], defs := [], M := M }) →
    CLoop none Tryd.prog tt esc19 cc19_l0 Q { tmps := lp19_0 (.v (.str s)) (.v (.bool b)) (.v (.int .i64 (s.length : Int))) (.v (.int .i64 (i : Int))), loc := [], rows := [], defs := [], M := M } := by
  intro n
  induction n with
  | zero => intro i b h0 h1 hQ1 hQ2; omega
  | succ n ih =>
    intro i b h0 h1 hQ1 hQ2
    refine CLoop.unroll ?_
    generalize hK : CLoop none Tryd.prog tt esc19 cc19_l0 Q = K
    simp only [cc19_l0, lp19_0]
    repeat (first | refine CWp.seq ?_ | refine CWp.block ?_ | (refine CWp.ret ?_; try simp only [go_sem, Nat.reduceAdd, Nat.reduceLeDiff, Nat.reduceMul, Nat.reduceSub, Nat.reduceEqDiff]) | (refine CWp.skip ?_; try simp only [go_sem, Nat.reduceAdd, Nat.reduceLeDiff, Nat.reduceMul, Nat.reduceSub, Nat.reduceEqDiff]) | (refine CWp.reg tt_ok ?_; simp only [go_sem, Nat.reduceAdd, Nat.reduceLeDiff, Nat.reduceMul, Nat.reduceSub, Nat.reduceEqDiff]))
    refine CWp.cond rfl ?_ ?_ <;> intro hc
    · have hi : i < s.length := by simpa using hc
      simp only [runT, hi, decide_true, cond_true] at hQ1 hQ2
      refine CWp.skip ?_
      simp only [go_sem, Nat.reduceAdd, Nat.reduceLeDiff, Nat.reduceMul, Nat.reduceSub, Nat.reduceEqDiff]
      repeat (first | refine CWp.seq ?_ | refine CWp.block ?_ | (refine CWp.ret ?_; try simp only [go_sem, Nat.reduceAdd, Nat.reduceLeDiff, Nat.reduceMul, Nat.reduceSub, Nat.reduceEqDiff]) | (refine CWp.skip ?_; try simp only [go_sem, Nat.reduceAdd, Nat.reduceLeDiff, Nat.reduceMul, Nat.reduceSub, Nat.reduceEqDiff]) | (refine CWp.reg tt_ok ?_; simp only [go_sem, Nat.reduceAdd, Nat.reduceLeDiff, Nat.reduceMul, Nat.reduceSub, Nat.reduceEqDiff]))
      repeat (with_reducible refine And.intro (by first | exact True.intro | assumption | omega | (intros; omega) | (intro hg; simp only [Bool.and_eq_true, Bool.or_eq_true, decide_eq_true_eq, Bool.not_eq_true', decide_eq_false_iff_not] at hg; omega) | (simp only [decide_eq_true_eq, Bool.and_eq_true, Bool.or_eq_true, Bool.not_eq_true', decide_eq_false_iff_not]; omega) | (intros; simp_all; done) | (intros; simp_all; omega)) ?_)
      repeat (first | refine CWp.seq ?_ | refine CWp.block ?_ | (refine CWp.ret ?_; try simp only [go_sem, Nat.reduceAdd, Nat.reduceLeDiff, Nat.reduceMul, Nat.reduceSub, Nat.reduceEqDiff]) | (refine CWp.skip ?_; try simp only [go_sem, Nat.reduceAdd, Nat.reduceLeDiff, Nat.reduceMul, Nat.reduceSub, Nat.reduceEqDiff]) | (refine CWp.reg tt_ok ?_; simp only [go_sem, Nat.reduceAdd, Nat.reduceLeDiff, Nat.reduceMul, Nat.reduceSub, Nat.reduceEqDiff]))
      have fin : ∀ (b' : Bool) t, stepT b (byteI s i) = some b' → Junked t (lp19_0 (.v (.str s)) (.v (.bool b')) (.v (.int .i64 (s.length : Int))) (.v (.int .i64 ((i + 1 : Nat) : Int)))) → K { tmps := t, loc := [], rows := [], defs := [], M := M } := by
        intro b' t hb hj
        rw [hb] at hQ1 hQ2
        rw [← hK]
        exact CLoop.junk (ih (i + 1) b' (by omega) (by omega) hQ1 hQ2) hj
      have bad : ∀ t, stepT b (byteI s i) = none → t[2]? = some (.v (.bool false)) → Q .ret { tmps := t, loc := [], rows := [], defs := [], M := M } := by
        intro t hb ht
        rw [hb] at hQ1
        exact hQ1 rfl t ht
      have hbyte : (((s.getD i 0).toNat : Nat) : Int) = byteI s i := rfl
      simp only [hbyte]
      refine COps.pure has34 rfl rfl (by simp) (fun _ => letter_spec _) (evalC_sound tt_ok _ _ ?_)
      simp only [go_sem, Nat.reduceAdd, Nat.reduceLeDiff, Nat.reduceMul, Nat.reduceSub, Nat.reduceEqDiff]
      generalize byteI s i = c at *
      repeat' (first | refine CWp.seq ?_ | refine CWp.block ?_ | (refine CWp.ret ?_; try simp only [go_sem, Nat.reduceAdd, Nat.reduceLeDiff, Nat.reduceMul, Nat.reduceSub, Nat.reduceEqDiff]) | (refine CWp.skip ?_; try simp only [go_sem, Nat.reduceAdd, Nat.reduceLeDiff, Nat.reduceMul, Nat.reduceSub, Nat.reduceEqDiff]) | (refine CWp.reg tt_ok ?_; simp only [go_sem, Nat.reduceAdd, Nat.reduceLeDiff, Nat.reduceMul, Nat.reduceSub, Nat.reduceEqDiff]) | (refine CWp.exit ?_; simp only [go_sem, Nat.reduceAdd, Nat.reduceLeDiff, Nat.reduceMul, Nat.reduceSub, Nat.reduceEqDiff]) | (refine CWp.cond rfl ?_ ?_ <;> intro h))
      all_goals try repeat (with_reducible refine And.intro (by first | exact True.intro | assumption | omega | (intros; omega) | (intro hg; simp only [Bool.and_eq_true, Bool.or_eq_true, decide_eq_true_eq, Bool.not_eq_true', decide_eq_false_iff_not] at hg; omega) | (simp only [decide_eq_true_eq, Bool.and_eq_true, Bool.or_eq_true, Bool.not_eq_true', decide_eq_false_iff_not]; omega) | (intros; simp_all; done) | (intros; simp_all; omega)) ?_)
      all_goals first
        | (refine bad _ ?_ rfl; clear hQ1 hQ2 ih fin bad; grind [stepT])
        | (refine fin b _ ?_ (by simp [Junked, lp19_0]; done); clear hQ1 hQ2 ih fin bad; grind [stepT])
        | (refine fin false _ ?_ (by simp [Junked, lp19_0]; done); clear hQ1 hQ2 ih fin bad; grind [stepT])
        | (refine fin true _ ?_ (by simp [Junked, lp19_0]; done); clear hQ1 hQ2 ih fin bad; grind [stepT])
    · have hi : i = s.length := by simp at hc; omega
      subst hi
      simp only [runT, Nat.lt_irrefl, decide_false, cond_false] at hQ2
      exact CWp.junk (t := lp19_0 (.v (.str s)) (.v (.bool b)) (.v (.int .i64 (s.length : Int))) (.v (.int .i64 (s.length : Int)))) (CWp.exit (hQ2 b rfl)) (by simp [Junked, lp19_0])
theorem name_spec (s : List UInt8) (hlen : s.length ≤ 1000000) : Pure Tryd.prog 19 [.str s] (.bool (nameM s)) := fun M => by
  refine enter19 _ ?_
  simp only [cc19]
  repeat (first | refine CWp.seq ?_ | refine CWp.block ?_ | (refine CWp.ret ?_; try simp only [go_sem, Nat.reduceAdd, Nat.reduceLeDiff, Nat.reduceMul, Nat.reduceSub, Nat.reduceEqDiff]) | (refine CWp.skip ?_; try simp only [go_sem, Nat.reduceAdd, Nat.reduceLeDiff, Nat.reduceMul, Nat.reduceSub, Nat.reduceEqDiff]) | (refine CWp.reg tt_ok ?_; simp only [go_sem, Nat.reduceAdd, Nat.reduceLeDiff, Nat.reduceMul, Nat.reduceSub, Nat.reduceEqDiff]))
  refine CWp.loop (CLoop.junk (t := lp19_0 (.v (.str s)) (.v (.bool true)) (.v (.int .i64 (s.length : Int))) (.v (.int .i64 ((0 : Nat) : Int)))) (name_loop s hlen M _ (s.length + 1) 0 true (by omega) (by omega) ?_ ?_) (by simp [Junked, lp19_0]))
  · intro h t ht
    simp only [go_sem, Nat.reduceAdd, Nat.reduceLeDiff, Nat.reduceMul, Nat.reduceSub, Nat.reduceEqDiff]
    exact Fin.ret1 (v := .bool false) (.inl rfl) rfl rfl (by rw [ht]; rfl) (Mem.sub.refl _) ⟨by simp [nameM, h], rfl⟩
  · intro b' h
    simp only [go_sem, lp19_0]
    repeat (first | refine CWp.seq ?_ | refine CWp.block ?_ | (refine CWp.ret ?_; try simp only [go_sem, Nat.reduceAdd, Nat.reduceLeDiff, Nat.reduceMul, Nat.reduceSub, Nat.reduceEqDiff]) | (refine CWp.skip ?_; try simp only [go_sem, Nat.reduceAdd, Nat.reduceLeDiff, Nat.reduceMul, Nat.reduceSub, Nat.reduceEqDiff]) | (refine CWp.reg tt_ok ?_; simp only [go_sem, Nat.reduceAdd, Nat.reduceLeDiff, Nat.reduceMul, Nat.reduceSub, Nat.reduceEqDiff]))
    refine Fin.ret1 (.inl rfl) rfl rfl rfl (Mem.sub.refl _) ⟨?_, rfl⟩
    simp only [nameM, h]
    congr 3
    exact decide_eq_decide.2 (by omega)

theorem nameR_loop (s : List UInt8) (hlen : s.length ≤ 1000000) (M : Mem) (Q : AExit → St → Prop) : ∀ (n i : Nat) (b : Bool), s.length - i < n → i ≤ s.length →
    (runT s n i b = none → ∀ t, t[2]? = some (.v (.bool false)) → Q .ret { tmps := t, loc := [], rows := [], defs := [], M := M }) →
    (∀ b', runT s n i b = some b' → Q (.exit 0) { tmps := lp23_0 (.v (.str s)) (.v (.bool b')) (.v (.int .i64 (s.length : Int))), loc := [], rows := [], defs := [], M := M }) →
    CLoop none Tryd.prog tt esc23 cc23_l0 Q { tmps := lp23_0 (.v (.str s)) (.v (.bool b)) (.v (.int .i64 (i : Int))), loc := [], rows := [], defs := [], M := M } := by
  intro n
  induction n with
  | zero => intro i b h0 h1 hQ1 hQ2; omega
  | succ n ih =>
    intro i b h0 h1 hQ1 hQ2
    refine CLoop.unroll ?_
    generalize hK : CLoop none Tryd.prog tt esc23 cc23_l0 Q = K
    simp only [cc23_l0, lp23_0]
    repeat (first | refine CWp.seq ?_ | refine CWp.block ?_ | (refine CWp.ret ?_; try simp only [go_sem, Nat.reduceAdd, Nat.reduceLeDiff, Nat.reduceMul, Nat.reduceSub, Nat.reduceEqDiff]) | (refine CWp.skip ?_; try simp only [go_sem, Nat.reduceAdd, Nat.reduceLeDiff, Nat.reduceMul, Nat.reduceSub, Nat.reduceEqDiff]) | (refine CWp.reg tt_ok ?_; simp only [go_sem, Nat.reduceAdd, Nat.reduceLeDiff, Nat.reduceMul, Nat.reduceSub, Nat.reduceEqDiff]))
    refine CWp.cond rfl ?_ ?_ <;> intro hc
    · have hi : i < s.length := by simpa using hc
      simp only [runT, hi, decide_true, cond_true] at hQ1 hQ2
      have fin : ∀ (b' : Bool) t, stepT b (byteI s i) = some b' → Junked t (lp23_0 (.v (.str s)) (.v (.bool b')) (.v (.int .i64 ((i + 1 : Nat) : Int)))) → K { tmps := t, loc := [], rows := [], defs := [], M := M } := by
        intro b' t hb hj
        rw [hb] at hQ1 hQ2
        rw [← hK]
        exact CLoop.junk (ih (i + 1) b' (by omega) (by omega) hQ1 hQ2) hj
      have bad : ∀ t, stepT b (byteI s i) = none → t[2]? = some (.v (.bool false)) → Q .ret { tmps := t, loc := [], rows := [], defs := [], M := M } := by
        intro t hb ht
        rw [hb] at hQ1
        exact hQ1 rfl t ht
      have hbyte : (((s.getD i 0).toNat : Nat) : Int) = byteI s i := rfl
      refine CWp.skip ?_
      simp only [go_sem, Nat.reduceAdd, Nat.reduceLeDiff, Nat.reduceMul, Nat.reduceSub, Nat.reduceEqDiff]
      repeat (first | refine CWp.seq ?_ | refine CWp.block ?_ | (refine CWp.ret ?_; try simp only [go_sem, Nat.reduceAdd, Nat.reduceLeDiff, Nat.reduceMul, Nat.reduceSub, Nat.reduceEqDiff]) | (refine CWp.skip ?_; try simp only [go_sem, Nat.reduceAdd, Nat.reduceLeDiff, Nat.reduceMul, Nat.reduceSub, Nat.reduceEqDiff]) | (refine CWp.reg tt_ok ?_; simp only [go_sem, Nat.reduceAdd, Nat.reduceLeDiff, Nat.reduceMul, Nat.reduceSub, Nat.reduceEqDiff]))
      repeat (with_reducible refine And.intro (by first | exact True.intro | assumption | omega | (intros; omega) | (intro hg; simp only [Bool.and_eq_true, Bool.or_eq_true, decide_eq_true_eq, Bool.not_eq_true', decide_eq_false_iff_not] at hg; omega) | (simp only [decide_eq_true_eq, Bool.and_eq_true, Bool.or_eq_true, Bool.not_eq_true', decide_eq_false_iff_not]; omega) | (intros; simp_all; done) | (intros; simp_all; omega)) ?_)
      simp only [hbyte]
      generalize byteI s i = c at *
      repeat (first | refine CWp.seq ?_ | refine CWp.block ?_ | (refine CWp.ret ?_; try simp only [go_sem, Nat.reduceAdd, Nat.reduceLeDiff, Nat.reduceMul, Nat.reduceSub, Nat.reduceEqDiff]) | (refine CWp.skip ?_; try simp only [go_sem, Nat.reduceAdd, Nat.reduceLeDiff, Nat.reduceMul, Nat.reduceSub, Nat.reduceEqDiff]) | (refine CWp.reg tt_ok ?_; simp only [go_sem, Nat.reduceAdd, Nat.reduceLeDiff, Nat.reduceMul, Nat.reduceSub, Nat.reduceEqDiff]))
      refine CWp.cond rfl ?_ ?_ <;> intro hb
      · repeat (first | refine CWp.seq ?_ | refine CWp.block ?_ | (refine CWp.ret ?_; try simp only [go_sem, Nat.reduceAdd, Nat.reduceLeDiff, Nat.reduceMul, Nat.reduceSub, Nat.reduceEqDiff]) | (refine CWp.skip ?_; try simp only [go_sem, Nat.reduceAdd, Nat.reduceLeDiff, Nat.reduceMul, Nat.reduceSub, Nat.reduceEqDiff]) | (refine CWp.reg tt_ok ?_; simp only [go_sem, Nat.reduceAdd, Nat.reduceLeDiff, Nat.reduceMul, Nat.reduceSub, Nat.reduceEqDiff]))
        refine COps.pure has38 rfl rfl (by simp) (fun _ => letterR_spec _) (evalC_sound tt_ok _ _ ?_)
        simp only [go_sem, Nat.reduceAdd, Nat.reduceLeDiff, Nat.reduceMul, Nat.reduceSub, Nat.reduceEqDiff]
        repeat' (first | refine CWp.seq ?_ | refine CWp.block ?_ | (refine CWp.ret ?_; try simp only [go_sem, Nat.reduceAdd, Nat.reduceLeDiff, Nat.reduceMul, Nat.reduceSub, Nat.reduceEqDiff]) | (refine CWp.skip ?_; try simp only [go_sem, Nat.reduceAdd, Nat.reduceLeDiff, Nat.reduceMul, Nat.reduceSub, Nat.reduceEqDiff]) | (refine CWp.reg tt_ok ?_; simp only [go_sem, Nat.reduceAdd, Nat.reduceLeDiff, Nat.reduceMul, Nat.reduceSub, Nat.reduceEqDiff]) | (refine CWp.exit ?_; simp only [go_sem, Nat.reduceAdd, Nat.reduceLeDiff, Nat.reduceMul, Nat.reduceSub, Nat.reduceEqDiff]) | (refine CWp.cond rfl ?_ ?_ <;> intro h))
        all_goals try repeat (with_reducible refine And.intro (by first | exact True.intro | assumption | omega | (intros; omega) | (intro hg; simp only [Bool.and_eq_true, Bool.or_eq_true, decide_eq_true_eq, Bool.not_eq_true', decide_eq_false_iff_not] at hg; omega) | (simp only [decide_eq_true_eq, Bool.and_eq_true, Bool.or_eq_true, Bool.not_eq_true', decide_eq_false_iff_not]; omega) | (intros; simp_all; done) | (intros; simp_all; omega)) ?_)
        all_goals first
          | (refine bad _ ?_ rfl; clear hQ1 hQ2 ih fin bad; grind [stepT])
          | (refine fin false _ ?_ (by simp [Junked, lp23_0]; done); clear hQ1 hQ2 ih fin bad; grind [stepT])
      · repeat (first | refine CWp.seq ?_ | refine CWp.block ?_ | (refine CWp.ret ?_; try simp only [go_sem, Nat.reduceAdd, Nat.reduceLeDiff, Nat.reduceMul, Nat.reduceSub, Nat.reduceEqDiff]) | (refine CWp.skip ?_; try simp only [go_sem, Nat.reduceAdd, Nat.reduceLeDiff, Nat.reduceMul, Nat.reduceSub, Nat.reduceEqDiff]) | (refine CWp.reg tt_ok ?_; simp only [go_sem, Nat.reduceAdd, Nat.reduceLeDiff, Nat.reduceMul, Nat.reduceSub, Nat.reduceEqDiff]))
        refine CWp.cond rfl ?_ ?_ <;> intro hd
        · repeat' (first | refine CWp.seq ?_ | refine CWp.block ?_ | (refine CWp.ret ?_; try simp only [go_sem, Nat.reduceAdd, Nat.reduceLeDiff, Nat.reduceMul, Nat.reduceSub, Nat.reduceEqDiff]) | (refine CWp.skip ?_; try simp only [go_sem, Nat.reduceAdd, Nat.reduceLeDiff, Nat.reduceMul, Nat.reduceSub, Nat.reduceEqDiff]) | (refine CWp.reg tt_ok ?_; simp only [go_sem, Nat.reduceAdd, Nat.reduceLeDiff, Nat.reduceMul, Nat.reduceSub, Nat.reduceEqDiff]) | (refine CWp.exit ?_; simp only [go_sem, Nat.reduceAdd, Nat.reduceLeDiff, Nat.reduceMul, Nat.reduceSub, Nat.reduceEqDiff]) | (refine CWp.cond rfl ?_ ?_ <;> intro h))
          all_goals try repeat (with_reducible refine And.intro (by first | exact True.intro | assumption | omega | (intros; omega) | (intro hg; simp only [Bool.and_eq_true, Bool.or_eq_true, decide_eq_true_eq, Bool.not_eq_true', decide_eq_false_iff_not] at hg; omega) | (simp only [decide_eq_true_eq, Bool.and_eq_true, Bool.or_eq_true, Bool.not_eq_true', decide_eq_false_iff_not]; omega) | (intros; simp_all; done) | (intros; simp_all; omega)) ?_)
          refine fin true _ ?_ (by simp [Junked, lp23_0]; done); clear hQ1 hQ2 ih fin bad; grind [stepT, letterB]
        · repeat (first | refine CWp.seq ?_ | refine CWp.block ?_ | (refine CWp.ret ?_; try simp only [go_sem, Nat.reduceAdd, Nat.reduceLeDiff, Nat.reduceMul, Nat.reduceSub, Nat.reduceEqDiff]) | (refine CWp.skip ?_; try simp only [go_sem, Nat.reduceAdd, Nat.reduceLeDiff, Nat.reduceMul, Nat.reduceSub, Nat.reduceEqDiff]) | (refine CWp.reg tt_ok ?_; simp only [go_sem, Nat.reduceAdd, Nat.reduceLeDiff, Nat.reduceMul, Nat.reduceSub, Nat.reduceEqDiff]))
          refine COps.pure has38 rfl rfl (by simp) (fun _ => letterR_spec _) (evalC_sound tt_ok _ _ ?_)
          simp only [go_sem, Nat.reduceAdd, Nat.reduceLeDiff, Nat.reduceMul, Nat.reduceSub, Nat.reduceEqDiff]
          repeat (with_reducible refine And.intro (by first | exact True.intro | assumption | omega | (intros; omega) | (intro hg; simp only [Bool.and_eq_true, Bool.or_eq_true, decide_eq_true_eq, Bool.not_eq_true', decide_eq_false_iff_not] at hg; omega) | (simp only [decide_eq_true_eq, Bool.and_eq_true, Bool.or_eq_true, Bool.not_eq_true', decide_eq_false_iff_not]; omega) | (intros; simp_all; done) | (intros; simp_all; omega)) ?_)
          repeat' (first | refine CWp.seq ?_ | refine CWp.block ?_ | (refine CWp.ret ?_; try simp only [go_sem, Nat.reduceAdd, Nat.reduceLeDiff, Nat.reduceMul, Nat.reduceSub, Nat.reduceEqDiff]) | (refine CWp.skip ?_; try simp only [go_sem, Nat.reduceAdd, Nat.reduceLeDiff, Nat.reduceMul, Nat.reduceSub, Nat.reduceEqDiff]) | (refine CWp.reg tt_ok ?_; simp only [go_sem, Nat.reduceAdd, Nat.reduceLeDiff, Nat.reduceMul, Nat.reduceSub, Nat.reduceEqDiff]) | (refine CWp.exit ?_; simp only [go_sem, Nat.reduceAdd, Nat.reduceLeDiff, Nat.reduceMul, Nat.reduceSub, Nat.reduceEqDiff]) | (refine CWp.cond rfl ?_ ?_ <;> intro h))
          all_goals try repeat (with_reducible refine And.intro (by first | exact True.intro | assumption | omega | (intros; omega) | (intro hg; simp only [Bool.and_eq_true, Bool.or_eq_true, decide_eq_true_eq, Bool.not_eq_true', decide_eq_false_iff_not] at hg; omega) | (simp only [decide_eq_true_eq, Bool.and_eq_true, Bool.or_eq_true, Bool.not_eq_true', decide_eq_false_iff_not]; omega) | (intros; simp_all; done) | (intros; simp_all; omega)) ?_)
          all_goals first
            | (refine bad _ ?_ rfl; clear hQ1 hQ2 ih fin bad; grind [stepT])
            | (refine fin b _ ?_ (by simp [Junked, lp23_0]; done); clear hQ1 hQ2 ih fin bad; grind [stepT])
    · have hi : i = s.length := by simp at hc; omega
      subst hi
      simp only [runT, Nat.lt_irrefl, decide_false, cond_false] at hQ2
      exact CWp.junk (t := lp23_0 (.v (.str s)) (.v (.bool b)) (.v (.int .i64 (s.length : Int)))) (CWp.exit (hQ2 b rfl)) (by simp [Junked, lp23_0])

theorem nameR_spec (s : List UInt8) (hlen : s.length ≤ 1000000) : Pure Tryd.prog 23 [.str s] (.bool (nameM s)) := fun M => by
  refine enter23 _ ?_
  simp only [cc23]
  repeat (first | refine CWp.seq ?_ | refine CWp.block ?_ | (refine CWp.ret ?_; try simp only [go_sem, Nat.reduceAdd, Nat.reduceLeDiff, Nat.reduceMul, Nat.reduceSub, Nat.reduceEqDiff]) | (refine CWp.skip ?_; try simp only [go_sem, Nat.reduceAdd, Nat.reduceLeDiff, Nat.reduceMul, Nat.reduceSub, Nat.reduceEqDiff]) | (refine CWp.reg tt_ok ?_; simp only [go_sem, Nat.reduceAdd, Nat.reduceLeDiff, Nat.reduceMul, Nat.reduceSub, Nat.reduceEqDiff]))
  refine CWp.cond rfl ?_ ?_ <;> intro hc
  · repeat (first | refine CWp.seq ?_ | refine CWp.block ?_ | (refine CWp.ret ?_; try simp only [go_sem, Nat.reduceAdd, Nat.reduceLeDiff, Nat.reduceMul, Nat.reduceSub, Nat.reduceEqDiff]) | (refine CWp.skip ?_; try simp only [go_sem, Nat.reduceAdd, Nat.reduceLeDiff, Nat.reduceMul, Nat.reduceSub, Nat.reduceEqDiff]) | (refine CWp.reg tt_ok ?_; simp only [go_sem, Nat.reduceAdd, Nat.reduceLeDiff, Nat.reduceMul, Nat.reduceSub, Nat.reduceEqDiff]))
    refine Fin.ret1 (.inl rfl) rfl rfl rfl (Mem.sub.refl _) ⟨?_, rfl⟩
    simp only [Bool.or_eq_true, decide_eq_true_eq] at hc
    rcases hc with rfl | hc
    · rfl
    · unfold nameM
      have : decide (s.length ≤ 64) = false := by simp; omega
      cases runT s (s.length + 1) 0 true <;> simp [this]
  · simp only [Bool.or_eq_false_iff, decide_eq_false_iff_not] at hc
    have hle : decide (s.length ≤ 64) = true := by simp; omega
    repeat (first | refine CWp.seq ?_ | refine CWp.block ?_ | (refine CWp.ret ?_; try simp only [go_sem, Nat.reduceAdd, Nat.reduceLeDiff, Nat.reduceMul, Nat.reduceSub, Nat.reduceEqDiff]) | (refine CWp.skip ?_; try simp only [go_sem, Nat.reduceAdd, Nat.reduceLeDiff, Nat.reduceMul, Nat.reduceSub, Nat.reduceEqDiff]) | (refine CWp.reg tt_ok ?_; simp only [go_sem, Nat.reduceAdd, Nat.reduceLeDiff, Nat.reduceMul, Nat.reduceSub, Nat.reduceEqDiff]))
    refine CWp.loop (CLoop.junk (t := lp23_0 (.v (.str s)) (.v (.bool true)) (.v (.int .i64 ((0 : Nat) : Int)))) (nameR_loop s hlen M _ (s.length + 1) 0 true (by omega) (by omega) ?_ ?_) (by simp [Junked, lp23_0]))
    · intro h t ht
      simp only [go_sem, Nat.reduceAdd, Nat.reduceLeDiff, Nat.reduceMul, Nat.reduceSub, Nat.reduceEqDiff]
      exact Fin.ret1 (v := .bool false) (.inl rfl) rfl rfl (by rw [ht]; rfl) (Mem.sub.refl _) ⟨by simp [nameM, h], rfl⟩
    · intro b' h
      simp only [go_sem, lp23_0]
      repeat (first | refine CWp.seq ?_ | refine CWp.block ?_ | (refine CWp.ret ?_; try simp only [go_sem, Nat.reduceAdd, Nat.reduceLeDiff, Nat.reduceMul, Nat.reduceSub, Nat.reduceEqDiff]) | (refine CWp.skip ?_; try simp only [go_sem, Nat.reduceAdd, Nat.reduceLeDiff, Nat.reduceMul, Nat.reduceSub, Nat.reduceEqDiff]) | (refine CWp.reg tt_ok ?_; simp only [go_sem, Nat.reduceAdd, Nat.reduceLeDiff, Nat.reduceMul, Nat.reduceSub, Nat.reduceEqDiff]))
      refine Fin.ret1 (.inl rfl) rfl rfl rfl (Mem.sub.refl _) ⟨?_, rfl⟩
      simp only [nameM, h, hle, Bool.and_true]

/-- The reference's join. -/
def joinR (l : List (List UInt8)) (name : List UInt8) : List UInt8 := (l.map (· ++ [46])).flatten ++ name

theorem joinR_loop (own : Own) (l : List (List UInt8)) (k : Nat) (hk : k ≤ l.length) (nm : List UInt8) (hlen : l.length ≤ 1000000) (htot : ((l.take k).map (· ++ [46])).flatten.length ≤ 1000000) (M : Mem) (Q : AExit → St → Prop) : ∀ (n i : Nat), k - i < n → i ≤ k →
    Q (.exit 0) { tmps := lp24_0 (.v (.sl own 1 (strs l))) (.v (.int .i64 (k : Int))) (.v (.str nm)) (.v (.str ((l.take k).map (· ++ [46])).flatten)) (.v (.int .i64 (k : Int))), loc := [], rows := [], defs := [], M := M } →
    CLoop none Tryd.prog tt esc24 cc24_l0 Q { tmps := lp24_0 (.v (.sl own 1 (strs l))) (.v (.int .i64 (k : Int))) (.v (.str nm)) (.v (.str ((l.take i).map (· ++ [46])).flatten)) (.v (.int .i64 (i : Int))), loc := [], rows := [], defs := [], M := M } := by
  intro n
  induction n with
  | zero => intro i h0 h1 hQ; omega
  | succ n ih =>
    intro i h0 h1 hQ
    refine CLoop.unroll ?_
    generalize hK : CLoop none Tryd.prog tt esc24 cc24_l0 Q = K
    simp only [cc24_l0, lp24_0]
    repeat (first | refine CWp.seq ?_ | refine CWp.block ?_ | (refine CWp.ret ?_; try simp only [go_sem, Nat.reduceAdd, Nat.reduceLeDiff, Nat.reduceMul, Nat.reduceSub, Nat.reduceEqDiff]) | (refine CWp.skip ?_; try simp only [go_sem, Nat.reduceAdd, Nat.reduceLeDiff, Nat.reduceMul, Nat.reduceSub, Nat.reduceEqDiff]) | (refine CWp.reg tt_ok ?_; simp only [go_sem, Nat.reduceAdd, Nat.reduceLeDiff, Nat.reduceMul, Nat.reduceSub, Nat.reduceEqDiff]))
    refine CWp.cond rfl ?_ ?_ <;> intro hc
    · have hi : i < k := by simpa using hc
      have hil : i < l.length := by omega
      have hx := strs_at l i l[i] (List.getElem?_eq_getElem hil)
      have hnext : ((l.take (i + 1)).map (· ++ [46])).flatten = ((l.take i).map (· ++ [46])).flatten ++ (l[i] ++ [46]) := by
        rw [List.take_add_one, List.getElem?_eq_getElem hil]
        simp only [Option.toList_some, List.map_append, List.map_cons, List.map_nil, List.flatten_append, List.flatten_cons, List.flatten_nil, List.append_nil]
      have hle : ((l.take (i + 1)).map (· ++ [46])).flatten.length ≤ 1000000 := by
        refine Nat.le_trans ?_ htot
        have : l.take k = l.take (i + 1) ++ (l.take k).drop (i + 1) := by
          conv => lhs; rw [← List.take_append_drop (i + 1) (l.take k), List.take_take, Nat.min_eq_left (by omega)]
        rw [this]; simp
      rw [hnext] at hle
      simp only [List.length_append, List.length_cons, List.length_nil] at hle
      refine CWp.skip ?_
      simp only [go_sem, Nat.reduceAdd, Nat.reduceLeDiff, Nat.reduceMul, Nat.reduceSub, Nat.reduceEqDiff]
      refine CWp.seq ?_
      refine CWp.block ?_
      refine CWp.reg tt_ok ?_
      simp only [go_sem, hx, strs_len]
      repeat (with_reducible refine And.intro (by first | exact True.intro | assumption | omega | (intros; omega) | (intro hg; simp only [Bool.and_eq_true, Bool.or_eq_true, decide_eq_true_eq, Bool.not_eq_true', decide_eq_false_iff_not] at hg; omega) | (simp only [decide_eq_true_eq, Bool.and_eq_true, Bool.or_eq_true, Bool.not_eq_true', decide_eq_false_iff_not]; omega) | (intros; simp_all; done) | (intros; simp_all; omega)) ?_)
      repeat (first | refine CWp.seq ?_ | refine CWp.block ?_ | (refine CWp.ret ?_; try simp only [go_sem, Nat.reduceAdd, Nat.reduceLeDiff, Nat.reduceMul, Nat.reduceSub, Nat.reduceEqDiff]) | (refine CWp.skip ?_; try simp only [go_sem, Nat.reduceAdd, Nat.reduceLeDiff, Nat.reduceMul, Nat.reduceSub, Nat.reduceEqDiff]) | (refine CWp.reg tt_ok ?_; simp only [go_sem, Nat.reduceAdd, Nat.reduceLeDiff, Nat.reduceMul, Nat.reduceSub, Nat.reduceEqDiff]))
      repeat (with_reducible refine And.intro (by first | exact True.intro | assumption | omega | (intros; omega) | (intro hg; simp only [Bool.and_eq_true, Bool.or_eq_true, decide_eq_true_eq, Bool.not_eq_true', decide_eq_false_iff_not] at hg; omega) | (simp only [decide_eq_true_eq, Bool.and_eq_true, Bool.or_eq_true, Bool.not_eq_true', decide_eq_false_iff_not]; omega) | (intros; simp_all; done) | (intros; simp_all; omega)) ?_)
      rw [← hK]
      refine CLoop.junk (t := lp24_0 (.v (.sl own 1 (strs l))) (.v (.int .i64 (k : Int))) (.v (.str nm)) (.v (.str ((l.take (i + 1)).map (· ++ [46])).flatten)) (.v (.int .i64 ((i + 1 : Nat) : Int)))) (ih (i + 1) (by omega) (by omega) hQ) (by rw [hnext]; simp [Junked, lp24_0])
    · have hi : i = k := by simp at hc; omega
      subst hi
      exact CWp.junk (t := lp24_0 (.v (.sl own 1 (strs l))) (.v (.int .i64 (i : Int))) (.v (.str nm)) (.v (.str ((l.take i).map (· ++ [46])).flatten)) (.v (.int .i64 (i : Int)))) (CWp.exit hQ) (by simp [Junked, lp24_0])

theorem joinR_spec (own : Own) (l : List (List UInt8)) (k : Nat) (hk : k ≤ l.length) (nm : List UInt8) (hlen : l.length ≤ 1000000) (htot : ((l.take k).map (· ++ [46])).flatten.length ≤ 1000000) (hnm : nm.length ≤ 1000000) :
    Pure Tryd.prog 24 [.sl own 1 (strs l), .int .i64 (k : Int), .str nm] (.str (joinR (l.take k) nm)) := fun M => by
  refine enter24 _ _ _ ?_
  simp only [cc24]
  repeat (first | refine CWp.seq ?_ | refine CWp.block ?_ | (refine CWp.ret ?_; try simp only [go_sem, Nat.reduceAdd, Nat.reduceLeDiff, Nat.reduceMul, Nat.reduceSub, Nat.reduceEqDiff]) | (refine CWp.skip ?_; try simp only [go_sem, Nat.reduceAdd, Nat.reduceLeDiff, Nat.reduceMul, Nat.reduceSub, Nat.reduceEqDiff]) | (refine CWp.reg tt_ok ?_; simp only [go_sem, Nat.reduceAdd, Nat.reduceLeDiff, Nat.reduceMul, Nat.reduceSub, Nat.reduceEqDiff]))
  refine CWp.loop (CLoop.junk (t := lp24_0 (.v (.sl own 1 (strs l))) (.v (.int .i64 (k : Int))) (.v (.str nm)) (.v (.str ((l.take 0).map (· ++ [46])).flatten)) (.v (.int .i64 ((0 : Nat) : Int)))) (joinR_loop own l k hk nm hlen htot M _ (k + 1) 0 (by omega) (by omega) ?_) (by simp [Junked, lp24_0]))
  simp only [go_sem, lp24_0]
  repeat (first | refine CWp.seq ?_ | refine CWp.block ?_ | (refine CWp.ret ?_; try simp only [go_sem, Nat.reduceAdd, Nat.reduceLeDiff, Nat.reduceMul, Nat.reduceSub, Nat.reduceEqDiff]) | (refine CWp.skip ?_; try simp only [go_sem, Nat.reduceAdd, Nat.reduceLeDiff, Nat.reduceMul, Nat.reduceSub, Nat.reduceEqDiff]) | (refine CWp.reg tt_ok ?_; simp only [go_sem, Nat.reduceAdd, Nat.reduceLeDiff, Nat.reduceMul, Nat.reduceSub, Nat.reduceEqDiff]))
  repeat (with_reducible refine And.intro (by first | exact True.intro | assumption | omega | (intros; omega) | (intro hg; simp only [Bool.and_eq_true, Bool.or_eq_true, decide_eq_true_eq, Bool.not_eq_true', decide_eq_false_iff_not] at hg; omega) | (simp only [decide_eq_true_eq, Bool.and_eq_true, Bool.or_eq_true, Bool.not_eq_true', decide_eq_false_iff_not]; omega) | (intros; simp_all; done) | (intros; simp_all; omega)) ?_)
  repeat (first | refine CWp.seq ?_ | refine CWp.block ?_ | (refine CWp.ret ?_; try simp only [go_sem, Nat.reduceAdd, Nat.reduceLeDiff, Nat.reduceMul, Nat.reduceSub, Nat.reduceEqDiff]) | (refine CWp.skip ?_; try simp only [go_sem, Nat.reduceAdd, Nat.reduceLeDiff, Nat.reduceMul, Nat.reduceSub, Nat.reduceEqDiff]) | (refine CWp.reg tt_ok ?_; simp only [go_sem, Nat.reduceAdd, Nat.reduceLeDiff, Nat.reduceMul, Nat.reduceSub, Nat.reduceEqDiff]))
  exact Fin.ret1 (.inl rfl) rfl rfl rfl (Mem.sub.refl _) ⟨rfl, rfl⟩
end Go.Proofs.ScA
