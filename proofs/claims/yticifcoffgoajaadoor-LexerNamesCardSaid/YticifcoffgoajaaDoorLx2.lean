import Derived.Test.YticifcoffgoajaaDoorLx1
set_option linter.unusedVariables false
set_option linter.unusedSimpArgs false
set_option maxRecDepth 100000
namespace Go.Proofs.LxA
open Go Go.Am Go.Proofs
set_option linter.unusedSectionVars false
variable [Inhabited LaidBox]

def badAt (s : List UInt8) (i : Nat) : Bool := !signB (byteI s i) || (decide (0 < i) && decide (byteI s i = 45) && decide (byteI s (i - 1) = 45))
def badFrom (s : List UInt8) : Nat → Nat → Bool
  | 0, _ => false
  | n + 1, i => bif decide (i < s.length) then badAt s i || badFrom s n (i + 1) else false
def symM (s : List UInt8) : Bool :=
  bif decide (s = []) then false else
  bif beginsB (byteI s 0) then decide (compEnd s (s.length + 1) 0 = s.length) && !decide (s = [95]) && !decide (s ∈ kwL) else
  bif badFrom s (s.length + 1) 0 then false else
  bif fixedL.any (fun f => decide (f = s) && !decide (s = [43])) then false else decide (s.length ≤ 8)

theorem bad_loop (s : List UInt8) (hlen : s.length ≤ 1000000000) (M : Mem) (Q : AExit → St → Prop) : ∀ (n i : Nat), s.length - i < n → i ≤ s.length →
    (badFrom s n i = true → ∀ t, t[2]? = some (.v (.bool false)) → Q .ret { tmps := t, loc := [], rows := [], defs := [], M := M }) →
    (badFrom s n i = false → Q (.exit 0) { tmps := lp18_0 (.v (.str s)) (.v (.int .i64 (s.length : Int))), loc := [], rows := [], defs := [], M := M }) →
    CLoop none Tryd.prog tt esc18 cc18_l0 Q { tmps := lp18_0 (.v (.str s)) (.v (.int .i64 (i : Int))), loc := [], rows := [], defs := [], M := M } := by
  intro n
  induction n with
  | zero => intro i h0 h1 hQ1 hQ2; omega
  | succ n ih =>
    intro i h0 h1 hQ1 hQ2
    refine CLoop.unroll ?_
    generalize hK : CLoop none Tryd.prog tt esc18 cc18_l0 Q = K
    simp only [cc18_l0, lp18_0]
    repeat (first | refine CWp.seq ?_ | refine CWp.block ?_ | (refine CWp.ret ?_; try simp only [go_sem, Nat.reduceAdd, Nat.reduceLeDiff, Nat.reduceMul, Nat.reduceSub, Nat.reduceEqDiff]) | (refine CWp.skip ?_; try simp only [go_sem, Nat.reduceAdd, Nat.reduceLeDiff, Nat.reduceMul, Nat.reduceSub, Nat.reduceEqDiff]) | (refine CWp.reg tt_ok ?_; simp only [go_sem, Nat.reduceAdd, Nat.reduceLeDiff, Nat.reduceMul, Nat.reduceSub, Nat.reduceEqDiff]))
    refine CWp.cond rfl ?_ ?_ <;> intro hc
    · have hi : i < s.length := by simpa using hc
      simp only [badFrom, hi, decide_true, cond_true] at hQ1 hQ2
      refine CWp.skip ?_
      simp only [go_sem, Nat.reduceAdd, Nat.reduceLeDiff, Nat.reduceMul, Nat.reduceSub, Nat.reduceEqDiff]
      repeat (first | refine CWp.seq ?_ | refine CWp.block ?_ | (refine CWp.ret ?_; try simp only [go_sem, Nat.reduceAdd, Nat.reduceLeDiff, Nat.reduceMul, Nat.reduceSub, Nat.reduceEqDiff]) | (refine CWp.skip ?_; try simp only [go_sem, Nat.reduceAdd, Nat.reduceLeDiff, Nat.reduceMul, Nat.reduceSub, Nat.reduceEqDiff]) | (refine CWp.reg tt_ok ?_; simp only [go_sem, Nat.reduceAdd, Nat.reduceLeDiff, Nat.reduceMul, Nat.reduceSub, Nat.reduceEqDiff]))
      repeat (with_reducible refine And.intro (by first | exact True.intro | assumption | omega | (intros; omega) | (intro hg; simp only [Bool.and_eq_true, Bool.or_eq_true, decide_eq_true_eq, Bool.not_eq_true', decide_eq_false_iff_not] at hg; omega) | (simp only [decide_eq_true_eq, Bool.and_eq_true, Bool.or_eq_true, Bool.not_eq_true', decide_eq_false_iff_not]; omega) | (intros; simp_all; done) | (intros; simp_all; omega)) ?_)
      refine COps.pure has33 rfl rfl (by simp) (fun _ => sign_spec _) (evalC_sound tt_ok _ _ ?_)
      simp only [go_sem, Nat.reduceAdd, Nat.reduceLeDiff, Nat.reduceMul, Nat.reduceSub, Nat.reduceEqDiff]
      repeat (with_reducible refine And.intro (by first | exact True.intro | assumption | omega | (intros; omega) | (intro hg; simp only [Bool.and_eq_true, Bool.or_eq_true, decide_eq_true_eq, Bool.not_eq_true', decide_eq_false_iff_not] at hg; omega) | (simp only [decide_eq_true_eq, Bool.and_eq_true, Bool.or_eq_true, Bool.not_eq_true', decide_eq_false_iff_not]; omega) | (intros; simp_all; done) | (intros; simp_all; omega)) ?_)
      have hb : (((s.getD i 0).toNat : Nat) : Int) = byteI s i := rfl
      simp only [hb]
      have key : (!signB (byteI s i) || (decide ((0 : Int) < (i : Int)) && decide (byteI s i = 45) && decide ((((s.getD ((i : Int) - 1).toNat 0).toNat : Nat) : Int) = 45))) = badAt s i := by
        have e1 : ((i : Int) - 1).toNat = i - 1 := by omega
        rw [e1]
        unfold badAt
        congr 3
        exact decide_eq_decide.2 (by omega)
      simp only [key]
      refine CWp.cond rfl ?_ ?_ <;> intro hc2
      · repeat (first | refine CWp.seq ?_ | refine CWp.block ?_ | (refine CWp.ret ?_; try simp only [go_sem, Nat.reduceAdd, Nat.reduceLeDiff, Nat.reduceMul, Nat.reduceSub, Nat.reduceEqDiff]) | (refine CWp.skip ?_; try simp only [go_sem, Nat.reduceAdd, Nat.reduceLeDiff, Nat.reduceMul, Nat.reduceSub, Nat.reduceEqDiff]) | (refine CWp.reg tt_ok ?_; simp only [go_sem, Nat.reduceAdd, Nat.reduceLeDiff, Nat.reduceMul, Nat.reduceSub, Nat.reduceEqDiff]))
        exact hQ1 (by rw [hc2]; rfl) _ rfl
      · rw [hc2] at hQ1 hQ2
        simp only [Bool.false_or] at hQ1 hQ2
        repeat (first | refine CWp.seq ?_ | refine CWp.block ?_ | (refine CWp.ret ?_; try simp only [go_sem, Nat.reduceAdd, Nat.reduceLeDiff, Nat.reduceMul, Nat.reduceSub, Nat.reduceEqDiff]) | (refine CWp.skip ?_; try simp only [go_sem, Nat.reduceAdd, Nat.reduceLeDiff, Nat.reduceMul, Nat.reduceSub, Nat.reduceEqDiff]) | (refine CWp.reg tt_ok ?_; simp only [go_sem, Nat.reduceAdd, Nat.reduceLeDiff, Nat.reduceMul, Nat.reduceSub, Nat.reduceEqDiff]))
        repeat (with_reducible refine And.intro (by first | exact True.intro | assumption | omega | (intros; omega) | (intro hg; simp only [Bool.and_eq_true, Bool.or_eq_true, decide_eq_true_eq, Bool.not_eq_true', decide_eq_false_iff_not] at hg; omega) | (simp only [decide_eq_true_eq, Bool.and_eq_true, Bool.or_eq_true, Bool.not_eq_true', decide_eq_false_iff_not]; omega) | (intros; simp_all; done) | (intros; simp_all; omega)) ?_)
        rw [← hK]
        exact CLoop.junk (t := lp18_0 (.v (.str s)) (.v (.int .i64 ((i + 1 : Nat) : Int)))) (ih (i + 1) (by omega) (by omega) hQ1 hQ2) (by simp [Junked, lp18_0])
    · have hi : i = s.length := by simp at hc; omega
      subst hi
      simp only [badFrom, Nat.lt_irrefl, decide_false, cond_false] at hQ2
      exact CWp.junk (t := lp18_0 (.v (.str s)) (.v (.int .i64 (s.length : Int)))) (CWp.exit (hQ2 True.intro)) (by simp [Junked, lp18_0])

theorem fix_loop (l : List (List UInt8)) (s : List UInt8) (hlen : l.length ≤ 9223372036854775806) (M : Mem) (Q : AExit → St → Prop) : ∀ (n i : Nat), l.length - i < n → i ≤ l.length →
    ((l.drop i).any (fun f => decide (f = s) && !decide (s = [43])) = true → ∀ t, t[2]? = some (.v (.bool false)) → Q .ret { tmps := t, loc := [], rows := [], defs := [], M := M }) →
    ((l.drop i).any (fun f => decide (f = s) && !decide (s = [43])) = false → Q (.exit 2) { tmps := lp18_1 (.v (.str s)) (.v (.sl .full 1 (strs l))) (.v (.int .i64 (l.length : Int))), loc := [], rows := [], defs := [], M := M }) →
    CLoop none Tryd.prog tt esc18 cc18_l1 Q { tmps := lp18_1 (.v (.str s)) (.v (.sl .full 1 (strs l))) (.v (.int .i64 (i : Int))), loc := [], rows := [], defs := [], M := M } := by
  intro n
  induction n with
  | zero => intro i h0 h1 hQ1 hQ2; omega
  | succ n ih =>
    intro i h0 h1 hQ1 hQ2
    refine CLoop.unroll ?_
    generalize hK : CLoop none Tryd.prog tt esc18 cc18_l1 Q = K
    simp only [cc18_l1, lp18_1]
    repeat (first | refine CWp.seq ?_ | refine CWp.block ?_ | (refine CWp.ret ?_; try simp only [go_sem, Nat.reduceAdd, Nat.reduceLeDiff, Nat.reduceMul, Nat.reduceSub, Nat.reduceEqDiff]) | (refine CWp.skip ?_; try simp only [go_sem, Nat.reduceAdd, Nat.reduceLeDiff, Nat.reduceMul, Nat.reduceSub, Nat.reduceEqDiff]) | (refine CWp.reg tt_ok ?_; simp only [go_sem, Nat.reduceAdd, Nat.reduceLeDiff, Nat.reduceMul, Nat.reduceSub, Nat.reduceEqDiff]))
    simp only [strs_len]
    refine CWp.cond rfl ?_ ?_ <;> intro hc
    · have hi : i < l.length := by simpa using hc
      have hx := strs_at l i l[i] (List.getElem?_eq_getElem hi)
      rw [List.drop_eq_getElem_cons hi] at hQ1 hQ2
      simp only [List.any_cons] at hQ1 hQ2
      refine CWp.skip ?_
      simp only [go_sem, Nat.reduceAdd, Nat.reduceLeDiff, Nat.reduceMul, Nat.reduceSub, Nat.reduceEqDiff]
      refine CWp.seq ?_
      refine CWp.block ?_
      refine CWp.seq ?_
      refine CWp.reg tt_ok ?_
      simp only [go_sem, hx, strs_len]
      repeat (with_reducible refine And.intro (by first | exact True.intro | assumption | omega | (intros; omega) | (intro hg; simp only [Bool.and_eq_true, Bool.or_eq_true, decide_eq_true_eq, Bool.not_eq_true', decide_eq_false_iff_not] at hg; omega) | (simp only [decide_eq_true_eq, Bool.and_eq_true, Bool.or_eq_true, Bool.not_eq_true', decide_eq_false_iff_not]; omega) | (intros; simp_all; done) | (intros; simp_all; omega)) ?_)
      refine CWp.cond rfl ?_ ?_ <;> intro hc2
      · repeat (first | refine CWp.seq ?_ | refine CWp.block ?_ | (refine CWp.ret ?_; try simp only [go_sem, Nat.reduceAdd, Nat.reduceLeDiff, Nat.reduceMul, Nat.reduceSub, Nat.reduceEqDiff]) | (refine CWp.skip ?_; try simp only [go_sem, Nat.reduceAdd, Nat.reduceLeDiff, Nat.reduceMul, Nat.reduceSub, Nat.reduceEqDiff]) | (refine CWp.reg tt_ok ?_; simp only [go_sem, Nat.reduceAdd, Nat.reduceLeDiff, Nat.reduceMul, Nat.reduceSub, Nat.reduceEqDiff]))
        exact hQ1 (by rw [hc2]; rfl) _ rfl
      · rw [hc2] at hQ1 hQ2
        simp only [Bool.false_or] at hQ1 hQ2
        repeat (first | refine CWp.seq ?_ | refine CWp.block ?_ | (refine CWp.ret ?_; try simp only [go_sem, Nat.reduceAdd, Nat.reduceLeDiff, Nat.reduceMul, Nat.reduceSub, Nat.reduceEqDiff]) | (refine CWp.skip ?_; try simp only [go_sem, Nat.reduceAdd, Nat.reduceLeDiff, Nat.reduceMul, Nat.reduceSub, Nat.reduceEqDiff]) | (refine CWp.reg tt_ok ?_; simp only [go_sem, Nat.reduceAdd, Nat.reduceLeDiff, Nat.reduceMul, Nat.reduceSub, Nat.reduceEqDiff]))
        repeat (with_reducible refine And.intro (by first | exact True.intro | assumption | omega | (intros; omega) | (intro hg; simp only [Bool.and_eq_true, Bool.or_eq_true, decide_eq_true_eq, Bool.not_eq_true', decide_eq_false_iff_not] at hg; omega) | (simp only [decide_eq_true_eq, Bool.and_eq_true, Bool.or_eq_true, Bool.not_eq_true', decide_eq_false_iff_not]; omega) | (intros; simp_all; done) | (intros; simp_all; omega)) ?_)
        rw [← hK]
        exact CLoop.junk (t := lp18_1 (.v (.str s)) (.v (.sl .full 1 (strs l))) (.v (.int .i64 ((i + 1 : Nat) : Int)))) (ih (i + 1) (by omega) (by omega) hQ1 hQ2) (by simp [Junked, lp18_1])
    · have hi : i = l.length := by simp at hc; omega
      refine CWp.junk (t := lp18_1 (.v (.str s)) (.v (.sl .full 1 (strs l))) (.v (.int .i64 (l.length : Int)))) (CWp.exit (hQ2 ?_)) (by simp [Junked, lp18_1, hi])
      rw [hi]; simp

theorem symbol_spec (s : List UInt8) (hlen : s.length ≤ 1000000000) : Pure Tryd.prog 18 [.str s] (.bool (symM s)) := fun M => by
  refine enter18 _ ?_
  simp only [cc18]
  repeat (first | refine CWp.seq ?_ | refine CWp.block ?_ | (refine CWp.ret ?_; try simp only [go_sem, Nat.reduceAdd, Nat.reduceLeDiff, Nat.reduceMul, Nat.reduceSub, Nat.reduceEqDiff]) | (refine CWp.skip ?_; try simp only [go_sem, Nat.reduceAdd, Nat.reduceLeDiff, Nat.reduceMul, Nat.reduceSub, Nat.reduceEqDiff]) | (refine CWp.reg tt_ok ?_; simp only [go_sem, Nat.reduceAdd, Nat.reduceLeDiff, Nat.reduceMul, Nat.reduceSub, Nat.reduceEqDiff]))
  refine CWp.cond rfl ?_ ?_ <;> intro h1
  · repeat (first | refine CWp.seq ?_ | refine CWp.block ?_ | (refine CWp.ret ?_; try simp only [go_sem, Nat.reduceAdd, Nat.reduceLeDiff, Nat.reduceMul, Nat.reduceSub, Nat.reduceEqDiff]) | (refine CWp.skip ?_; try simp only [go_sem, Nat.reduceAdd, Nat.reduceLeDiff, Nat.reduceMul, Nat.reduceSub, Nat.reduceEqDiff]) | (refine CWp.reg tt_ok ?_; simp only [go_sem, Nat.reduceAdd, Nat.reduceLeDiff, Nat.reduceMul, Nat.reduceSub, Nat.reduceEqDiff]))
    have e : symM s = false := by simp only [symM, h1, cond_true]
    exact Fin.ret1 (.inl rfl) Tryd.results18 rfl rfl (Mem.sub.refl _) ⟨by rw [e], rfl⟩
  · have hpos : 0 < s.length := by
      cases s with
      | nil => simp at h1
      | cons a b => simp
    repeat (first | refine CWp.seq ?_ | refine CWp.block ?_ | (refine CWp.ret ?_; try simp only [go_sem, Nat.reduceAdd, Nat.reduceLeDiff, Nat.reduceMul, Nat.reduceSub, Nat.reduceEqDiff]) | (refine CWp.skip ?_; try simp only [go_sem, Nat.reduceAdd, Nat.reduceLeDiff, Nat.reduceMul, Nat.reduceSub, Nat.reduceEqDiff]) | (refine CWp.reg tt_ok ?_; simp only [go_sem, Nat.reduceAdd, Nat.reduceLeDiff, Nat.reduceMul, Nat.reduceSub, Nat.reduceEqDiff]))
    repeat (with_reducible refine And.intro (by first | exact True.intro | assumption | omega | (intros; omega) | (intro hg; simp only [Bool.and_eq_true, Bool.or_eq_true, decide_eq_true_eq, Bool.not_eq_true', decide_eq_false_iff_not] at hg; omega) | (simp only [decide_eq_true_eq, Bool.and_eq_true, Bool.or_eq_true, Bool.not_eq_true', decide_eq_false_iff_not]; omega) | (intros; simp_all; done) | (intros; simp_all; omega)) ?_)
    have hb : (((s.getD (0 : Int).toNat 0).toNat : Nat) : Int) = byteI s 0 := rfl
    simp only [hb]
    refine COps.pure has31 rfl rfl (by simp) (fun _ => begins_spec _) (evalC_sound tt_ok _ _ ?_)
    simp only [go_sem, Nat.reduceAdd, Nat.reduceLeDiff, Nat.reduceMul, Nat.reduceSub, Nat.reduceEqDiff]
    refine CWp.cond rfl ?_ ?_ <;> intro h2
    · repeat (first | refine CWp.seq ?_ | refine CWp.block ?_ | (refine CWp.ret ?_; try simp only [go_sem, Nat.reduceAdd, Nat.reduceLeDiff, Nat.reduceMul, Nat.reduceSub, Nat.reduceEqDiff]) | (refine CWp.skip ?_; try simp only [go_sem, Nat.reduceAdd, Nat.reduceLeDiff, Nat.reduceMul, Nat.reduceSub, Nat.reduceEqDiff]) | (refine CWp.reg tt_ok ?_; simp only [go_sem, Nat.reduceAdd, Nat.reduceLeDiff, Nat.reduceMul, Nat.reduceSub, Nat.reduceEqDiff]))
      have hcomp := component_spec s (by omega) 0 (by omega)
      refine COps.pure has32 rfl rfl (by simp) (fun _ => hcomp) (evalC_sound tt_ok _ _ ?_)
      simp only [go_sem, Nat.reduceAdd, Nat.reduceLeDiff, Nat.reduceMul, Nat.reduceSub, Nat.reduceEqDiff]
      refine COps.pure has16 rfl rfl (by simp) (fun _ => keyword_spec s) (evalC_sound tt_ok _ _ ?_)
      simp only [go_sem, Nat.reduceAdd, Nat.reduceLeDiff, Nat.reduceMul, Nat.reduceSub, Nat.reduceEqDiff]
      repeat (with_reducible refine And.intro (by first | exact True.intro | assumption | omega | (intros; omega) | (intro hg; simp only [Bool.and_eq_true, Bool.or_eq_true, decide_eq_true_eq, Bool.not_eq_true', decide_eq_false_iff_not] at hg; omega) | (simp only [decide_eq_true_eq, Bool.and_eq_true, Bool.or_eq_true, Bool.not_eq_true', decide_eq_false_iff_not]; omega) | (intros; simp_all; done) | (intros; simp_all; omega)) ?_)
      repeat (first | refine CWp.seq ?_ | refine CWp.block ?_ | (refine CWp.ret ?_; try simp only [go_sem, Nat.reduceAdd, Nat.reduceLeDiff, Nat.reduceMul, Nat.reduceSub, Nat.reduceEqDiff]) | (refine CWp.skip ?_; try simp only [go_sem, Nat.reduceAdd, Nat.reduceLeDiff, Nat.reduceMul, Nat.reduceSub, Nat.reduceEqDiff]) | (refine CWp.reg tt_ok ?_; simp only [go_sem, Nat.reduceAdd, Nat.reduceLeDiff, Nat.reduceMul, Nat.reduceSub, Nat.reduceEqDiff]))
      have e : symM s = (decide (((compEnd s (s.length + 1) 0 : Nat) : Int) = (s.length : Int)) && !decide (s = [95]) && !decide (s ∈ kwL)) := by
        simp only [symM, h1, h2, cond_true, cond_false]
        congr 2
        exact decide_eq_decide.2 (by omega)
      exact Fin.ret1 (.inl rfl) Tryd.results18 rfl rfl (Mem.sub.refl _) ⟨by rw [e], rfl⟩
    · repeat (first | refine CWp.seq ?_ | refine CWp.block ?_ | (refine CWp.ret ?_; try simp only [go_sem, Nat.reduceAdd, Nat.reduceLeDiff, Nat.reduceMul, Nat.reduceSub, Nat.reduceEqDiff]) | (refine CWp.skip ?_; try simp only [go_sem, Nat.reduceAdd, Nat.reduceLeDiff, Nat.reduceMul, Nat.reduceSub, Nat.reduceEqDiff]) | (refine CWp.reg tt_ok ?_; simp only [go_sem, Nat.reduceAdd, Nat.reduceLeDiff, Nat.reduceMul, Nat.reduceSub, Nat.reduceEqDiff]))
      refine CWp.loop (CLoop.junk (t := lp18_0 (.v (.str s)) (.v (.int .i64 ((0 : Nat) : Int)))) (bad_loop s hlen M _ (s.length + 1) 0 (by omega) (by omega) ?_ ?_) (by simp [Junked, lp18_0]))
      · intro h3 t ht
        simp only [go_sem, Nat.reduceAdd, Nat.reduceLeDiff, Nat.reduceMul, Nat.reduceSub, Nat.reduceEqDiff]
        have e : symM s = false := by simp only [symM, h1, h2, h3, cond_true, cond_false]
        exact Fin.ret1 (.inl rfl) Tryd.results18 rfl (by rw [ht]; rfl) (Mem.sub.refl _) ⟨by rw [e], rfl⟩
      · intro h3
        simp only [go_sem, lp18_0]
        repeat (first | refine CWp.seq ?_ | refine CWp.block ?_ | (refine CWp.ret ?_; try simp only [go_sem, Nat.reduceAdd, Nat.reduceLeDiff, Nat.reduceMul, Nat.reduceSub, Nat.reduceEqDiff]) | (refine CWp.skip ?_; try simp only [go_sem, Nat.reduceAdd, Nat.reduceLeDiff, Nat.reduceMul, Nat.reduceSub, Nat.reduceEqDiff]) | (refine CWp.reg tt_ok ?_; simp only [go_sem, Nat.reduceAdd, Nat.reduceLeDiff, Nat.reduceMul, Nat.reduceSub, Nat.reduceEqDiff]))
        refine COps.pure has34 rfl rfl (by simp) (fun _ => fixed_spec) (evalC_sound tt_ok _ _ ?_)
        simp only [go_sem, Nat.reduceAdd, Nat.reduceLeDiff, Nat.reduceMul, Nat.reduceSub, Nat.reduceEqDiff]
        repeat (first | refine CWp.seq ?_ | refine CWp.block ?_ | (refine CWp.ret ?_; try simp only [go_sem, Nat.reduceAdd, Nat.reduceLeDiff, Nat.reduceMul, Nat.reduceSub, Nat.reduceEqDiff]) | (refine CWp.skip ?_; try simp only [go_sem, Nat.reduceAdd, Nat.reduceLeDiff, Nat.reduceMul, Nat.reduceSub, Nat.reduceEqDiff]) | (refine CWp.reg tt_ok ?_; simp only [go_sem, Nat.reduceAdd, Nat.reduceLeDiff, Nat.reduceMul, Nat.reduceSub, Nat.reduceEqDiff]))
        refine CWp.loop (CLoop.junk (t := lp18_1 (.v (.str s)) (.v (.sl .full 1 (strs fixedL))) (.v (.int .i64 ((0 : Nat) : Int)))) (fix_loop fixedL s (by decide) M _ (fixedL.length + 1) 0 (by omega) (by omega) ?_ ?_) (by simp [Junked, lp18_1]))
        · intro h4 t ht
          simp only [go_sem, Nat.reduceAdd, Nat.reduceLeDiff, Nat.reduceMul, Nat.reduceSub, Nat.reduceEqDiff]
          rw [List.drop_zero] at h4
          have e : symM s = false := by simp only [symM, h1, h2, h3, h4, cond_true, cond_false]
          exact Fin.ret1 (.inl rfl) Tryd.results18 rfl (by rw [ht]; rfl) (Mem.sub.refl _) ⟨by rw [e], rfl⟩
        · intro h4
          rw [List.drop_zero] at h4
          simp only [go_sem, lp18_1]
          repeat (first | refine CWp.seq ?_ | refine CWp.block ?_ | (refine CWp.ret ?_; try simp only [go_sem, Nat.reduceAdd, Nat.reduceLeDiff, Nat.reduceMul, Nat.reduceSub, Nat.reduceEqDiff]) | (refine CWp.skip ?_; try simp only [go_sem, Nat.reduceAdd, Nat.reduceLeDiff, Nat.reduceMul, Nat.reduceSub, Nat.reduceEqDiff]) | (refine CWp.reg tt_ok ?_; simp only [go_sem, Nat.reduceAdd, Nat.reduceLeDiff, Nat.reduceMul, Nat.reduceSub, Nat.reduceEqDiff]))
          have e : symM s = decide ((s.length : Int) ≤ 8) := by
            simp only [symM, h1, h2, h3, h4, cond_false]
            exact decide_eq_decide.2 (by omega)
          exact Fin.ret1 (.inl rfl) Tryd.results18 rfl rfl (Mem.sub.refl _) ⟨by rw [e], rfl⟩
end Go.Proofs.LxA
set_option linter.unusedVariables false
set_option linter.unusedSimpArgs false
set_option maxRecDepth 100000
namespace Go.Proofs.LxA
open Go Go.Am Go.Proofs
set_option linter.unusedSectionVars false
variable [Inhabited LaidBox]

theorem compEnd_begins (s : List UInt8) (at_ : Nat) (h : at_ < s.length) (hb : beginsB (byteI s at_) = true) : at_ < compEnd s (s.length + 1) at_ := by
  simp only [compEnd]
  rw [if_pos ⟨h, by simp [isComp, hb]⟩]
  have := compEnd_le s s.length (at_ + 1) (by omega)
  omega

/-- What a token takes. -/
theorem oneM_ok (s : List UInt8) (at_ : Nat) (sy : List (List UInt8)) (h : at_ < s.length) (he : (oneM s at_ sy).2.2 = 0) : at_ < (oneM s at_ sy).2.1 ∧ (oneM s at_ sy).2.1 ≤ s.length := by
  have hn := nameEnd_le s at_ (by omega)
  have hd := digEnd_le s (s.length + 1) at_ (by omega)
  have hq := quoEnd_le s (s.length + 1) (at_ + 1) (by omega)
  have hl := longestM_le s at_ (fixedL ++ sy) (by omega)
  unfold oneM at he ⊢
  cases h1 : beginsB (byteI s at_) with
  | true =>
    have hc := compEnd_begins s at_ h h1
    have hc2 := compEnd_le s (s.length + 1) at_ (by omega)
    have hn2 := nameLoop_le s (s.length + 1) (compEnd s (s.length + 1) at_) (by omega)
    have hn3 : at_ < nameEnd s at_ := by unfold nameEnd; omega
    simp only [h1, cond_true] at he ⊢
    cases h2 : decide (nameEnd s at_ - at_ > 64) with
    | true => simp [h2] at he
    | false =>
      simp only [h2, cond_false] at he ⊢
      cases h3 : decide (slice s at_ (nameEnd s at_) = [95]) || decide (slice s at_ (nameEnd s at_) ∈ sy) with
      | true => simp only [h3, cond_true]; omega
      | false =>
        simp only [h3, cond_false]
        cases h4 : decide (slice s at_ (nameEnd s at_) ∈ kwL) <;> simp only [h4, cond_true, cond_false] <;> omega
  | false =>
    simp only [h1, cond_false] at he ⊢
    cases h2 : digitB (byteI s at_) with
    | true =>
      have hd2 : at_ < digEnd s (s.length + 1) at_ := by
        have ha : digAt s at_ = true := by simp [digAt, h, h2]
        have := digEnd_le s s.length (at_ + 1) (by omega)
        simp only [digEnd, ha, cond_true]
        omega
      simp only [h2, cond_true] at he ⊢
      generalize digEnd s (s.length + 1) at_ = to_ at *
      cases h3 : decide (to_ - at_ > 6) with
      | true => simp [h3] at he
      | false =>
        simp only [h3, cond_false] at he ⊢
        cases h4 : decide (to_ - at_ > 1) && decide (byteI s at_ = 48) with
        | true => simp [h4] at he
        | false =>
          simp only [h4, cond_false] at he ⊢
          cases h5 : decide (to_ < s.length) && (beginsB (byteI s to_) || decide (byteI s to_ = 39)) with
          | true => simp [h5] at he
          | false => simp only [h5, cond_false]; omega
    | false =>
      simp only [h2, cond_false] at he ⊢
      cases h3 : decide (byteI s at_ = 34) with
      | true =>
        simp only [h3, cond_true] at he ⊢
        generalize quoEnd s (s.length + 1) (at_ + 1) = to_ at *
        cases h4 : decide (to_ = s.length) || !decide (byteI s to_ = 34) with
        | true => simp [h4] at he
        | false =>
          simp only [h4, cond_false]
          simp only [Bool.or_eq_false_iff, decide_eq_false_iff_not] at h4
          omega
      | false =>
        simp only [h3, cond_false] at he ⊢
        generalize longestM s at_ (fixedL ++ sy) = n at *
        cases h4 : decide (n = 0) with
        | true => simp [h4] at he
        | false =>
          simp only [h4, cond_false]
          simp only [decide_eq_false_iff_not] at h4
          omega

theorem skipM_le (s : List UInt8) : ∀ (n at_ : Nat), at_ ≤ s.length → at_ ≤ skipM s n at_ ∧ skipM s n at_ ≤ s.length
  | 0, at_, h => ⟨Nat.le_refl _, h⟩
  | n + 1, at_, h => by
    simp only [skipM]
    cases h1 : decide (at_ < s.length) with
    | false => simp only [cond_false]; omega
    | true =>
      simp only [decide_eq_true_eq] at h1
      simp only [cond_true]
      cases h2 : spaceB (byteI s at_) with
      | true =>
        simp only [cond_true]
        have := skipM_le s n (at_ + 1) (by omega)
        omega
      | false =>
        simp only [cond_false]
        cases h3 : dashB s at_ with
        | false => simp only [cond_false]; omega
        | true =>
          simp only [cond_true]
          have h4 := lineEnd_le s (s.length + 1) at_ h
          have := skipM_le s n _ h4.2
          omega
end Go.Proofs.LxA
set_option linter.unusedVariables false
set_option linter.unusedSimpArgs false
set_option maxRecDepth 100000
namespace Go.Proofs.LxA
open Go Go.Am Go.Proofs
set_option linter.unusedSectionVars false
variable [Inhabited LaidBox]

abbrev Tok := Nat × List UInt8 × Nat
def tokA (t : Tok) : AV := .agg [.int .i64 (t.1 : Int), .str t.2.1, .int .i64 (t.2.2 : Int)]
def toks (l : List Tok) : List AV := l.map tokA
theorem toks_len (l : List Tok) : (toks l).length = l.length := by simp [toks]

def scanL (s : List UInt8) (sy : List (List UInt8)) : Nat → Nat → List Tok → List Tok × Nat × Nat
  | 0, _, acc => (acc, 0, 0)
  | n + 1, at_, acc => bif decide (at_ < s.length) then
      (bif decide ((oneM s at_ sy).2.2 = 0) then scanL s sy n (skipM s (s.length + 1) (oneM s at_ sy).2.1) (acc ++ [((oneM s at_ sy).1, slice s at_ (oneM s at_ sy).2.1, at_)])
       else ([], (oneM s at_ sy).2.1, (oneM s at_ sy).2.2))
    else (acc ++ [(4, [], s.length)], 0, 0)
def scanM (s : List UInt8) (sy : List (List UInt8)) : List Tok × Nat × Nat :=
  bif sy.any (fun x => !symM x) then ([], 0, 1) else
  bif decide (s.length > 65536) then ([], 0, 5) else scanL s sy (s.length + 1) (skipM s (s.length + 1) 0) []
theorem scanL_err (s : List UInt8) (sy : List (List UInt8)) : ∀ (n at_ : Nat) (acc : List Tok), (scanL s sy n at_ acc).2.2 ≠ 0 → (scanL s sy n at_ acc).1 = []
  | 0, at_, acc, h => absurd rfl h
  | n + 1, at_, acc, h => by
    simp only [scanL] at h ⊢
    cases h1 : decide (at_ < s.length) with
    | false => simp [h1] at h
    | true =>
      simp only [h1, cond_true] at h ⊢
      cases h2 : decide ((oneM s at_ sy).2.2 = 0) with
      | false => rfl
      | true =>
        simp only [h2, cond_true] at h ⊢
        exact scanL_err s sy n _ _ h
def ownE (e : Nat) : Own := bif decide (e = 0) then .no else .full
def scanA (x : List Tok × Nat × Nat) : AV := .tup [.sl (ownE x.2.2) 3 (toks x.1), .int .i64 (x.2.1 : Int), .int .i64 (x.2.2 : Int)]

theorem syms_loop (own : Own) (l : List (List UInt8)) (s : List UInt8) (hx : ∀ x ∈ l, x.length ≤ 1000000) (hlen : l.length ≤ 1000000) (M : Mem) (Q : AExit → St → Prop) : ∀ (n i : Nat), l.length - i < n → i ≤ l.length →
    ((l.drop i).any (fun x => !symM x) = true → ∀ t, t[4]? = some (.v (.sl .full 3 [])) → t[5]? = some (.v (.int .i64 0)) → t[6]? = some (.v (.int .i64 1)) → Q .ret { tmps := t, loc := [], rows := [], defs := [], M := M }) →
    ((l.drop i).any (fun x => !symM x) = false → Q (.exit 0) { tmps := lp13_0 (.v (.str s)) (.v (.sl own 1 (strs l))) (.v (.int .i64 (l.length : Int))), loc := [], rows := [], defs := [], M := M }) →
    CLoop none Tryd.prog tt esc13 cc13_l0 Q { tmps := lp13_0 (.v (.str s)) (.v (.sl own 1 (strs l))) (.v (.int .i64 (i : Int))), loc := [], rows := [], defs := [], M := M } := by
  intro n
  induction n with
  | zero => intro i h0 h1 hQ1 hQ2; omega
  | succ n ih =>
    intro i h0 h1 hQ1 hQ2
    refine CLoop.unroll ?_
    generalize hK : CLoop none Tryd.prog tt esc13 cc13_l0 Q = K
    simp only [cc13_l0, lp13_0]
    repeat (first | refine CWp.seq ?_ | refine CWp.block ?_ | (refine CWp.ret ?_; try simp only [go_sem, Nat.reduceAdd, Nat.reduceLeDiff, Nat.reduceMul, Nat.reduceSub, Nat.reduceEqDiff]) | (refine CWp.skip ?_; try simp only [go_sem, Nat.reduceAdd, Nat.reduceLeDiff, Nat.reduceMul, Nat.reduceSub, Nat.reduceEqDiff]) | (refine CWp.reg tt_ok ?_; simp only [go_sem, Nat.reduceAdd, Nat.reduceLeDiff, Nat.reduceMul, Nat.reduceSub, Nat.reduceEqDiff]))
    simp only [strs_len]
    refine CWp.cond rfl ?_ ?_ <;> intro hc
    · have hi : i < l.length := by simpa using hc
      have hxi := hx l[i] (List.getElem_mem hi)
      have hxx := strs_at l i l[i] (List.getElem?_eq_getElem hi)
      rw [List.drop_eq_getElem_cons hi] at hQ1 hQ2
      simp only [List.any_cons] at hQ1 hQ2
      refine CWp.skip ?_
      simp only [go_sem, Nat.reduceAdd, Nat.reduceLeDiff, Nat.reduceMul, Nat.reduceSub, Nat.reduceEqDiff]
      refine CWp.seq ?_
      refine CWp.block ?_
      refine CWp.seq ?_
      refine CWp.reg tt_ok ?_
      simp only [go_sem, hxx, strs_len]
      repeat (with_reducible refine And.intro (by first | exact True.intro | assumption | omega | (intros; omega) | (intro hg; simp only [Bool.and_eq_true, Bool.or_eq_true, decide_eq_true_eq, Bool.not_eq_true', decide_eq_false_iff_not] at hg; omega) | (simp only [decide_eq_true_eq, Bool.and_eq_true, Bool.or_eq_true, Bool.not_eq_true', decide_eq_false_iff_not]; omega) | (intros; simp_all; done) | (intros; simp_all; omega)) ?_)
      refine COps.pure has18 rfl rfl (by simp) (fun _ => symbol_spec l[i] (by omega)) (evalC_sound tt_ok _ _ ?_)
      simp only [go_sem, Nat.reduceAdd, Nat.reduceLeDiff, Nat.reduceMul, Nat.reduceSub, Nat.reduceEqDiff]
      refine CWp.cond rfl ?_ ?_ <;> intro hc2
      · repeat (first | refine CWp.seq ?_ | refine CWp.block ?_ | (refine CWp.ret ?_; try simp only [go_sem, Nat.reduceAdd, Nat.reduceLeDiff, Nat.reduceMul, Nat.reduceSub, Nat.reduceEqDiff]) | (refine CWp.skip ?_; try simp only [go_sem, Nat.reduceAdd, Nat.reduceLeDiff, Nat.reduceMul, Nat.reduceSub, Nat.reduceEqDiff]) | (refine CWp.reg tt_ok ?_; simp only [go_sem, Nat.reduceAdd, Nat.reduceLeDiff, Nat.reduceMul, Nat.reduceSub, Nat.reduceEqDiff]))
        exact hQ1 (by rw [hc2]; rfl) _ rfl rfl rfl
      · rw [hc2] at hQ1 hQ2
        simp only [Bool.false_or] at hQ1 hQ2
        repeat (first | refine CWp.seq ?_ | refine CWp.block ?_ | (refine CWp.ret ?_; try simp only [go_sem, Nat.reduceAdd, Nat.reduceLeDiff, Nat.reduceMul, Nat.reduceSub, Nat.reduceEqDiff]) | (refine CWp.skip ?_; try simp only [go_sem, Nat.reduceAdd, Nat.reduceLeDiff, Nat.reduceMul, Nat.reduceSub, Nat.reduceEqDiff]) | (refine CWp.reg tt_ok ?_; simp only [go_sem, Nat.reduceAdd, Nat.reduceLeDiff, Nat.reduceMul, Nat.reduceSub, Nat.reduceEqDiff]))
        repeat (with_reducible refine And.intro (by first | exact True.intro | assumption | omega | (intros; omega) | (intro hg; simp only [Bool.and_eq_true, Bool.or_eq_true, decide_eq_true_eq, Bool.not_eq_true', decide_eq_false_iff_not] at hg; omega) | (simp only [decide_eq_true_eq, Bool.and_eq_true, Bool.or_eq_true, Bool.not_eq_true', decide_eq_false_iff_not]; omega) | (intros; simp_all; done) | (intros; simp_all; omega)) ?_)
        rw [← hK]
        exact CLoop.junk (t := lp13_0 (.v (.str s)) (.v (.sl own 1 (strs l))) (.v (.int .i64 ((i + 1 : Nat) : Int)))) (ih (i + 1) (by omega) (by omega) hQ1 hQ2) (by simp [Junked, lp13_0])
    · have hi : i = l.length := by simp at hc; omega
      refine CWp.junk (t := lp13_0 (.v (.str s)) (.v (.sl own 1 (strs l))) (.v (.int .i64 (l.length : Int)))) (CWp.exit (hQ2 ?_)) (by simp [Junked, lp13_0, hi])
      rw [hi]; simp

theorem scan_loop (own : Own) (sy : List (List UInt8)) (s : List UInt8) (hs : s.length ≤ 65536) (hx : ∀ x ∈ sy, x.length ≤ 1000000) (hlen : sy.length ≤ 1000000) (M : Mem) (Q : AExit → St → Prop) : ∀ (n at_ : Nat) (acc : List Tok), s.length - at_ < n → at_ ≤ s.length → acc.length ≤ at_ →
    ((scanL s sy n at_ acc).2.2 ≠ 0 → ∀ t rows, t[4]? = some (.v (.sl .full 3 [])) → t[5]? = some (.v (.int .i64 ((scanL s sy n at_ acc).2.1 : Int))) → t[6]? = some (.v (.int .i64 ((scanL s sy n at_ acc).2.2 : Int))) → Q .ret { tmps := t, loc := [], rows := rows, defs := [], M := M }) →
    ((scanL s sy n at_ acc).2.2 = 0 → ∀ acc', (scanL s sy n at_ acc).1 = acc' ++ [(4, [], s.length)] → (scanL s sy n at_ acc).2.1 = 0 → acc'.length ≤ s.length → Q (.exit 2) { tmps := lp13_1 (.v (.str s)) (.v (.sl own 1 (strs sy))) (.lsl 0 3 (toks acc')) (.v (.int .i64 (s.length : Int))), loc := [], rows := [(35, 3, acc'.length)], defs := [], M := M }) →
    CLoop none Tryd.prog tt esc13 cc13_l1 Q { tmps := lp13_1 (.v (.str s)) (.v (.sl own 1 (strs sy))) (.lsl 0 3 (toks acc)) (.v (.int .i64 (at_ : Int))), loc := [], rows := [(35, 3, acc.length)], defs := [], M := M } := by
  intro n
  induction n with
  | zero => intro at_ acc h0 h1 h2 hQ1 hQ2; omega
  | succ n ih =>
    intro at_ acc h0 h1 h2 hQ1 hQ2
    refine CLoop.unroll ?_
    generalize hK : CLoop none Tryd.prog tt esc13 cc13_l1 Q = K
    simp only [cc13_l1, lp13_1]
    repeat (first | refine CWp.seq ?_ | refine CWp.block ?_ | (refine CWp.ret ?_; try simp only [go_sem, Nat.reduceAdd, Nat.reduceLeDiff, Nat.reduceMul, Nat.reduceSub, Nat.reduceEqDiff]) | (refine CWp.skip ?_; try simp only [go_sem, Nat.reduceAdd, Nat.reduceLeDiff, Nat.reduceMul, Nat.reduceSub, Nat.reduceEqDiff]) | (refine CWp.reg tt_ok ?_; simp only [go_sem, Nat.reduceAdd, Nat.reduceLeDiff, Nat.reduceMul, Nat.reduceSub, Nat.reduceEqDiff]))
    refine CWp.cond rfl ?_ ?_ <;> intro hc
    · have hlt : at_ < s.length := by simpa using hc
      simp only [scanL, hlt, decide_true, cond_true] at hQ1 hQ2
      refine CWp.skip ?_
      simp only [go_sem, Nat.reduceAdd, Nat.reduceLeDiff, Nat.reduceMul, Nat.reduceSub, Nat.reduceEqDiff]
      repeat (first | refine CWp.seq ?_ | refine CWp.block ?_ | (refine CWp.ret ?_; try simp only [go_sem, Nat.reduceAdd, Nat.reduceLeDiff, Nat.reduceMul, Nat.reduceSub, Nat.reduceEqDiff]) | (refine CWp.skip ?_; try simp only [go_sem, Nat.reduceAdd, Nat.reduceLeDiff, Nat.reduceMul, Nat.reduceSub, Nat.reduceEqDiff]) | (refine CWp.reg tt_ok ?_; simp only [go_sem, Nat.reduceAdd, Nat.reduceLeDiff, Nat.reduceMul, Nat.reduceSub, Nat.reduceEqDiff]))
      refine COps.pure has28 rfl rfl (by simp) (fun _ => one_spec own s at_ sy hlt (by omega) hx hlen) (evalC_sound tt_ok _ _ ?_)
      have hok := oneM_ok s at_ sy hlt
      generalize oneM s at_ sy = r at *
      obtain ⟨kd, to_, er⟩ := r
      simp only [go_sem, tup3]
      repeat (first | refine CWp.seq ?_ | refine CWp.block ?_ | (refine CWp.ret ?_; try simp only [go_sem, Nat.reduceAdd, Nat.reduceLeDiff, Nat.reduceMul, Nat.reduceSub, Nat.reduceEqDiff]) | (refine CWp.skip ?_; try simp only [go_sem, Nat.reduceAdd, Nat.reduceLeDiff, Nat.reduceMul, Nat.reduceSub, Nat.reduceEqDiff]) | (refine CWp.reg tt_ok ?_; simp only [go_sem, Nat.reduceAdd, Nat.reduceLeDiff, Nat.reduceMul, Nat.reduceSub, Nat.reduceEqDiff]))
      have k1 : decide ((er : Int) = 0) = decide (er = 0) := decide_eq_decide.2 (by omega)
      simp only [k1]
      refine CWp.cond rfl ?_ ?_ <;> intro he
      · simp only [Bool.not_eq_true'] at he
        simp only [he, cond_false] at hQ1 hQ2
        repeat (first | refine CWp.seq ?_ | refine CWp.block ?_ | (refine CWp.ret ?_; try simp only [go_sem, Nat.reduceAdd, Nat.reduceLeDiff, Nat.reduceMul, Nat.reduceSub, Nat.reduceEqDiff]) | (refine CWp.skip ?_; try simp only [go_sem, Nat.reduceAdd, Nat.reduceLeDiff, Nat.reduceMul, Nat.reduceSub, Nat.reduceEqDiff]) | (refine CWp.reg tt_ok ?_; simp only [go_sem, Nat.reduceAdd, Nat.reduceLeDiff, Nat.reduceMul, Nat.reduceSub, Nat.reduceEqDiff]))
        exact hQ1 (by simpa using he) _ _ rfl rfl rfl
      · have he0 : er = 0 := by simpa using he
        subst he0
        obtain ⟨ht1, ht2⟩ := hok rfl
        simp only [decide_true, cond_true] at hQ1 hQ2
        repeat (first | refine CWp.seq ?_ | refine CWp.block ?_ | (refine CWp.ret ?_; try simp only [go_sem, Nat.reduceAdd, Nat.reduceLeDiff, Nat.reduceMul, Nat.reduceSub, Nat.reduceEqDiff]) | (refine CWp.skip ?_; try simp only [go_sem, Nat.reduceAdd, Nat.reduceLeDiff, Nat.reduceMul, Nat.reduceSub, Nat.reduceEqDiff]) | (refine CWp.reg tt_ok ?_; simp only [go_sem, Nat.reduceAdd, Nat.reduceLeDiff, Nat.reduceMul, Nat.reduceSub, Nat.reduceEqDiff]))
        repeat (with_reducible refine And.intro (by first | exact True.intro | assumption | omega | (intros; omega) | (intro hg; simp only [Bool.and_eq_true, Bool.or_eq_true, decide_eq_true_eq, Bool.not_eq_true', decide_eq_false_iff_not] at hg; omega) | (simp only [decide_eq_true_eq, Bool.and_eq_true, Bool.or_eq_true, Bool.not_eq_true', decide_eq_false_iff_not]; omega) | (intros; simp_all; done) | (intros; simp_all; omega)) ?_)
        have hta : at_ < to_ := ht1
        have htb : to_ ≤ s.length := ht2
        have hk := skipM_le s (s.length + 1) to_ htb
        simp only [toks_len]
        refine ⟨by simp; omega, ?_⟩
        repeat (first | refine CWp.seq ?_ | refine CWp.block ?_ | (refine CWp.ret ?_; try simp only [go_sem, Nat.reduceAdd, Nat.reduceLeDiff, Nat.reduceMul, Nat.reduceSub, Nat.reduceEqDiff]) | (refine CWp.skip ?_; try simp only [go_sem, Nat.reduceAdd, Nat.reduceLeDiff, Nat.reduceMul, Nat.reduceSub, Nat.reduceEqDiff]) | (refine CWp.reg tt_ok ?_; simp only [go_sem, Nat.reduceAdd, Nat.reduceLeDiff, Nat.reduceMul, Nat.reduceSub, Nat.reduceEqDiff]))
        refine COps.pure has27 rfl rfl (by simp) (fun _ => skip_spec s (by omega) to_ htb) (evalC_sound tt_ok _ _ ?_)
        simp only [go_sem, Nat.reduceAdd, Nat.reduceLeDiff, Nat.reduceMul, Nat.reduceSub, Nat.reduceEqDiff]
        have e1 : toks acc ++ [AV.agg [AV.int IntKind.i64 (kd : Int), AV.str (List.drop at_ (List.take to_ s)), AV.int IntKind.i64 (at_ : Int)]] = toks (acc ++ [(kd, slice s at_ to_, at_)]) := by simp [toks, tokA, slice]
        rw [e1]
        have e2 : acc.length + 1 = (acc ++ [(kd, slice s at_ to_, at_)]).length := by simp
        rw [e2]
        rw [← hK]
        exact CLoop.junk (t := lp13_1 (.v (.str s)) (.v (.sl own 1 (strs sy))) (.lsl 0 3 (toks (acc ++ [(kd, slice s at_ to_, at_)]))) (.v (.int .i64 ((skipM s (s.length + 1) to_ : Nat) : Int)))) (ih _ _ (by omega) (by omega) (by simp; omega) hQ1 hQ2) (by simp [Junked, lp13_1])
    · have hge : ¬ at_ < s.length := by simpa using hc
      have hate : at_ = s.length := by omega
      subst hate
      simp only [scanL, hge, decide_false, cond_false] at hQ2
      exact CWp.junk (t := lp13_1 (.v (.str s)) (.v (.sl own 1 (strs sy))) (.lsl 0 3 (toks acc)) (.v (.int .i64 (s.length : Int)))) (CWp.exit (hQ2 True.intro acc rfl True.intro (by omega))) (by simp [Junked, lp13_1])

theorem scan_spec (own : Own) (s : List UInt8) (sy : List (List UInt8)) (hs : s.length ≤ 1000000) (hx : ∀ x ∈ sy, x.length ≤ 1000000) (hlen : sy.length ≤ 1000000) :
    Pure Tryd.prog 13 [.str s, .sl own 1 (strs sy)] (scanA (scanM s sy)) := fun M => by
  refine enter13 _ _ ?_
  simp only [cc13]
  repeat (first | refine CWp.seq ?_ | refine CWp.block ?_ | (refine CWp.ret ?_; try simp only [go_sem, Nat.reduceAdd, Nat.reduceLeDiff, Nat.reduceMul, Nat.reduceSub, Nat.reduceEqDiff]) | (refine CWp.skip ?_; try simp only [go_sem, Nat.reduceAdd, Nat.reduceLeDiff, Nat.reduceMul, Nat.reduceSub, Nat.reduceEqDiff]) | (refine CWp.reg tt_ok ?_; simp only [go_sem, Nat.reduceAdd, Nat.reduceLeDiff, Nat.reduceMul, Nat.reduceSub, Nat.reduceEqDiff]))
  refine CWp.loop (CLoop.junk (t := lp13_0 (.v (.str s)) (.v (.sl own 1 (strs sy))) (.v (.int .i64 ((0 : Nat) : Int)))) (syms_loop own sy s hx hlen M _ (sy.length + 1) 0 (by omega) (by omega) ?_ ?_) (by simp [Junked, lp13_0]))
  · intro h1 t ht4 ht5 ht6
    rw [List.drop_zero] at h1
    simp only [go_sem, Nat.reduceAdd, Nat.reduceLeDiff, Nat.reduceMul, Nat.reduceSub, Nat.reduceEqDiff]
    have e : scanM s sy = ([], 0, 1) := by simp only [scanM, h1, cond_true]
    exact Fin.ret3 (.inl rfl) Tryd.results13 rfl (by rw [ht4]; rfl) (by rw [ht5]; rfl) (by rw [ht6]; rfl) (Mem.sub.refl _) ⟨by rw [e]; rfl, rfl⟩
  · intro h1
    rw [List.drop_zero] at h1
    simp only [go_sem, lp13_0]
    repeat (first | refine CWp.seq ?_ | refine CWp.block ?_ | (refine CWp.ret ?_; try simp only [go_sem, Nat.reduceAdd, Nat.reduceLeDiff, Nat.reduceMul, Nat.reduceSub, Nat.reduceEqDiff]) | (refine CWp.skip ?_; try simp only [go_sem, Nat.reduceAdd, Nat.reduceLeDiff, Nat.reduceMul, Nat.reduceSub, Nat.reduceEqDiff]) | (refine CWp.reg tt_ok ?_; simp only [go_sem, Nat.reduceAdd, Nat.reduceLeDiff, Nat.reduceMul, Nat.reduceSub, Nat.reduceEqDiff]))
    have k1 : decide ((65536 : Int) < (s.length : Int)) = decide (s.length > 65536) := decide_eq_decide.2 (by omega)
    simp only [k1]
    refine CWp.cond rfl ?_ ?_ <;> intro h2
    · repeat (first | refine CWp.seq ?_ | refine CWp.block ?_ | (refine CWp.ret ?_; try simp only [go_sem, Nat.reduceAdd, Nat.reduceLeDiff, Nat.reduceMul, Nat.reduceSub, Nat.reduceEqDiff]) | (refine CWp.skip ?_; try simp only [go_sem, Nat.reduceAdd, Nat.reduceLeDiff, Nat.reduceMul, Nat.reduceSub, Nat.reduceEqDiff]) | (refine CWp.reg tt_ok ?_; simp only [go_sem, Nat.reduceAdd, Nat.reduceLeDiff, Nat.reduceMul, Nat.reduceSub, Nat.reduceEqDiff]))
      have e : scanM s sy = ([], 0, 5) := by simp only [scanM, h1, h2, cond_true, cond_false]
      exact Fin.ret3 (.inl rfl) Tryd.results13 rfl rfl rfl rfl (Mem.sub.refl _) ⟨by rw [e]; rfl, rfl⟩
    · have hs2 : s.length ≤ 65536 := by simpa using h2
      repeat (first | refine CWp.seq ?_ | refine CWp.block ?_ | (refine CWp.ret ?_; try simp only [go_sem, Nat.reduceAdd, Nat.reduceLeDiff, Nat.reduceMul, Nat.reduceSub, Nat.reduceEqDiff]) | (refine CWp.skip ?_; try simp only [go_sem, Nat.reduceAdd, Nat.reduceLeDiff, Nat.reduceMul, Nat.reduceSub, Nat.reduceEqDiff]) | (refine CWp.reg tt_ok ?_; simp only [go_sem, Nat.reduceAdd, Nat.reduceLeDiff, Nat.reduceMul, Nat.reduceSub, Nat.reduceEqDiff]))
      refine COps.pure has27 rfl rfl (by simp) (fun _ => skip_spec s (by omega) 0 (by omega)) (evalC_sound tt_ok _ _ ?_)
      simp only [go_sem, Nat.reduceAdd, Nat.reduceLeDiff, Nat.reduceMul, Nat.reduceSub, Nat.reduceEqDiff]
      have hk := skipM_le s (s.length + 1) 0 (by omega)
      repeat (first | refine CWp.seq ?_ | refine CWp.block ?_ | (refine CWp.ret ?_; try simp only [go_sem, Nat.reduceAdd, Nat.reduceLeDiff, Nat.reduceMul, Nat.reduceSub, Nat.reduceEqDiff]) | (refine CWp.skip ?_; try simp only [go_sem, Nat.reduceAdd, Nat.reduceLeDiff, Nat.reduceMul, Nat.reduceSub, Nat.reduceEqDiff]) | (refine CWp.reg tt_ok ?_; simp only [go_sem, Nat.reduceAdd, Nat.reduceLeDiff, Nat.reduceMul, Nat.reduceSub, Nat.reduceEqDiff]))
      refine CWp.loop ?_
      refine CLoop.own (i := 8) (sz := 3) 35 rfl ?_
      have e : scanM s sy = scanL s sy (s.length + 1) (skipM s (s.length + 1) 0) [] := by simp only [scanM, h1, h2, cond_false]
      refine CLoop.junk (t := lp13_1 (.v (.str s)) (.v (.sl own 1 (strs sy))) (.lsl 0 3 (toks [])) (.v (.int .i64 ((skipM s (s.length + 1) 0 : Nat) : Int)))) (scan_loop own sy s hs2 hx hlen M _ (s.length + 1) _ [] (by omega) (by omega) (by simp) ?_ ?_) (by simp [Junked, lp13_1, toks])
      · intro h3 t rows ht4 ht5 ht6
        simp only [go_sem, Nat.reduceAdd, Nat.reduceLeDiff, Nat.reduceMul, Nat.reduceSub, Nat.reduceEqDiff]
        rw [← e] at h3 ht5 ht6
        have e2 : scanA (scanM s sy) = .tup [.sl .full 3 [], .int .i64 ((scanM s sy).2.1 : Int), .int .i64 ((scanM s sy).2.2 : Int)] := by
          have hnil : (scanM s sy).1 = [] := by rw [e] at h3 ⊢; exact scanL_err s sy _ _ _ h3
          unfold scanA
          rw [hnil]
          have : ownE (scanM s sy).2.2 = .full := by unfold ownE; rw [decide_eq_false h3]; rfl
          rw [this]; rfl
        exact Fin.ret3 (.inl rfl) Tryd.results13 rfl (by rw [ht4]; rfl) (by rw [ht5]; rfl) (by rw [ht6]; rfl) (Mem.sub.refl _) ⟨by rw [e2], rfl⟩
      · intro h3 acc' ha hb hc
        rw [← e] at h3 ha hb
        simp only [go_sem, lp13_1]
        repeat (first | refine CWp.seq ?_ | refine CWp.block ?_ | (refine CWp.ret ?_; try simp only [go_sem, Nat.reduceAdd, Nat.reduceLeDiff, Nat.reduceMul, Nat.reduceSub, Nat.reduceEqDiff]) | (refine CWp.skip ?_; try simp only [go_sem, Nat.reduceAdd, Nat.reduceLeDiff, Nat.reduceMul, Nat.reduceSub, Nat.reduceEqDiff]) | (refine CWp.reg tt_ok ?_; simp only [go_sem, Nat.reduceAdd, Nat.reduceLeDiff, Nat.reduceMul, Nat.reduceSub, Nat.reduceEqDiff]))
        simp only [toks_len]
        refine ⟨by simp; omega, ?_⟩
        repeat (first | refine CWp.seq ?_ | refine CWp.block ?_ | (refine CWp.ret ?_; try simp only [go_sem, Nat.reduceAdd, Nat.reduceLeDiff, Nat.reduceMul, Nat.reduceSub, Nat.reduceEqDiff]) | (refine CWp.skip ?_; try simp only [go_sem, Nat.reduceAdd, Nat.reduceLeDiff, Nat.reduceMul, Nat.reduceSub, Nat.reduceEqDiff]) | (refine CWp.reg tt_ok ?_; simp only [go_sem, Nat.reduceAdd, Nat.reduceLeDiff, Nat.reduceMul, Nat.reduceSub, Nat.reduceEqDiff]))
        have e2 : scanA (scanM s sy) = .tup [.sl .no 3 (toks acc' ++ [.agg [.int .i64 4, .str [], .int .i64 (s.length : Int)]]), .int .i64 0, .int .i64 0] := by
          unfold scanA
          rw [h3, ha, hb]
          simp [toks, tokA, ownE]
        exact Fin.ret3 (.inl rfl) Tryd.results13 rfl rfl rfl rfl (Mem.sub.refl _) ⟨by rw [e2], rfl⟩
end Go.Proofs.LxA
set_option linter.unusedVariables false
set_option linter.unusedSimpArgs false
set_option maxRecDepth 100000
namespace Go.Proofs.LxA
open Go Go.Am Go.Proofs
set_option linter.unusedSectionVars false
variable [Inhabited LaidBox]

theorem toks_at (l : List Tok) (i : Nat) (x : Tok) (h : l[i]? = some x) : (toks l)[i]? = some (tokA x) := by simp [toks, h]
def diffB (x y : Tok) (loose : Bool) : Bool := !decide (x.1 = y.1) || !decide (x.2.1 = y.2.1) || (!loose && !decide (x.2.2 = y.2.2))
def diffFrom (a b : List Tok) (loose : Bool) : Nat → Nat → Bool
  | 0, _ => false
  | n + 1, i => bif decide (i < a.length) then diffB (a.getD i (0, [], 0)) (b.getD i (0, [], 0)) loose || diffFrom a b loose n (i + 1) else false
def sameM (a b : List Tok) (loose : Bool) : Bool := bif decide (a.length = b.length) then !diffFrom a b loose (a.length + 1) 0 else false

theorem same_loop (o1 o2 : Own) (a b : List Tok) (loose : Bool) (hab : a.length = b.length) (hlen : a.length ≤ 1000000) (M : Mem) (Q : AExit → St → Prop) : ∀ (n i : Nat), a.length - i < n → i ≤ a.length →
    (diffFrom a b loose n i = true → ∀ t, t[6]? = some (.v (.bool false)) → Q .ret { tmps := t, loc := [], rows := [], defs := [], M := M }) →
    (diffFrom a b loose n i = false → Q (.exit 0) { tmps := lp14_0 (.v (.sl o1 3 (toks a))) (.v (.sl o2 3 (toks b))) (.v (.bool loose)) (.v (.int .i64 (a.length : Int))), loc := [], rows := [], defs := [], M := M }) →
    CLoop none Tryd.prog tt esc14 cc14_l0 Q { tmps := lp14_0 (.v (.sl o1 3 (toks a))) (.v (.sl o2 3 (toks b))) (.v (.bool loose)) (.v (.int .i64 (i : Int))), loc := [], rows := [], defs := [], M := M } := by
  intro n
  induction n with
  | zero => intro i h0 h1 hQ1 hQ2; omega
  | succ n ih =>
    intro i h0 h1 hQ1 hQ2
    refine CLoop.unroll ?_
    generalize hK : CLoop none Tryd.prog tt esc14 cc14_l0 Q = K
    simp only [cc14_l0, lp14_0]
    repeat (first | refine CWp.seq ?_ | refine CWp.block ?_ | (refine CWp.ret ?_; try simp only [go_sem, Nat.reduceAdd, Nat.reduceLeDiff, Nat.reduceMul, Nat.reduceSub, Nat.reduceEqDiff]) | (refine CWp.skip ?_; try simp only [go_sem, Nat.reduceAdd, Nat.reduceLeDiff, Nat.reduceMul, Nat.reduceSub, Nat.reduceEqDiff]) | (refine CWp.reg tt_ok ?_; simp only [go_sem, Nat.reduceAdd, Nat.reduceLeDiff, Nat.reduceMul, Nat.reduceSub, Nat.reduceEqDiff]))
    simp only [toks_len]
    refine CWp.cond rfl ?_ ?_ <;> intro hc
    · have hi : i < a.length := by simpa using hc
      have hi2 : i < b.length := by omega
      have hxa := toks_at a i a[i] (List.getElem?_eq_getElem hi)
      have hxb := toks_at b i b[i] (List.getElem?_eq_getElem hi2)
      have ga : a.getD i (0, [], 0) = a[i] := by simp [List.getD_eq_getElem?_getD, List.getElem?_eq_getElem hi]
      have gb : b.getD i (0, [], 0) = b[i] := by simp [List.getD_eq_getElem?_getD, List.getElem?_eq_getElem hi2]
      simp only [diffFrom, hi, decide_true, cond_true, ga, gb] at hQ1 hQ2
      refine CWp.skip ?_
      simp only [go_sem, Nat.reduceAdd, Nat.reduceLeDiff, Nat.reduceMul, Nat.reduceSub, Nat.reduceEqDiff]
      refine CWp.seq ?_
      refine CWp.block ?_
      refine CWp.seq ?_
      refine CWp.dreg mixed tt_ok dr14_0 ?_
      repeat (first | with_reducible refine And.intro (by first | exact True.intro | assumption | omega | (intros; omega) | (intro hg; simp only [Bool.and_eq_true, Bool.or_eq_true, decide_eq_true_eq, Bool.not_eq_true', decide_eq_false_iff_not] at hg; omega) | (simp only [decide_eq_true_eq, Bool.and_eq_true, Bool.or_eq_true, Bool.not_eq_true', decide_eq_false_iff_not]; omega) | (intros; simp_all; done) | (intros; simp_all; omega)) ?_ | (with_reducible refine evalD_step ?_; simp only [qval, factOf, pev, St.get, St.put, rd, lp, gval, icmp, scmp, bcmp, arith, quorem, nlB, isNil, bound, fillA, rdL, pickT, pickL, extL, TV.ext, TV.sc, AV.cells, am_one_bool, am_one_int, am_one_str, am_one_nilp, am_one_ptr, am_one_eptr, am_one_sl, am_one_map, am_one_nilmap, am_one_fn, am_one_nilfn, am_one_iface, am_one_niliface, am_one_raw, am_one_agg, am_one_tup, am_one_junk, InR, findS, List.getElem?_cons_succ, List.getElem?_cons_zero, Option.getD_some, Option.getD_none, List.set_cons_succ, List.set_cons_zero, List.map_cons, List.map_nil, List.length_cons, List.length_nil, List.take_succ_cons, List.take_zero, List.drop_succ_cons, List.drop_zero, List.getElem?_nil, and_true, true_and, implies_true, forall_const, Bool.true_and, Bool.and_true, Bool.true_eq_false, Bool.false_eq_true, Option.map_some, Option.map_none, cond_true, cond_false, Bool.not_true, Bool.not_false, if_true, if_false, ite_true, ite_false, decide_true, decide_false, am_cond_false, am_cond_true, am_beq_true, am_beq_false, am_imp_self, am_imp_imp, am_not_imp, am_and_imp, am_and_imp', am_imp_and, am_mem_one, am_mem_cons, am_mem_nil, am_nat_add, Int.toNat_natCast, Nat.le_refl, Nat.reduceAdd, Nat.reduceLeDiff, Nat.reduceMul, Nat.reduceSub, Nat.reduceEqDiff, hxa, hxb, tokA, toks_len]))
      simp only [go_sem, Nat.reduceAdd, Nat.reduceLeDiff, Nat.reduceMul, Nat.reduceSub, Nat.reduceEqDiff]
      have key : (!decide ((a[i].1 : Int) = (b[i].1 : Int)) || !decide (a[i].2.1 = b[i].2.1) || !loose && !decide ((a[i].2.2 : Int) = (b[i].2.2 : Int))) = diffB a[i] b[i] loose := by
        unfold diffB
        simp only [Int.ofNat_inj]
      refine CWp.cond rfl ?_ ?_ <;> intro hc2
      · rw [key] at hc2
        rw [hc2] at hQ1
        repeat (first | refine CWp.seq ?_ | refine CWp.block ?_ | (refine CWp.ret ?_; try simp only [go_sem, Nat.reduceAdd, Nat.reduceLeDiff, Nat.reduceMul, Nat.reduceSub, Nat.reduceEqDiff]) | (refine CWp.skip ?_; try simp only [go_sem, Nat.reduceAdd, Nat.reduceLeDiff, Nat.reduceMul, Nat.reduceSub, Nat.reduceEqDiff]) | (refine CWp.reg tt_ok ?_; simp only [go_sem, Nat.reduceAdd, Nat.reduceLeDiff, Nat.reduceMul, Nat.reduceSub, Nat.reduceEqDiff]))
        exact hQ1 rfl _ rfl
      · rw [key] at hc2
        rw [hc2] at hQ1 hQ2
        simp only [Bool.false_or] at hQ1 hQ2
        repeat (first | refine CWp.seq ?_ | refine CWp.block ?_ | (refine CWp.ret ?_; try simp only [go_sem, Nat.reduceAdd, Nat.reduceLeDiff, Nat.reduceMul, Nat.reduceSub, Nat.reduceEqDiff]) | (refine CWp.skip ?_; try simp only [go_sem, Nat.reduceAdd, Nat.reduceLeDiff, Nat.reduceMul, Nat.reduceSub, Nat.reduceEqDiff]) | (refine CWp.reg tt_ok ?_; simp only [go_sem, Nat.reduceAdd, Nat.reduceLeDiff, Nat.reduceMul, Nat.reduceSub, Nat.reduceEqDiff]))
        repeat (with_reducible refine And.intro (by first | exact True.intro | assumption | omega | (intros; omega) | (intro hg; simp only [Bool.and_eq_true, Bool.or_eq_true, decide_eq_true_eq, Bool.not_eq_true', decide_eq_false_iff_not] at hg; omega) | (simp only [decide_eq_true_eq, Bool.and_eq_true, Bool.or_eq_true, Bool.not_eq_true', decide_eq_false_iff_not]; omega) | (intros; simp_all; done) | (intros; simp_all; omega)) ?_)
        rw [← hK]
        exact CLoop.junk (t := lp14_0 (.v (.sl o1 3 (toks a))) (.v (.sl o2 3 (toks b))) (.v (.bool loose)) (.v (.int .i64 ((i + 1 : Nat) : Int)))) (ih (i + 1) (by omega) (by omega) hQ1 hQ2) (by simp [Junked, lp14_0])
    · have hi : i = a.length := by simp at hc; omega
      subst hi
      simp only [diffFrom, Nat.lt_irrefl, decide_false, cond_false] at hQ2
      exact CWp.junk (t := lp14_0 (.v (.sl o1 3 (toks a))) (.v (.sl o2 3 (toks b))) (.v (.bool loose)) (.v (.int .i64 (a.length : Int)))) (CWp.exit (hQ2 True.intro)) (by simp [Junked, lp14_0])
theorem same_spec (o1 o2 : Own) (a b : List Tok) (loose : Bool) (hla : a.length ≤ 1000000) (hlb : b.length ≤ 1000000) : Pure Tryd.prog 14 [.sl o1 3 (toks a), .sl o2 3 (toks b), .bool loose] (.bool (sameM a b loose)) := by
  intro M
  refine enter14 _ _ _ ?_
  simp only [cc14]
  repeat (first | refine CWp.seq ?_ | refine CWp.block ?_ | (refine CWp.ret ?_; try simp only [go_sem, Nat.reduceAdd, Nat.reduceLeDiff, Nat.reduceMul, Nat.reduceSub, Nat.reduceEqDiff]) | (refine CWp.skip ?_; try simp only [go_sem, Nat.reduceAdd, Nat.reduceLeDiff, Nat.reduceMul, Nat.reduceSub, Nat.reduceEqDiff]) | (refine CWp.reg tt_ok ?_; simp only [go_sem, Nat.reduceAdd, Nat.reduceLeDiff, Nat.reduceMul, Nat.reduceSub, Nat.reduceEqDiff]))
  simp only [toks_len]
  refine CWp.cond rfl ?_ ?_ <;> intro hc
  · have hne : ¬ a.length = b.length := by simp at hc; omega
    repeat (first | refine CWp.seq ?_ | refine CWp.block ?_ | (refine CWp.ret ?_; try simp only [go_sem, Nat.reduceAdd, Nat.reduceLeDiff, Nat.reduceMul, Nat.reduceSub, Nat.reduceEqDiff]) | (refine CWp.skip ?_; try simp only [go_sem, Nat.reduceAdd, Nat.reduceLeDiff, Nat.reduceMul, Nat.reduceSub, Nat.reduceEqDiff]) | (refine CWp.reg tt_ok ?_; simp only [go_sem, Nat.reduceAdd, Nat.reduceLeDiff, Nat.reduceMul, Nat.reduceSub, Nat.reduceEqDiff]))
    exact Fin.ret1 (.inl rfl) rfl rfl rfl (Mem.sub.refl _) ⟨by simp [sameM, hne], rfl⟩
  · have hab : a.length = b.length := by simp at hc; omega
    repeat (first | refine CWp.seq ?_ | refine CWp.block ?_ | (refine CWp.ret ?_; try simp only [go_sem, Nat.reduceAdd, Nat.reduceLeDiff, Nat.reduceMul, Nat.reduceSub, Nat.reduceEqDiff]) | (refine CWp.skip ?_; try simp only [go_sem, Nat.reduceAdd, Nat.reduceLeDiff, Nat.reduceMul, Nat.reduceSub, Nat.reduceEqDiff]) | (refine CWp.reg tt_ok ?_; simp only [go_sem, Nat.reduceAdd, Nat.reduceLeDiff, Nat.reduceMul, Nat.reduceSub, Nat.reduceEqDiff]))
    refine CWp.loop (CLoop.junk (t := lp14_0 (.v (.sl o1 3 (toks a))) (.v (.sl o2 3 (toks b))) (.v (.bool loose)) (.v (.int .i64 ((0 : Nat) : Int)))) (same_loop o1 o2 a b loose hab hla M _ (a.length + 1) 0 (by omega) (by omega) ?_ ?_) (by simp [Junked, lp14_0]))
    · intro h t ht
      simp only [thenA, blockA]
      exact Fin.ret1 (v := .bool false) (.inl rfl) rfl rfl (by simp [ht, TV.ext]) (Mem.sub.refl _) ⟨by simp only [sameM, h, hab, decide_true, cond_true]; rw [hab] at h; rw [h]; rfl, rfl⟩
    · intro h
      simp only [thenA, blockA, lp14_0]
      repeat (first | refine CWp.seq ?_ | refine CWp.block ?_ | (refine CWp.ret ?_; try simp only [go_sem, Nat.reduceAdd, Nat.reduceLeDiff, Nat.reduceMul, Nat.reduceSub, Nat.reduceEqDiff]) | (refine CWp.skip ?_; try simp only [go_sem, Nat.reduceAdd, Nat.reduceLeDiff, Nat.reduceMul, Nat.reduceSub, Nat.reduceEqDiff]) | (refine CWp.reg tt_ok ?_; simp only [go_sem, Nat.reduceAdd, Nat.reduceLeDiff, Nat.reduceMul, Nat.reduceSub, Nat.reduceEqDiff]))
      exact Fin.ret1 (.inl rfl) rfl rfl rfl (Mem.sub.refl _) ⟨by simp only [sameM, hab, decide_true, cond_true]; rw [hab] at h; rw [h]; rfl, rfl⟩
end Go.Proofs.LxA
