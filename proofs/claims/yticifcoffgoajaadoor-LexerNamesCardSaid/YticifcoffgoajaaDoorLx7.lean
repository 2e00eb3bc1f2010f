import Derived.Test.YticifcoffgoajaaDoorLx6
set_option linter.unusedVariables false
set_option linter.unusedSimpArgs false
set_option maxRecDepth 100000
namespace Go.Proofs.LxA
open Go Go.Am Go.Proofs Go.RowKit
set_option linter.unusedSectionVars false

def fewM (l : List (List UInt8)) : Bool := !((l.take 12).any fun x => decide (20 < x.length)) && decide (l.length ≤ 10)

theorem few_loop (own : Own) (l : List (List UInt8)) (hlen : l.length ≤ 9223372036854775806) (M : Mem) (Q : AExit → St → Prop) : ∀ (n i : Nat), l.length - i < n → i ≤ l.length → i ≤ 12 →
    (((l.take 12).drop i).any (fun x => decide (20 < x.length)) = true → ∀ t, t[2]? = some (.v (.bool false)) → Q .ret { tmps := t, loc := [], rows := [], defs := [], M := M }) →
    (((l.take 12).drop i).any (fun x => decide (20 < x.length)) = false → Q (.exit 0) { tmps := lp10_0 (.v (.sl own 1 (strs l))) .junk, loc := [], rows := [], defs := [], M := M }) →
    CLoop none Tryd.prog tt esc10 cc10_l0 Q { tmps := lp10_0 (.v (.sl own 1 (strs l))) (.v (.int .i64 (i : Int))), loc := [], rows := [], defs := [], M := M } := by
  intro n
  induction n with
  | zero => intro i h0; omega
  | succ n ih =>
    intro i h0 h1 h12 hQ1 hQ2
    refine CLoop.unroll ?_
    generalize hK : CLoop none Tryd.prog tt esc10 cc10_l0 Q = K
    simp only [cc10_l0, lp10_0]
    refine CWp.seq ?_
    refine CWp.seq ?_
    refine CWp.reg tt_ok ?_
    simp only [go_sem, Nat.reduceAdd, Nat.reduceLeDiff, Nat.reduceMul, Nat.reduceSub, Nat.reduceEqDiff, strs_len]
    refine CWp.cond rfl ?_ ?_ <;> intro hc
    · have hi : i < l.length ∧ i < 12 := by
        simp only [Bool.and_eq_true, decide_eq_true_eq] at hc
        omega
      have hx := strs_at l i l[i] (List.getElem?_eq_getElem hi.1)
      have hd : (l.take 12).drop i = l[i] :: (l.take 12).drop (i + 1) := by
        have hlt : i < (l.take 12).length := by simp; omega
        rw [List.drop_eq_getElem_cons hlt, List.getElem_take]
      rw [hd] at hQ1 hQ2
      simp only [List.any_cons] at hQ1 hQ2
      refine CWp.skip ?_
      simp only [go_sem, Nat.reduceAdd, Nat.reduceLeDiff, Nat.reduceMul, Nat.reduceSub, Nat.reduceEqDiff]
      refine CWp.seq ?_
      refine CWp.block ?_
      refine CWp.seq ?_
      refine CWp.reg tt_ok ?_
      simp only [go_sem, Nat.reduceAdd, Nat.reduceLeDiff, Nat.reduceMul, Nat.reduceSub, Nat.reduceEqDiff, hx, strs_len]
      repeat (with_reducible refine And.intro (by first | exact True.intro | assumption | omega | (intros; omega) | (intro hg; simp only [Bool.and_eq_true, Bool.or_eq_true, decide_eq_true_eq, Bool.not_eq_true', decide_eq_false_iff_not] at hg; omega) | (simp only [decide_eq_true_eq, Bool.and_eq_true, Bool.or_eq_true, Bool.not_eq_true', decide_eq_false_iff_not]; omega) | (intros; simp_all; done) | (intros; simp_all; omega)) ?_)
      have hk : decide ((20 : Int) < (l[i].length : Int)) = decide (20 < l[i].length) := decide_eq_decide.2 (by omega)
      simp only [hk]
      refine CWp.cond rfl ?_ ?_ <;> intro hc2
      · rw [hc2] at hQ1
        repeat (first | refine CWp.seq ?_ | refine CWp.block ?_ | (refine CWp.ret ?_; try simp only [go_sem, Nat.reduceAdd, Nat.reduceLeDiff, Nat.reduceMul, Nat.reduceSub, Nat.reduceEqDiff]) | (refine CWp.skip ?_; try simp only [go_sem, Nat.reduceAdd, Nat.reduceLeDiff, Nat.reduceMul, Nat.reduceSub, Nat.reduceEqDiff]) | (refine CWp.reg tt_ok ?_; simp only [go_sem, Nat.reduceAdd, Nat.reduceLeDiff, Nat.reduceMul, Nat.reduceSub, Nat.reduceEqDiff]))
        exact hQ1 rfl _ rfl
      · rw [hc2] at hQ1 hQ2
        simp only [Bool.false_or] at hQ1 hQ2
        repeat (first | refine CWp.seq ?_ | refine CWp.block ?_ | (refine CWp.ret ?_; try simp only [go_sem, Nat.reduceAdd, Nat.reduceLeDiff, Nat.reduceMul, Nat.reduceSub, Nat.reduceEqDiff]) | (refine CWp.skip ?_; try simp only [go_sem, Nat.reduceAdd, Nat.reduceLeDiff, Nat.reduceMul, Nat.reduceSub, Nat.reduceEqDiff]) | (refine CWp.reg tt_ok ?_; simp only [go_sem, Nat.reduceAdd, Nat.reduceLeDiff, Nat.reduceMul, Nat.reduceSub, Nat.reduceEqDiff]))
        repeat (with_reducible refine And.intro (by first | exact True.intro | assumption | omega | (intros; omega) | (intro hg; simp only [Bool.and_eq_true, Bool.or_eq_true, decide_eq_true_eq, Bool.not_eq_true', decide_eq_false_iff_not] at hg; omega) | (simp only [decide_eq_true_eq, Bool.and_eq_true, Bool.or_eq_true, Bool.not_eq_true', decide_eq_false_iff_not]; omega) | (intros; simp_all; done) | (intros; simp_all; omega)) ?_)
        rw [← hK]
        exact CLoop.junk (t := lp10_0 (.v (.sl own 1 (strs l))) (.v (.int .i64 ((i + 1 : Nat) : Int)))) (ih (i + 1) (by omega) (by omega) (by omega) hQ1 hQ2) (by simp [Junked, lp10_0])
    · have hi : ¬ (i < l.length ∧ i < 12) := by
        rintro ⟨ha, hb⟩
        simp only [Bool.and_eq_false_iff, decide_eq_false_iff_not] at hc
        omega
      have hd : (l.take 12).drop i = [] := List.drop_eq_nil_of_le (by simp; omega)
      rw [hd] at hQ2
      exact CWp.junk (t := lp10_0 (.v (.sl own 1 (strs l))) .junk) (CWp.exit (hQ2 rfl)) (by simp [Junked, lp10_0])

theorem few_spec (own : Own) (l : List (List UInt8)) (hlen : l.length ≤ 9223372036854775806) : Pure Tryd.prog 10 [.sl own 1 (strs l)] (.bool (fewM l)) := fun M => by
  refine enter10 _ ?_
  simp only [cc10]
  repeat (first | refine CWp.seq ?_ | refine CWp.block ?_ | (refine CWp.ret ?_; try simp only [go_sem, Nat.reduceAdd, Nat.reduceLeDiff, Nat.reduceMul, Nat.reduceSub, Nat.reduceEqDiff]) | (refine CWp.skip ?_; try simp only [go_sem, Nat.reduceAdd, Nat.reduceLeDiff, Nat.reduceMul, Nat.reduceSub, Nat.reduceEqDiff]) | (refine CWp.reg tt_ok ?_; simp only [go_sem, Nat.reduceAdd, Nat.reduceLeDiff, Nat.reduceMul, Nat.reduceSub, Nat.reduceEqDiff]))
  refine CWp.loop (CLoop.junk (t := lp10_0 (.v (.sl own 1 (strs l))) (.v (.int .i64 ((0 : Nat) : Int)))) (few_loop own l hlen M _ (l.length + 1) 0 (by omega) (by omega) (by omega) ?_ ?_) (by simp [Junked, lp10_0]))
  · intro h t ht
    rw [List.drop_zero] at h
    simp only [go_sem, Nat.reduceAdd, Nat.reduceLeDiff, Nat.reduceMul, Nat.reduceSub, Nat.reduceEqDiff]
    exact Fin.ret1 (v := .bool false) (.inl rfl) rfl rfl (by simp [ht, TV.ext]) (Mem.sub.refl _) ⟨by simp only [fewM, h, Bool.not_true, Bool.false_and], rfl⟩
  · intro h
    rw [List.drop_zero] at h
    simp only [go_sem, lp10_0]
    repeat (first | refine CWp.seq ?_ | refine CWp.block ?_ | (refine CWp.ret ?_; try simp only [go_sem, Nat.reduceAdd, Nat.reduceLeDiff, Nat.reduceMul, Nat.reduceSub, Nat.reduceEqDiff]) | (refine CWp.skip ?_; try simp only [go_sem, Nat.reduceAdd, Nat.reduceLeDiff, Nat.reduceMul, Nat.reduceSub, Nat.reduceEqDiff]) | (refine CWp.reg tt_ok ?_; simp only [go_sem, Nat.reduceAdd, Nat.reduceLeDiff, Nat.reduceMul, Nat.reduceSub, Nat.reduceEqDiff]))
    simp only [strs_len]
    have hk : decide ((l.length : Int) ≤ 10) = decide (l.length ≤ 10) := decide_eq_decide.2 (by omega)
    exact Fin.ret1 (.inl rfl) rfl rfl rfl (Mem.sub.refl _) ⟨by simp only [fewM, h, Bool.not_false, Bool.true_and, hk], rfl⟩

/-! The examples. -/
def tk1 : List Tok := [(0, [102], 0), (2, [46, 123], 1), (0, [117], 3), (2, [125], 4), (0, [120], 6), (2, [46, 49], 7), (2, [45, 62], 10), (0, [121], 13), (4, [], 19)]
theorem sc1 : scanM [102, 46, 123, 117, 125, 32, 120, 46, 49, 32, 45, 62, 32, 121, 32, 45, 45, 32, 122] [] = (tk1, 0, 0) := by kernel_rfl
def tk2 : List Tok := [(0, [97], 0), (2, [43, 43], 1), (0, [98], 3), (4, [], 4)]
theorem sc2 : scanM [97, 43, 43, 98] [[43, 43]] = (tk2, 0, 0) := by kernel_rfl
def tk3 : List Tok := [(0, [97], 0), (2, [43], 1), (2, [43], 2), (0, [98], 3), (4, [], 4)]
theorem sc3 : scanM [97, 43, 43, 98] [] = (tk3, 0, 0) := by kernel_rfl
theorem sc4 : scanM [49, 50, 97] [] = ([], 2, 4) := by kernel_rfl

theorem awk_loop (o1 o2 : Own) (a : List Tok) (hlen : a.length ≤ 1000000) (M : Mem) (Q : AExit → St → Prop) (hQ : Q (.exit 0) { tmps := lp11_0 .junk .junk .junk, loc := [], rows := [], defs := [], M := M }) : ∀ (n i : Nat), a.length - i < n → i ≤ a.length →
    CLoop none Tryd.prog tt esc11 cc11_l0 Q { tmps := lp11_0 (.v (.sl o1 3 (toks a))) (.v (.sl o2 1 (strs (a.map (·.2.1))))) (.v (.int .i64 (i : Int))), loc := [], rows := [], defs := [], M := M } := by
  intro n
  induction n with
  | zero => intro i h0; omega
  | succ n ih =>
    intro i h0 h1
    refine CLoop.unroll ?_
    generalize hK : CLoop none Tryd.prog tt esc11 cc11_l0 Q = K
    simp only [cc11_l0, lp11_0]
    refine CWp.seq ?_
    refine CWp.seq ?_
    refine CWp.reg tt_ok ?_
    simp only [go_sem, Nat.reduceAdd, Nat.reduceLeDiff, Nat.reduceMul, Nat.reduceSub, Nat.reduceEqDiff, toks_len]
    refine CWp.cond rfl ?_ ?_ <;> intro hc
    · have hi : i < a.length := by simpa using hc
      have hxa := toks_at a i a[i] (List.getElem?_eq_getElem hi)
      have hxb := strs_at (a.map (·.2.1)) i a[i].2.1 (by rw [List.getElem?_map, List.getElem?_eq_getElem hi]; rfl)
      have hl2 : (strs (a.map (·.2.1))).length = a.length := by rw [strs_len, List.length_map]
      refine CWp.skip ?_
      simp only [go_sem, Nat.reduceAdd, Nat.reduceLeDiff, Nat.reduceMul, Nat.reduceSub, Nat.reduceEqDiff]
      refine CWp.seq ?_
      refine CWp.block ?_
      refine CWp.seq ?_
      refine CWp.dreg mixed tt_ok dr11_0 ?_
      repeat (first | with_reducible refine And.intro (by first | exact True.intro | assumption | omega | (intros; omega) | (intro hg; simp only [Bool.and_eq_true, Bool.or_eq_true, decide_eq_true_eq, Bool.not_eq_true', decide_eq_false_iff_not] at hg; omega) | (simp only [decide_eq_true_eq, Bool.and_eq_true, Bool.or_eq_true, Bool.not_eq_true', decide_eq_false_iff_not]; omega) | (intros; simp_all; done) | (intros; simp_all; omega)) ?_ | (with_reducible refine evalD_step ?_; simp only [qval, factOf, pev, St.get, St.put, rd, lp, gval, icmp, scmp, bcmp, arith, quorem, nlB, isNil, bound, fillA, rdL, pickT, pickL, extL, TV.ext, TV.sc, AV.cells, am_one_bool, am_one_int, am_one_str, am_one_nilp, am_one_ptr, am_one_eptr, am_one_sl, am_one_map, am_one_nilmap, am_one_fn, am_one_nilfn, am_one_iface, am_one_niliface, am_one_raw, am_one_agg, am_one_tup, am_one_junk, InR, findS, List.getElem?_cons_succ, List.getElem?_cons_zero, Option.getD_some, Option.getD_none, List.set_cons_succ, List.set_cons_zero, List.map_cons, List.map_nil, List.length_cons, List.length_nil, List.take_succ_cons, List.take_zero, List.drop_succ_cons, List.drop_zero, List.getElem?_nil, and_true, true_and, implies_true, forall_const, Bool.true_and, Bool.and_true, Bool.true_eq_false, Bool.false_eq_true, Option.map_some, Option.map_none, cond_true, cond_false, Bool.not_true, Bool.not_false, if_true, if_false, ite_true, ite_false, decide_true, decide_false, am_cond_false, am_cond_true, am_beq_true, am_beq_false, am_imp_self, am_imp_imp, am_not_imp, am_and_imp, am_and_imp', am_imp_and, am_mem_one, am_mem_cons, am_mem_nil, am_nat_add, Int.toNat_natCast, Nat.le_refl, Nat.reduceAdd, Nat.reduceLeDiff, Nat.reduceMul, Nat.reduceSub, Nat.reduceEqDiff, hxa, hxb, tokA, toks_len, hl2]))
      simp only [go_sem, Nat.reduceAdd, Nat.reduceLeDiff, Nat.reduceMul, Nat.reduceSub, Nat.reduceEqDiff]
      refine CWp.cond rfl (fun h => by simp at h) ?_
      intro _
      repeat (first | refine CWp.seq ?_ | refine CWp.block ?_ | (refine CWp.ret ?_; try simp only [go_sem, Nat.reduceAdd, Nat.reduceLeDiff, Nat.reduceMul, Nat.reduceSub, Nat.reduceEqDiff]) | (refine CWp.skip ?_; try simp only [go_sem, Nat.reduceAdd, Nat.reduceLeDiff, Nat.reduceMul, Nat.reduceSub, Nat.reduceEqDiff]) | (refine CWp.reg tt_ok ?_; simp only [go_sem, Nat.reduceAdd, Nat.reduceLeDiff, Nat.reduceMul, Nat.reduceSub, Nat.reduceEqDiff]))
      repeat (with_reducible refine And.intro (by first | exact True.intro | assumption | omega | (intros; omega) | (intro hg; simp only [Bool.and_eq_true, Bool.or_eq_true, decide_eq_true_eq, Bool.not_eq_true', decide_eq_false_iff_not] at hg; omega) | (simp only [decide_eq_true_eq, Bool.and_eq_true, Bool.or_eq_true, Bool.not_eq_true', decide_eq_false_iff_not]; omega) | (intros; simp_all; done) | (intros; simp_all; omega)) ?_)
      rw [← hK]
      exact CLoop.junk (t := lp11_0 (.v (.sl o1 3 (toks a))) (.v (.sl o2 1 (strs (a.map (·.2.1))))) (.v (.int .i64 ((i + 1 : Nat) : Int)))) (ih (i + 1) (by omega) (by omega)) (by simp [Junked, lp11_0])
    · exact CWp.junk (t := lp11_0 .junk .junk .junk) (CWp.exit hQ) (by simp [Junked, lp11_0])

theorem awake_spec : Pure Tryd.prog 11 [] (.bool true) := fun M => by
  have h1 := scanP_spec .full [102, 46, 123, 117, 125, 32, 120, 46, 49, 32, 45, 62, 32, 121, 32, 45, 45, 32, 122] [] (by decide) (by simp) (by simp)
  have h2 := scanP_spec .full [97, 43, 43, 98] [[43, 43]] (by decide) (by simp) (by simp)
  have h3 := scanP_spec .full [97, 43, 43, 98] [] (by decide) (by simp) (by simp)
  have h4 := scanP_spec .full [49, 50, 97] [] (by decide) (by simp) (by simp)
  rw [sc1] at h1
  rw [sc2] at h2
  rw [sc3] at h3
  rw [sc4] at h4
  replace h1 : Pure Tryd.prog 12 [.str [102, 46, 123, 117, 125, 32, 120, 46, 49, 32, 45, 62, 32, 121, 32, 45, 45, 32, 122], .sl .full 1 []] (.tup [.sl .no 3 (toks tk1), .int .i64 0, .int .i64 0]) := h1
  replace h2 : Pure Tryd.prog 12 [.str [97, 43, 43, 98], .sl .full 1 [.str [43, 43]]] (.tup [.sl .no 3 (toks tk2), .int .i64 0, .int .i64 0]) := h2
  replace h3 : Pure Tryd.prog 12 [.str [97, 43, 43, 98], .sl .full 1 []] (.tup [.sl .no 3 (toks tk3), .int .i64 0, .int .i64 0]) := h3
  replace h4 : Pure Tryd.prog 12 [.str [49, 50, 97], .sl .full 1 []] (.tup [.sl .full 3 (toks []), .int .i64 2, .int .i64 4]) := h4
  refine enter11 ?_
  simp only [cc11]
  refine CWp.seq ?_
  refine CWp.reg tt_ok ?_
  simp only [go_sem, Nat.reduceAdd, Nat.reduceLeDiff, Nat.reduceMul, Nat.reduceSub, Nat.reduceEqDiff]
  refine CWp.seq ?_
  refine CWp.reg tt_ok ?_
  simp only [go_sem, Nat.reduceAdd, Nat.reduceLeDiff, Nat.reduceMul, Nat.reduceSub, Nat.reduceEqDiff]
  refine COps.pure has12 rfl rfl (by simp) (fun _ => h1) (evalC_sound tt_ok _ _ ?_)
  simp only [go_sem, Nat.reduceAdd, Nat.reduceLeDiff, Nat.reduceMul, Nat.reduceSub, Nat.reduceEqDiff]
  refine CWp.seq ?_
  refine CWp.reg tt_ok ?_
  simp only [go_sem, Nat.reduceAdd, Nat.reduceLeDiff, Nat.reduceMul, Nat.reduceSub, Nat.reduceEqDiff]
  try repeat (with_reducible refine And.intro (by first | exact True.intro | assumption | omega | (intros; omega) | (intro hg; simp only [Bool.and_eq_true, Bool.or_eq_true, decide_eq_true_eq, Bool.not_eq_true', decide_eq_false_iff_not] at hg; omega) | (simp only [decide_eq_true_eq, Bool.and_eq_true, Bool.or_eq_true, Bool.not_eq_true', decide_eq_false_iff_not]; omega) | (intros; simp_all; done) | (intros; simp_all; omega)) ?_)
  have t8 : (toks tk1)[8]? = some (tokA (4, [], 19)) := rfl
  have i8 : Int.toNat 8 = 8 := rfl
  have l1 : (toks tk1).length = 9 := rfl
  refine CWp.seq ?_
  refine CWp.seq ?_
  refine CWp.reg tt_ok ?_
  simp only [go_sem, Nat.reduceAdd, Nat.reduceLeDiff, Nat.reduceMul, Nat.reduceSub, Nat.reduceEqDiff, t8, l1, tokA, i8]
  refine And.intro ⟨by omega, by omega⟩ ?_
  refine CWp.cond rfl (fun h => by simp at h) (fun _ => ?_)
  refine CWp.skip ?_
  simp only [go_sem, Nat.reduceAdd, Nat.reduceLeDiff, Nat.reduceMul, Nat.reduceSub, Nat.reduceEqDiff]
  refine CWp.seq ?_
  refine CWp.seq ?_
  refine CWp.reg tt_ok ?_
  simp only [go_sem, Nat.reduceAdd, Nat.reduceLeDiff, Nat.reduceMul, Nat.reduceSub, Nat.reduceEqDiff]
  refine CWp.block ?_
  refine CWp.loop (CLoop.junk (t := lp11_0 (.v (.sl .no 3 (toks tk1))) (.v (.sl .full 1 (strs (tk1.map (·.2.1))))) (.v (.int .i64 ((0 : Nat) : Int)))) (awk_loop .no .full tk1 (by decide) M _ ?_ (tk1.length + 1) 0 (by omega) (by omega)) (by simp [Junked, lp11_0, strs, tk1]))
  simp only [go_sem, lp11_0]
  refine CWp.seq ?_
  refine CWp.reg tt_ok ?_
  simp only [go_sem, Nat.reduceAdd, Nat.reduceLeDiff, Nat.reduceMul, Nat.reduceSub, Nat.reduceEqDiff]
  refine COps.pure has12 rfl rfl (by simp) (fun _ => h2) (evalC_sound tt_ok _ _ ?_)
  simp only [go_sem, Nat.reduceAdd, Nat.reduceLeDiff, Nat.reduceMul, Nat.reduceSub, Nat.reduceEqDiff]
  refine CWp.seq ?_
  refine CWp.reg tt_ok ?_
  simp only [go_sem, Nat.reduceAdd, Nat.reduceLeDiff, Nat.reduceMul, Nat.reduceSub, Nat.reduceEqDiff]
  refine COps.pure has12 rfl rfl (by simp) (fun _ => h3) (evalC_sound tt_ok _ _ ?_)
  simp only [go_sem, Nat.reduceAdd, Nat.reduceLeDiff, Nat.reduceMul, Nat.reduceSub, Nat.reduceEqDiff]
  refine CWp.seq ?_
  refine CWp.reg tt_ok ?_
  simp only [go_sem, Nat.reduceAdd, Nat.reduceLeDiff, Nat.reduceMul, Nat.reduceSub, Nat.reduceEqDiff]
  refine COps.pure has12 rfl rfl (by simp) (fun _ => h4) (evalC_sound tt_ok _ _ ?_)
  simp only [go_sem, Nat.reduceAdd, Nat.reduceLeDiff, Nat.reduceMul, Nat.reduceSub, Nat.reduceEqDiff]
  have l2 : (toks tk2).length = 4 := rfl
  have l3 : (toks tk3).length = 5 := rfl
  refine CWp.seq ?_
  refine CWp.reg tt_ok ?_
  simp only [go_sem, Nat.reduceAdd, Nat.reduceLeDiff, Nat.reduceMul, Nat.reduceSub, Nat.reduceEqDiff, l2, l3]
  repeat (first | refine CWp.seq ?_ | refine CWp.block ?_ | (refine CWp.ret ?_; try simp only [go_sem, Nat.reduceAdd, Nat.reduceLeDiff, Nat.reduceMul, Nat.reduceSub, Nat.reduceEqDiff]) | (refine CWp.skip ?_; try simp only [go_sem, Nat.reduceAdd, Nat.reduceLeDiff, Nat.reduceMul, Nat.reduceSub, Nat.reduceEqDiff]) | (refine CWp.reg tt_ok ?_; simp only [go_sem, Nat.reduceAdd, Nat.reduceLeDiff, Nat.reduceMul, Nat.reduceSub, Nat.reduceEqDiff]))
  exact Fin.ret1 (.inl rfl) rfl rfl rfl (Mem.sub.refl _) ⟨by simp, rfl⟩
end Go.Proofs.LxA
set_option linter.unusedVariables false
set_option linter.unusedSimpArgs false
set_option maxRecDepth 100000
namespace Go.Proofs.LxA
open Go Go.Am Go.Proofs Go.RowKit
set_option linter.unusedSectionVars false

theorem diff_self (x : Tok) (loose : Bool) : diffB x x loose = false := by
  unfold diffB
  cases loose <;> simp
theorem diffFrom_self (a : List Tok) (loose : Bool) : ∀ n i, diffFrom a a loose n i = false
  | 0, _ => rfl
  | n + 1, i => by
    simp only [diffFrom, diff_self, diffFrom_self a loose n, Bool.or_false]
    cases decide (i < a.length) <;> rfl
theorem same_self (a : List Tok) (loose : Bool) : sameM a a loose = true := by
  simp only [sameM, diffFrom_self, decide_true, cond_true, Bool.not_false]

theorem few_use {l : List (List UInt8)} (h : fewM l = true) : l.length ≤ 10 ∧ ∀ x ∈ l, x.length ≤ 20 := by
  unfold fewM at h
  simp only [Bool.and_eq_true, Bool.not_eq_true', decide_eq_true_eq] at h
  obtain ⟨h1, h2⟩ := h
  refine ⟨h2, fun x hx => ?_⟩
  rw [List.take_of_length_le (by omega)] at h1
  have := List.any_eq_false.1 h1 x hx
  simpa using this

theorem scanL_len (s : List UInt8) (sy : List (List UInt8)) : ∀ (n at_ : Nat) (acc : List Tok), (scanL s sy n at_ acc).1.length ≤ acc.length + n
  | 0, at_, acc => by simp [scanL]
  | n + 1, at_, acc => by
    simp only [scanL]
    cases decide (at_ < s.length) with
    | false => simp
    | true =>
      simp only [cond_true]
      cases decide ((oneM s at_ sy).2.2 = 0) with
      | false => simp
      | true =>
        simp only [cond_true]
        refine Nat.le_trans (scanL_len s sy n _ _) ?_
        simp; omega
theorem scanM_len (s : List UInt8) (sy : List (List UInt8)) : (scanM s sy).1.length ≤ s.length + 1 := by
  unfold scanM
  cases sy.any fun x => !symM x with
  | true => simp
  | false =>
    cases decide (s.length > 65536) with
    | true => simp
    | false =>
      simp only [cond_false]
      refine Nat.le_trans (scanL_len s sy _ _ _) ?_
      simp

theorem scans_law (own : Own) (s : List UInt8) (sy : List (List UInt8)) (hs : s.length ≤ 9223372036854775806) (hlen : sy.length ≤ 9223372036854775806) :
    Pure Tryd.prog 3 [.str s, .sl own 1 (strs sy)] (.bool true) := fun M => by
  refine enter3 _ _ ?_
  simp only [cc3]
  refine CWp.seq ?_
  refine CWp.reg tt_ok ?_
  simp only [go_sem, Nat.reduceAdd, Nat.reduceLeDiff, Nat.reduceMul, Nat.reduceSub, Nat.reduceEqDiff]
  refine CWp.seq ?_
  refine CWp.seq ?_
  refine CWp.reg tt_ok ?_
  simp only [go_sem, Nat.reduceAdd, Nat.reduceLeDiff, Nat.reduceMul, Nat.reduceSub, Nat.reduceEqDiff]
  refine COps.pure has10 rfl rfl (by simp) (fun _ => few_spec own sy hlen) (evalC_sound tt_ok _ _ ?_)
  simp only [go_sem, Nat.reduceAdd, Nat.reduceLeDiff, Nat.reduceMul, Nat.reduceSub, Nat.reduceEqDiff]
  repeat (with_reducible refine And.intro (by first | exact True.intro | assumption | omega | (intros; omega) | (intro hg; simp only [Bool.and_eq_true, Bool.or_eq_true, decide_eq_true_eq, Bool.not_eq_true', decide_eq_false_iff_not] at hg; omega) | (simp only [decide_eq_true_eq, Bool.and_eq_true, Bool.or_eq_true, Bool.not_eq_true', decide_eq_false_iff_not]; omega) | (intros; simp_all; done) | (intros; simp_all; omega)) ?_)
  have hk : decide ((1000 : Int) < (s.length : Int)) = decide (1000 < s.length) := decide_eq_decide.2 (by omega)
  simp only [hk]
  refine CWp.cond rfl ?_ ?_ <;> intro hc
  · refine CWp.seq ?_
    refine CWp.reg tt_ok ?_
    simp only [go_sem, Nat.reduceAdd, Nat.reduceLeDiff, Nat.reduceMul, Nat.reduceSub, Nat.reduceEqDiff]
    refine COps.pure has11 rfl rfl (by simp) (fun _ => awake_spec) (evalC_sound tt_ok _ _ ?_)
    simp only [go_sem, Nat.reduceAdd, Nat.reduceLeDiff, Nat.reduceMul, Nat.reduceSub, Nat.reduceEqDiff]
    repeat (first | refine CWp.seq ?_ | refine CWp.block ?_ | (refine CWp.ret ?_; try simp only [go_sem, Nat.reduceAdd, Nat.reduceLeDiff, Nat.reduceMul, Nat.reduceSub, Nat.reduceEqDiff]) | (refine CWp.skip ?_; try simp only [go_sem, Nat.reduceAdd, Nat.reduceLeDiff, Nat.reduceMul, Nat.reduceSub, Nat.reduceEqDiff]) | (refine CWp.reg tt_ok ?_; simp only [go_sem, Nat.reduceAdd, Nat.reduceLeDiff, Nat.reduceMul, Nat.reduceSub, Nat.reduceEqDiff]))
    exact Fin.ret1 (.inl rfl) rfl rfl rfl (Mem.sub.refl _) ⟨rfl, rfl⟩
  · have hc2 : s.length ≤ 1000 ∧ fewM sy = true := by
      revert hc
      cases fewM sy <;> simp
    obtain ⟨f1, f2⟩ := few_use hc2.2
    have p1 := scanP_spec own s sy (by omega) (fun x hx => by have := f2 x hx; omega) (by omega)
    have p2 := scan_spec own s sy (by omega) (fun x hx => by have := f2 x hx; omega) (by omega)
    have hl := scanM_len s sy
    have p3 := same_spec (ownE (scanM s sy).2.2) (ownE (scanM s sy).2.2) (scanM s sy).1 (scanM s sy).1 false (by omega) (by omega)
    rw [same_self] at p3
    simp only [scanA] at p1 p2
    generalize scanM s sy = res at *
    refine CWp.skip ?_
    simp only [go_sem, Nat.reduceAdd, Nat.reduceLeDiff, Nat.reduceMul, Nat.reduceSub, Nat.reduceEqDiff]
    refine CWp.seq ?_
    refine CWp.reg tt_ok ?_
    simp only [go_sem, Nat.reduceAdd, Nat.reduceLeDiff, Nat.reduceMul, Nat.reduceSub, Nat.reduceEqDiff]
    refine COps.pure has12 rfl rfl (by simp) (fun _ => p1) (evalC_sound tt_ok _ _ ?_)
    simp only [go_sem, Nat.reduceAdd, Nat.reduceLeDiff, Nat.reduceMul, Nat.reduceSub, Nat.reduceEqDiff]
    refine CWp.seq ?_
    refine CWp.reg tt_ok ?_
    simp only [go_sem, Nat.reduceAdd, Nat.reduceLeDiff, Nat.reduceMul, Nat.reduceSub, Nat.reduceEqDiff]
    refine COps.pure has13 rfl rfl (by simp) (fun _ => p2) (evalC_sound tt_ok _ _ ?_)
    simp only [go_sem, Nat.reduceAdd, Nat.reduceLeDiff, Nat.reduceMul, Nat.reduceSub, Nat.reduceEqDiff]
    refine CWp.seq ?_
    refine CWp.reg tt_ok ?_
    simp only [go_sem, Nat.reduceAdd, Nat.reduceLeDiff, Nat.reduceMul, Nat.reduceSub, Nat.reduceEqDiff]
    refine COps.pure has11 rfl rfl (by simp) (fun _ => awake_spec) (evalC_sound tt_ok _ _ ?_)
    simp only [go_sem, Nat.reduceAdd, Nat.reduceLeDiff, Nat.reduceMul, Nat.reduceSub, Nat.reduceEqDiff]
    refine COps.pure has14 rfl rfl (by simp) (fun _ => p3) (evalC_sound tt_ok _ _ ?_)
    simp only [go_sem, Nat.reduceAdd, Nat.reduceLeDiff, Nat.reduceMul, Nat.reduceSub, Nat.reduceEqDiff]
    repeat (first | refine CWp.seq ?_ | refine CWp.block ?_ | (refine CWp.ret ?_; try simp only [go_sem, Nat.reduceAdd, Nat.reduceLeDiff, Nat.reduceMul, Nat.reduceSub, Nat.reduceEqDiff]) | (refine CWp.skip ?_; try simp only [go_sem, Nat.reduceAdd, Nat.reduceLeDiff, Nat.reduceMul, Nat.reduceSub, Nat.reduceEqDiff]) | (refine CWp.reg tt_ok ?_; simp only [go_sem, Nat.reduceAdd, Nat.reduceLeDiff, Nat.reduceMul, Nat.reduceSub, Nat.reduceEqDiff]))
    exact Fin.ret1 (.inl rfl) rfl rfl rfl (Mem.sub.refl _) ⟨by simp, rfl⟩

theorem words_law (s : List UInt8) (hs : s.length ≤ 9223372036854775806) : Pure Tryd.prog 4 [.str s] (.bool true) := fun M => by
  refine enter4 _ ?_
  simp only [cc4]
  refine CWp.seq ?_
  refine CWp.reg tt_ok ?_
  simp only [go_sem, Nat.reduceAdd, Nat.reduceLeDiff, Nat.reduceMul, Nat.reduceSub, Nat.reduceEqDiff]
  refine CWp.seq ?_
  refine CWp.seq ?_
  refine CWp.reg tt_ok ?_
  simp only [go_sem, Nat.reduceAdd, Nat.reduceLeDiff, Nat.reduceMul, Nat.reduceSub, Nat.reduceEqDiff]
  have hk : decide ((100 : Int) < (s.length : Int)) = decide (100 < s.length) := decide_eq_decide.2 (by omega)
  simp only [hk]
  refine CWp.cond rfl ?_ ?_ <;> intro hc
  · refine CWp.seq ?_
    refine CWp.reg tt_ok ?_
    simp only [go_sem, Nat.reduceAdd, Nat.reduceLeDiff, Nat.reduceMul, Nat.reduceSub, Nat.reduceEqDiff]
    refine COps.pure has11 rfl rfl (by simp) (fun _ => awake_spec) (evalC_sound tt_ok _ _ ?_)
    simp only [go_sem, Nat.reduceAdd, Nat.reduceLeDiff, Nat.reduceMul, Nat.reduceSub, Nat.reduceEqDiff]
    repeat (first | refine CWp.seq ?_ | refine CWp.block ?_ | (refine CWp.ret ?_; try simp only [go_sem, Nat.reduceAdd, Nat.reduceLeDiff, Nat.reduceMul, Nat.reduceSub, Nat.reduceEqDiff]) | (refine CWp.skip ?_; try simp only [go_sem, Nat.reduceAdd, Nat.reduceLeDiff, Nat.reduceMul, Nat.reduceSub, Nat.reduceEqDiff]) | (refine CWp.reg tt_ok ?_; simp only [go_sem, Nat.reduceAdd, Nat.reduceLeDiff, Nat.reduceMul, Nat.reduceSub, Nat.reduceEqDiff]))
    exact Fin.ret1 (.inl rfl) rfl rfl rfl (Mem.sub.refl _) ⟨rfl, rfl⟩
  · have hc2 : s.length ≤ 100 := by simpa using hc
    have p1 := symbolP_spec s (by omega)
    have p2 := symbol_spec s (by omega)
    refine CWp.skip ?_
    simp only [go_sem, Nat.reduceAdd, Nat.reduceLeDiff, Nat.reduceMul, Nat.reduceSub, Nat.reduceEqDiff]
    refine CWp.seq ?_
    refine CWp.reg tt_ok ?_
    simp only [go_sem, Nat.reduceAdd, Nat.reduceLeDiff, Nat.reduceMul, Nat.reduceSub, Nat.reduceEqDiff]
    refine COps.pure has11 rfl rfl (by simp) (fun _ => awake_spec) (evalC_sound tt_ok _ _ ?_)
    simp only [go_sem, Nat.reduceAdd, Nat.reduceLeDiff, Nat.reduceMul, Nat.reduceSub, Nat.reduceEqDiff]
    refine COps.pure has15 rfl rfl (by simp) (fun _ => keywordP_spec s) (evalC_sound tt_ok _ _ ?_)
    simp only [go_sem, Nat.reduceAdd, Nat.reduceLeDiff, Nat.reduceMul, Nat.reduceSub, Nat.reduceEqDiff]
    refine COps.pure has16 rfl rfl (by simp) (fun _ => keyword_spec s) (evalC_sound tt_ok _ _ ?_)
    simp only [go_sem, Nat.reduceAdd, Nat.reduceLeDiff, Nat.reduceMul, Nat.reduceSub, Nat.reduceEqDiff]
    refine COps.pure has17 rfl rfl (by simp) (fun _ => p1) (evalC_sound tt_ok _ _ ?_)
    simp only [go_sem, Nat.reduceAdd, Nat.reduceLeDiff, Nat.reduceMul, Nat.reduceSub, Nat.reduceEqDiff]
    refine COps.pure has18 rfl rfl (by simp) (fun _ => p2) (evalC_sound tt_ok _ _ ?_)
    simp only [go_sem, Nat.reduceAdd, Nat.reduceLeDiff, Nat.reduceMul, Nat.reduceSub, Nat.reduceEqDiff]
    repeat (first | refine CWp.seq ?_ | refine CWp.block ?_ | (refine CWp.ret ?_; try simp only [go_sem, Nat.reduceAdd, Nat.reduceLeDiff, Nat.reduceMul, Nat.reduceSub, Nat.reduceEqDiff]) | (refine CWp.skip ?_; try simp only [go_sem, Nat.reduceAdd, Nat.reduceLeDiff, Nat.reduceMul, Nat.reduceSub, Nat.reduceEqDiff]) | (refine CWp.reg tt_ok ?_; simp only [go_sem, Nat.reduceAdd, Nat.reduceLeDiff, Nat.reduceMul, Nat.reduceSub, Nat.reduceEqDiff]))
    exact Fin.ret1 (.inl rfl) rfl rfl rfl (Mem.sub.refl _) ⟨by simp, rfl⟩
end Go.Proofs.LxA
