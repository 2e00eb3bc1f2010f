import Derived.Test.YticifcoffgoajaaDoorLx7
import Derived.Test.YticifcoffgoajaaDoorLxPE
set_option linter.unusedVariables false
set_option linter.unusedSimpArgs false
set_option maxRecDepth 100000
namespace Go.Proofs.LxA
open Go Go.Am Go.Proofs Go.RowKit
set_option linter.unusedSectionVars false

theorem tmod_nat (a n : Nat) : (a : Int).tmod (n : Int) = ((a % n : Nat) : Int) := by
  rw [Int.tmod_eq_emod_of_nonneg (by omega)]; rfl
theorem spaces_law (s : List UInt8) (a b : Nat) (ha : a ≤ 255) (hb : b ≤ 255) (hs : s.length ≤ 9223372036854775806) :
    Pure Tryd.prog 7 [.str s, .int .u8 (a : Int), .int .u8 (b : Int)] (.bool true) := fun M => by
  refine enter7 _ _ _ ?_
  simp only [cc7]
  refine CWp.seq ?_
  refine CWp.reg tt_ok ?_
  simp only [go_sem, Nat.reduceAdd, Nat.reduceLeDiff, Nat.reduceMul, Nat.reduceSub, Nat.reduceEqDiff]
  refine CWp.seq ?_
  refine CWp.seq ?_
  refine CWp.reg tt_ok ?_
  simp only [go_sem, Nat.reduceAdd, Nat.reduceLeDiff, Nat.reduceMul, Nat.reduceSub, Nat.reduceEqDiff]
  have hk : decide ((1000 : Int) < (s.length : Int)) = decide (1000 < s.length) := decide_eq_decide.2 (by omega)
  simp only [hk]
  refine CWp.cond rfl ?_ ?_ <;> intro hc
  · refine CWp.seq ?_
    refine CWp.reg tt_ok ?_
    simp only [go_sem, Nat.reduceAdd, Nat.reduceLeDiff, Nat.reduceMul, Nat.reduceSub, Nat.reduceEqDiff]
    refine COps.pure has11 rfl rfl (by simp) (fun _ => awake_spec) (evalC_sound tt_ok _ _ ?_)
    simp only [go_sem, Nat.reduceAdd, Nat.reduceLeDiff, Nat.reduceMul, Nat.reduceSub, Nat.reduceEqDiff]
    repeat (first | refine CWp.seq ?_ | refine CWp.block ?_ | (refine CWp.ret ?_; try simp only [go_sem, Nat.reduceAdd, Nat.reduceLeDiff, Nat.reduceMul, Nat.reduceSub, Nat.reduceEqDiff]) | (refine CWp.skip ?_; try simp only [go_sem, Nat.reduceAdd, Nat.reduceLeDiff, Nat.reduceMul, Nat.reduceSub, Nat.reduceEqDiff]) | (refine CWp.reg tt_ok ?_; simp only [go_sem, Nat.reduceAdd, Nat.reduceLeDiff, Nat.reduceMul, Nat.reduceSub, Nat.reduceEqDiff]))
    exact Fin.ret1 (.inl rfl) rfl rfl rfl (Mem.sub.refl _) ⟨rfl, rfl⟩
  · have hc2 : s.length ≤ 1000 := by simpa using hc
    have hx : ∀ x ∈ syS, x.length ≤ 1000000 := by decide
    have p1 := scanP_spec .full s syS (by omega) hx (by decide)
    simp only [scanA] at p1
    replace p1 : Pure Tryd.prog 12 [.str s, .sl .full 1 [.str [42], .str [60, 61], .str [105, 102]]] _ := p1
    have hor := scanM_or s syS syS_ok (by omega)
    refine CWp.skip ?_
    simp only [go_sem, Nat.reduceAdd, Nat.reduceLeDiff, Nat.reduceMul, Nat.reduceSub, Nat.reduceEqDiff]
    refine CWp.seq ?_
    refine CWp.reg tt_ok ?_
    simp only [go_sem, Nat.reduceAdd, Nat.reduceLeDiff, Nat.reduceMul, Nat.reduceSub, Nat.reduceEqDiff]
    repeat (with_reducible refine And.intro (by first | exact True.intro | assumption | omega | (intros; omega) | (intro hg; simp only [Bool.and_eq_true, Bool.or_eq_true, decide_eq_true_eq, Bool.not_eq_true', decide_eq_false_iff_not] at hg; omega) | (simp only [decide_eq_true_eq, Bool.and_eq_true, Bool.or_eq_true, Bool.not_eq_true', decide_eq_false_iff_not]; omega) | (intros; simp_all; done) | (intros; simp_all; omega)) ?_)
    refine CWp.seq ?_
    refine CWp.reg tt_ok ?_
    simp only [go_sem, Nat.reduceAdd, Nat.reduceLeDiff, Nat.reduceMul, Nat.reduceSub, Nat.reduceEqDiff]
    refine COps.pure has12 rfl rfl (by simp) (fun _ => p1) (evalC_sound tt_ok _ _ ?_)
    simp only [go_sem, Nat.reduceAdd, Nat.reduceLeDiff, Nat.reduceMul, Nat.reduceSub, Nat.reduceEqDiff]
    refine CWp.seq ?_
    refine CWp.seq ?_
    refine CWp.reg tt_ok ?_
    simp only [go_sem, Nat.reduceAdd, Nat.reduceLeDiff, Nat.reduceMul, Nat.reduceSub, Nat.reduceEqDiff, toks_len]
    rcases hor with ⟨ts, hS, h2⟩ | ⟨i, e, he, _, h2⟩
    · rw [h2]
      obtain ⟨t0, ts0, hne⟩ := hS.ne
      have hlen : 0 < ts.length := by rw [hne]; simp
      have hl1 := scanM_len s syS
      rw [h2] at hl1
      simp only at hl1
      have hj : a % ts.length < ts.length := Nat.mod_lt _ hlen
      have hj5 : b % 5 < 5 := Nat.mod_lt _ (by omega)
      obtain ⟨sp, hsp⟩ : ∃ sp, spaceT[b % 5]? = some sp := ⟨_, List.getElem?_eq_getElem hj5⟩
      have hsp2 := strs_at spaceT (b % 5) sp hsp
      replace hsp2 : ([.str [32], .str [10], .str [9, 13], .str [45, 45, 32, 97, 32, 34, 98, 32, 51, 10], .str [10, 10]] : List AV)[b % 5]? = some (.str sp) := hsp2
      have hta := List.getElem?_eq_getElem hj
      generalize ts[a % ts.length] = t at hta
      have htk := toks_at ts _ t hta
      have hblank := blanks sp (List.mem_of_getElem? hsp)
      obtain ⟨g1, ts', g2, g3⟩ := spaces_plain s sp hblank hc2 ts h2 _ t hta
      have hspl := hblank.len
      have p2 := scanP_spec .full (s.take t.2.2 ++ (sp ++ s.drop t.2.2)) syS (by simp; omega) hx (by decide)
      rw [g2] at p2
      replace p2 : Pure Tryd.prog 12 [.str (s.take t.2.2 ++ (sp ++ s.drop t.2.2)), .sl .full 1 [.str [42], .str [60, 61], .str [105, 102]]] (.tup [.sl .no 3 (toks ts'), .int .i64 0, .int .i64 0]) := p2
      have p2' : ∀ x, x = s.take t.2.2 ++ (sp ++ s.drop t.2.2) → Pure Tryd.prog 12 [.str x, .sl .full 1 [.str [42], .str [60, 61], .str [105, 102]]] (.tup [.sl .no 3 (toks ts'), .int .i64 0, .int .i64 0]) := by
        rintro _ rfl
        exact p2
      have hl2 := g3.len
      have p3 := same_spec .no .no ts ts' true (by omega) (by omega)
      rw [alike_same g3] at p3
      have m1 := tmod_nat a ts.length
      have m2 : (b : Int).tmod 5 = ((b % 5 : Nat) : Int) := tmod_nat b 5
      have hz : decide ((ts.length : Int) = 0) = false := decide_eq_false (by omega)
      refine CWp.cond rfl (fun h => absurd h (by rw [hz]; simp)) (fun _ => ?_)
      refine CWp.skip ?_
      simp only [go_sem, Nat.reduceAdd, Nat.reduceLeDiff, Nat.reduceMul, Nat.reduceSub, Nat.reduceEqDiff]
      refine CWp.seq ?_
      refine CWp.reg tt_ok ?_
      simp only [go_sem, Nat.reduceAdd, Nat.reduceLeDiff, Nat.reduceMul, Nat.reduceSub, Nat.reduceEqDiff, toks_len, quorem, m1, htk, tokA]
      repeat (with_reducible refine And.intro (by first | exact True.intro | assumption | omega | (intros; omega) | (intro hg; simp only [Bool.and_eq_true, Bool.or_eq_true, decide_eq_true_eq, Bool.not_eq_true', decide_eq_false_iff_not] at hg; omega) | (simp only [decide_eq_true_eq, Bool.and_eq_true, Bool.or_eq_true, Bool.not_eq_true', decide_eq_false_iff_not]; omega) | (intros; simp_all; done) | (intros; simp_all; omega)) ?_)
      refine CWp.seq ?_
      refine CWp.seq ?_
      refine CWp.reg tt_ok ?_
      simp only [go_sem, Nat.reduceAdd, Nat.reduceLeDiff, Nat.reduceMul, Nat.reduceSub, Nat.reduceEqDiff]
      repeat (with_reducible refine And.intro (by first | exact True.intro | assumption | omega | (intros; omega) | (intro hg; simp only [Bool.and_eq_true, Bool.or_eq_true, decide_eq_true_eq, Bool.not_eq_true', decide_eq_false_iff_not] at hg; omega) | (simp only [decide_eq_true_eq, Bool.and_eq_true, Bool.or_eq_true, Bool.not_eq_true', decide_eq_false_iff_not]; omega) | (intros; simp_all; done) | (intros; simp_all; omega)) ?_)
      have hz1 : decide ((t.2.2 : Int) < 0) = false := decide_eq_false (by omega)
      have hz2 : decide ((s.length : Int) < (t.2.2 : Int)) = false := decide_eq_false (by omega)
      refine CWp.cond rfl (fun h => absurd h (by rw [hz1, hz2]; simp)) (fun _ => ?_)
      refine CWp.skip ?_
      simp only [go_sem, Nat.reduceAdd, Nat.reduceLeDiff, Nat.reduceMul, Nat.reduceSub, Nat.reduceEqDiff]
      refine CWp.seq ?_
      refine CWp.reg tt_ok ?_
      simp only [go_sem, Nat.reduceAdd, Nat.reduceLeDiff, Nat.reduceMul, Nat.reduceSub, Nat.reduceEqDiff, quorem, m2, hsp2]
      repeat (with_reducible refine And.intro (by first | exact True.intro | assumption | omega | (intros; omega) | (intro hg; simp only [Bool.and_eq_true, Bool.or_eq_true, decide_eq_true_eq, Bool.not_eq_true', decide_eq_false_iff_not] at hg; omega) | (simp only [decide_eq_true_eq, Bool.and_eq_true, Bool.or_eq_true, Bool.not_eq_true', decide_eq_false_iff_not]; omega) | (intros; simp_all; done) | (intros; simp_all; omega)) ?_)
      refine CWp.seq ?_
      refine CWp.dreg mixed tt_ok dr7_0 ?_
      repeat (first | with_reducible refine And.intro (by first | exact True.intro | assumption | omega | (intros; omega) | (intro hg; simp only [Bool.and_eq_true, Bool.or_eq_true, decide_eq_true_eq, Bool.not_eq_true', decide_eq_false_iff_not] at hg; omega) | (simp only [decide_eq_true_eq, Bool.and_eq_true, Bool.or_eq_true, Bool.not_eq_true', decide_eq_false_iff_not]; omega) | (intros; simp_all; done) | (intros; simp_all; omega)) ?_ | (with_reducible refine evalD_step ?_; simp only [qval, factOf, pev, St.get, St.put, rd, lp, gval, icmp, scmp, bcmp, arith, quorem, nlB, isNil, bound, fillA, rdL, pickT, pickL, extL, TV.ext, TV.sc, AV.cells, am_one_bool, am_one_int, am_one_str, am_one_nilp, am_one_ptr, am_one_eptr, am_one_sl, am_one_map, am_one_nilmap, am_one_fn, am_one_nilfn, am_one_iface, am_one_niliface, am_one_raw, am_one_agg, am_one_tup, am_one_junk, InR, findS, List.getElem?_cons_succ, List.getElem?_cons_zero, Option.getD_some, Option.getD_none, List.set_cons_succ, List.set_cons_zero, List.map_cons, List.map_nil, List.length_cons, List.length_nil, List.take_succ_cons, List.take_zero, List.drop_succ_cons, List.drop_zero, List.getElem?_nil, and_true, true_and, implies_true, forall_const, Bool.true_and, Bool.and_true, Bool.true_eq_false, Bool.false_eq_true, Option.map_some, Option.map_none, cond_true, cond_false, Bool.not_true, Bool.not_false, if_true, if_false, ite_true, ite_false, decide_true, decide_false, am_cond_false, am_cond_true, am_beq_true, am_beq_false, am_imp_self, am_imp_imp, am_not_imp, am_and_imp, am_and_imp', am_imp_and, am_mem_one, am_mem_cons, am_mem_nil, am_nat_add, Int.toNat_natCast, Nat.le_refl, Nat.reduceAdd, Nat.reduceLeDiff, Nat.reduceMul, Nat.reduceSub, Nat.reduceEqDiff, eq_self]))
      refine evalD_call (DOps.pure tt_ok has12 rfl rfl rfl (by simp) (fun _ => p2' _ (by simp)) (by simp [facts, memB]) (evalD_sound tt_ok _ _ _ ?_))
      repeat (first | with_reducible refine And.intro (by first | exact True.intro | assumption | omega | (intros; omega) | (intro hg; simp only [Bool.and_eq_true, Bool.or_eq_true, decide_eq_true_eq, Bool.not_eq_true', decide_eq_false_iff_not] at hg; omega) | (simp only [decide_eq_true_eq, Bool.and_eq_true, Bool.or_eq_true, Bool.not_eq_true', decide_eq_false_iff_not]; omega) | (intros; simp_all; done) | (intros; simp_all; omega)) ?_ | (with_reducible refine evalD_step ?_; simp only [qval, factOf, pev, St.get, St.put, rd, lp, gval, icmp, scmp, bcmp, arith, quorem, nlB, isNil, bound, fillA, rdL, pickT, pickL, extL, TV.ext, TV.sc, AV.cells, am_one_bool, am_one_int, am_one_str, am_one_nilp, am_one_ptr, am_one_eptr, am_one_sl, am_one_map, am_one_nilmap, am_one_fn, am_one_nilfn, am_one_iface, am_one_niliface, am_one_raw, am_one_agg, am_one_tup, am_one_junk, InR, findS, List.getElem?_cons_succ, List.getElem?_cons_zero, Option.getD_some, Option.getD_none, List.set_cons_succ, List.set_cons_zero, List.map_cons, List.map_nil, List.length_cons, List.length_nil, List.take_succ_cons, List.take_zero, List.drop_succ_cons, List.drop_zero, List.getElem?_nil, and_true, true_and, implies_true, forall_const, Bool.true_and, Bool.and_true, Bool.true_eq_false, Bool.false_eq_true, Option.map_some, Option.map_none, cond_true, cond_false, Bool.not_true, Bool.not_false, if_true, if_false, ite_true, ite_false, decide_true, decide_false, am_cond_false, am_cond_true, am_beq_true, am_beq_false, am_imp_self, am_imp_imp, am_not_imp, am_and_imp, am_and_imp', am_imp_and, am_mem_one, am_mem_cons, am_mem_nil, am_nat_add, Int.toNat_natCast, Nat.le_refl, Nat.reduceAdd, Nat.reduceLeDiff, Nat.reduceMul, Nat.reduceSub, Nat.reduceEqDiff, eq_self]))
      simp only [go_sem, Nat.reduceAdd, Nat.reduceLeDiff, Nat.reduceMul, Nat.reduceSub, Nat.reduceEqDiff]
      refine CWp.seq ?_
      refine CWp.reg tt_ok ?_
      simp only [go_sem, Nat.reduceAdd, Nat.reduceLeDiff, Nat.reduceMul, Nat.reduceSub, Nat.reduceEqDiff]
      refine COps.pure has11 rfl rfl (by simp) (fun _ => awake_spec) (evalC_sound tt_ok _ _ ?_)
      simp only [go_sem, Nat.reduceAdd, Nat.reduceLeDiff, Nat.reduceMul, Nat.reduceSub, Nat.reduceEqDiff]
      refine COps.pure has14 rfl rfl (by simp) (fun _ => p3) (evalC_sound tt_ok _ _ ?_)
      simp only [go_sem, Nat.reduceAdd, Nat.reduceLeDiff, Nat.reduceMul, Nat.reduceSub, Nat.reduceEqDiff]
      repeat (first | refine CWp.seq ?_ | refine CWp.block ?_ | (refine CWp.ret ?_; try simp only [go_sem, Nat.reduceAdd, Nat.reduceLeDiff, Nat.reduceMul, Nat.reduceSub, Nat.reduceEqDiff]) | (refine CWp.skip ?_; try simp only [go_sem, Nat.reduceAdd, Nat.reduceLeDiff, Nat.reduceMul, Nat.reduceSub, Nat.reduceEqDiff]) | (refine CWp.reg tt_ok ?_; simp only [go_sem, Nat.reduceAdd, Nat.reduceLeDiff, Nat.reduceMul, Nat.reduceSub, Nat.reduceEqDiff]))
      exact Fin.ret1 (.inl rfl) rfl rfl rfl (Mem.sub.refl _) ⟨by simp, rfl⟩
    · rw [h2]
      refine CWp.cond rfl (fun _ => ?_) (fun h => absurd h (by simp))
      refine CWp.seq ?_
      refine CWp.reg tt_ok ?_
      simp only [go_sem, Nat.reduceAdd, Nat.reduceLeDiff, Nat.reduceMul, Nat.reduceSub, Nat.reduceEqDiff]
      refine COps.pure has11 rfl rfl (by simp) (fun _ => awake_spec) (evalC_sound tt_ok _ _ ?_)
      simp only [go_sem, Nat.reduceAdd, Nat.reduceLeDiff, Nat.reduceMul, Nat.reduceSub, Nat.reduceEqDiff]
      repeat (first | refine CWp.seq ?_ | refine CWp.block ?_ | (refine CWp.ret ?_; try simp only [go_sem, Nat.reduceAdd, Nat.reduceLeDiff, Nat.reduceMul, Nat.reduceSub, Nat.reduceEqDiff]) | (refine CWp.skip ?_; try simp only [go_sem, Nat.reduceAdd, Nat.reduceLeDiff, Nat.reduceMul, Nat.reduceSub, Nat.reduceEqDiff]) | (refine CWp.reg tt_ok ?_; simp only [go_sem, Nat.reduceAdd, Nat.reduceLeDiff, Nat.reduceMul, Nat.reduceSub, Nat.reduceEqDiff]))
      refine Fin.ret1 (.inl rfl) rfl rfl rfl (Mem.sub.refl _) ⟨?_, rfl⟩
      have : decide ((e : Int) = 0) = false := decide_eq_false (by omega)
      simp [he]
end Go.Proofs.LxA
