import Derived.Test.YtpephlhhdefdgaaDoorScO
set_option linter.unusedVariables false
set_option linter.unusedSimpArgs false
set_option maxRecDepth 100000
namespace Go.Proofs.ScA
open Go Go.Am Go.Proofs Go.RowKit
set_option linter.unusedSectionVars false

theorem any_le {l : List (List UInt8)} {n : Nat} (h : l.any (fun x => decide (n < x.length)) = false) : ∀ x ∈ l, x.length ≤ n := by
  intro x hx
  have := List.any_eq_false.1 h x hx
  simpa using this
theorem sizes_le (l : List (List UInt8)) (n : Nat) (h : ∀ x ∈ l, x.length ≤ n) : sizesS l ≤ l.length * (n + 1) := by
  unfold sizesS
  induction l with
  | nil => simp
  | cons x l ih =>
    have h1 := h x (by simp)
    have h2 := ih fun y hy => h y (by simp [hy])
    simp only [List.map_cons, List.flatten_cons, List.length_append, List.length_cons, List.length_nil]
    rw [Nat.add_mul]
    omega
theorem fine_of_few (s : SA) (h : fewM s = true) : s.fine := by
  unfold fewM at h
  simp only [Bool.and_eq_true, decide_eq_true_eq, Bool.not_eq_true'] at h
  obtain ⟨henv, ⟨⟨⟨⟨⟨h1, h2⟩, h3⟩, h4⟩, h5⟩, h6⟩⟩ := h
  unfold shortM at h2
  simp only [Bool.and_eq_true, decide_eq_true_eq, Bool.not_eq_true'] at h2
  have hns := any_le h2.2
  have hop := any_le h4
  refine ⟨⟨by omega, fun d hd => ?_, by omega, by omega, hns, fun x hx => by have := hop x hx; omega⟩, ?_⟩
  · have := List.all_eq_true.1 henv d hd
    unfold smallD at this
    simp only [Bool.and_eq_true, Bool.not_eq_true', Bool.or_eq_false_iff, decide_eq_false_iff_not] at this
    obtain ⟨⟨⟨a1, a2⟩, a3⟩, a4, a5⟩ := this
    refine ⟨by omega, by omega, by omega, fun c hc => ?_, fun c hc => ?_⟩
    · have := List.any_eq_false.1 a4 c hc
      simp only [decide_eq_true_eq] at this
      omega
    · have := List.any_eq_false.1 a5 c hc
      simp only [decide_eq_true_eq] at this
      omega
  · have := sizes_le s.ns 100 hns
    have h20 := h2.1
    have : s.ns.length * (100 + 1) ≤ 20 * 101 := Nat.mul_le_mul_right _ h20
    omega

theorem law_spec (s : SA) (hs : okSt s) (nm : List UInt8) (hnm : okL nm.length) : Pure Tryd.prog 3 [stA s, .str nm] (.bool true) := fun M => by
  unfold okL at hnm
  refine enter3 _ _ ?_
  simp only [cc3]
  refine CWp.seq ?_
  refine CWp.reg tt_ok ?_
  simp only [go_sem, Nat.reduceAdd, Nat.reduceLeDiff, Nat.reduceMul, Nat.reduceSub, Nat.reduceEqDiff, stA, stC]
  refine CWp.seq ?_
  refine CWp.seq ?_
  refine CWp.reg tt_ok ?_
  simp only [go_sem, Nat.reduceAdd, Nat.reduceLeDiff, Nat.reduceMul, Nat.reduceSub, Nat.reduceEqDiff]
  have hf := few_spec s hs
  simp only [stA, stC] at hf
  refine COps.pure has4 rfl rfl (by simp) (fun _ => hf) (evalC_sound tt_ok _ _ ?_)
  simp only [go_sem, Nat.reduceAdd, Nat.reduceLeDiff, Nat.reduceMul, Nat.reduceSub, Nat.reduceEqDiff]
  repeat (with_reducible refine And.intro (by first | exact True.intro | assumption | omega | (intros; omega) | (intro hg; simp only [Bool.and_eq_true, Bool.or_eq_true, decide_eq_true_eq, Bool.not_eq_true', decide_eq_false_iff_not] at hg; omega) | (simp only [decide_eq_true_eq, Bool.and_eq_true, Bool.or_eq_true, Bool.not_eq_true', decide_eq_false_iff_not]; omega) | (intros; simp_all; done) | (intros; simp_all; omega)) ?_)
  have hk : decide ((200 : Int) < (nm.length : Int)) = decide (200 < nm.length) := decide_eq_decide.2 (by omega)
  simp only [hk]
  refine CWp.cond rfl ?_ ?_ <;> intro hc
  · refine CWp.seq ?_
    refine CWp.reg tt_ok ?_
    simp only [go_sem, Nat.reduceAdd, Nat.reduceLeDiff, Nat.reduceMul, Nat.reduceSub, Nat.reduceEqDiff]
    refine COps.pure has5 rfl rfl (by simp) (fun _ => awake_spec) (evalC_sound tt_ok _ _ ?_)
    simp only [go_sem, Nat.reduceAdd, Nat.reduceLeDiff, Nat.reduceMul, Nat.reduceSub, Nat.reduceEqDiff]
    repeat (first | refine CWp.seq ?_ | refine CWp.block ?_ | (refine CWp.ret ?_; try simp only [go_sem, Nat.reduceAdd, Nat.reduceLeDiff, Nat.reduceMul, Nat.reduceSub, Nat.reduceEqDiff]) | (refine CWp.skip ?_; try simp only [go_sem, Nat.reduceAdd, Nat.reduceLeDiff, Nat.reduceMul, Nat.reduceSub, Nat.reduceEqDiff]) | (refine CWp.reg tt_ok ?_; simp only [go_sem, Nat.reduceAdd, Nat.reduceLeDiff, Nat.reduceMul, Nat.reduceSub, Nat.reduceEqDiff]))
    exact Fin.ret1 (.inl rfl) rfl rfl rfl (Mem.sub.refl _) ⟨rfl, rfl⟩
  · have hc2 : fewM s = true ∧ nm.length ≤ 200 := by
      revert hc
      cases fewM s <;> simp
    have hfine := fine_of_few s hc2.1
    have hn : nm.length ≤ 1000 := by omega
    have r6 := resolve_spec s hfine nm hn
    have r7 := resolveR_spec s hfine nm hn
    have r8 := shortest_spec s hfine nm hn
    have r9 := shortestR_spec s hfine nm hn
    have r10 := declared_spec s hfine.1 nm (by omega)
    have r11 := declaredR_spec s hfine.1 nm (by omega)
    have hsz : sizesS s.ns ≤ 1000000 := Nat.le_trans hfine.2 (by omega)
    have r12 := qualify_spec s nm (Nat.le_trans hfine.1.2.2.1 (by omega)) hsz (by omega)
    have r13 := qualifyR_spec s nm (Nat.le_trans hfine.1.2.2.1 (by omega)) hsz (by omega)
    simp only [stA, stC, resA] at r6 r7 r8 r9 r10 r11 r12 r13
    generalize (resolveM s nm) = x1 at *
    generalize (shortestM s nm) = x2 at *
    generalize (declaredM s nm) = x3 at *
    generalize (joinedM s.ns nm) = x4 at *
    refine CWp.skip ?_
    simp only [go_sem, Nat.reduceAdd, Nat.reduceLeDiff, Nat.reduceMul, Nat.reduceSub, Nat.reduceEqDiff]
    refine CWp.seq ?_
    refine CWp.reg tt_ok ?_
    simp only [go_sem, Nat.reduceAdd, Nat.reduceLeDiff, Nat.reduceMul, Nat.reduceSub, Nat.reduceEqDiff]
    refine COps.pure has6 rfl rfl (by simp) (fun _ => r6) (evalC_sound tt_ok _ _ ?_)
    simp only [go_sem, Nat.reduceAdd, Nat.reduceLeDiff, Nat.reduceMul, Nat.reduceSub, Nat.reduceEqDiff]
    refine CWp.seq ?_
    refine CWp.reg tt_ok ?_
    simp only [go_sem, Nat.reduceAdd, Nat.reduceLeDiff, Nat.reduceMul, Nat.reduceSub, Nat.reduceEqDiff]
    refine COps.pure has7 rfl rfl (by simp) (fun _ => r7) (evalC_sound tt_ok _ _ ?_)
    simp only [go_sem, Nat.reduceAdd, Nat.reduceLeDiff, Nat.reduceMul, Nat.reduceSub, Nat.reduceEqDiff]
    refine CWp.seq ?_
    refine CWp.reg tt_ok ?_
    simp only [go_sem, Nat.reduceAdd, Nat.reduceLeDiff, Nat.reduceMul, Nat.reduceSub, Nat.reduceEqDiff]
    refine COps.pure has8 rfl rfl (by simp) (fun _ => r8) (evalC_sound tt_ok _ _ ?_)
    simp only [go_sem, Nat.reduceAdd, Nat.reduceLeDiff, Nat.reduceMul, Nat.reduceSub, Nat.reduceEqDiff]
    refine CWp.seq ?_
    refine CWp.reg tt_ok ?_
    simp only [go_sem, Nat.reduceAdd, Nat.reduceLeDiff, Nat.reduceMul, Nat.reduceSub, Nat.reduceEqDiff]
    refine COps.pure has9 rfl rfl (by simp) (fun _ => r9) (evalC_sound tt_ok _ _ ?_)
    simp only [go_sem, Nat.reduceAdd, Nat.reduceLeDiff, Nat.reduceMul, Nat.reduceSub, Nat.reduceEqDiff]
    refine CWp.seq ?_
    refine CWp.dreg mixed tt_ok dr3_0 ?_
    repeat (first | with_reducible refine And.intro (by first | exact True.intro | assumption | omega | (intros; omega) | (intro hg; simp only [Bool.and_eq_true, Bool.or_eq_true, decide_eq_true_eq, Bool.not_eq_true', decide_eq_false_iff_not] at hg; omega) | (simp only [decide_eq_true_eq, Bool.and_eq_true, Bool.or_eq_true, Bool.not_eq_true', decide_eq_false_iff_not]; omega) | (intros; simp_all; done) | (intros; simp_all; omega)) ?_ | (with_reducible refine evalD_step ?_; simp only [qval, factOf, pev, St.get, St.put, rd, lp, gval, icmp, scmp, bcmp, arith, quorem, nlB, isNil, bound, fillA, rdL, pickT, pickL, extL, TV.ext, TV.sc, AV.cells, am_one_bool, am_one_int, am_one_str, am_one_nilp, am_one_ptr, am_one_eptr, am_one_sl, am_one_map, am_one_nilmap, am_one_fn, am_one_nilfn, am_one_iface, am_one_niliface, am_one_raw, am_one_agg, am_one_tup, am_one_junk, InR, findS, List.getElem?_cons_succ, List.getElem?_cons_zero, Option.getD_some, Option.getD_none, List.set_cons_succ, List.set_cons_zero, List.map_cons, List.map_nil, List.length_cons, List.length_nil, List.take_succ_cons, List.take_zero, List.drop_succ_cons, List.drop_zero, List.getElem?_nil, and_true, true_and, implies_true, forall_const, Bool.true_and, Bool.and_true, Bool.true_eq_false, Bool.false_eq_true, Option.map_some, Option.map_none, cond_true, cond_false, Bool.not_true, Bool.not_false, if_true, if_false, ite_true, ite_false, decide_true, decide_false, am_cond_false, am_cond_true, am_beq_true, am_beq_false, am_imp_self, am_imp_imp, am_not_imp, am_and_imp, am_and_imp', am_imp_and, am_mem_one, am_mem_cons, am_mem_nil, am_nat_add, Int.toNat_natCast, Nat.le_refl, Nat.reduceAdd, Nat.reduceLeDiff, Nat.reduceMul, Nat.reduceSub, Nat.reduceEqDiff, eq_self]))
    refine evalD_call (DOps.pure tt_ok has10 rfl rfl rfl (by simp) (fun _ => r10) ?_ (evalD_sound tt_ok _ _ _ ?_))
    · simp only [facts, memB, qfact, St.mem, qval, factOf, pev, St.get, St.put, rd, lp, gval, icmp, scmp, bcmp, arith, quorem, nlB, isNil, bound, fillA, rdL, pickT, pickL, extL, TV.ext, TV.sc, AV.cells, am_one_bool, am_one_int, am_one_str, am_one_nilp, am_one_ptr, am_one_eptr, am_one_sl, am_one_map, am_one_nilmap, am_one_fn, am_one_nilfn, am_one_iface, am_one_niliface, am_one_raw, am_one_agg, am_one_tup, am_one_junk, InR, findS, List.getElem?_cons_succ, List.getElem?_cons_zero, Option.getD_some, Option.getD_none, List.set_cons_succ, List.set_cons_zero, List.map_cons, List.map_nil, List.length_cons, List.length_nil, List.take_succ_cons, List.take_zero, List.drop_succ_cons, List.drop_zero, List.getElem?_nil, and_true, true_and, implies_true, forall_const, Bool.true_and, Bool.and_true, Bool.true_eq_false, Bool.false_eq_true, Option.map_some, Option.map_none, cond_true, cond_false, Bool.not_true, Bool.not_false, if_true, if_false, ite_true, ite_false, decide_true, decide_false, am_cond_false, am_cond_true, am_beq_true, am_beq_false, am_imp_self, am_imp_imp, am_not_imp, am_and_imp, am_and_imp', am_imp_and, am_mem_one, am_mem_cons, am_mem_nil, am_nat_add, Int.toNat_natCast, Nat.le_refl, Nat.reduceAdd, Nat.reduceLeDiff, Nat.reduceMul, Nat.reduceSub, Nat.reduceEqDiff]
      repeat' (first | exact True.intro | refine And.intro ?_ ?_)
    repeat (first | with_reducible refine And.intro (by first | exact True.intro | assumption | omega | (intros; omega) | (intro hg; simp only [Bool.and_eq_true, Bool.or_eq_true, decide_eq_true_eq, Bool.not_eq_true', decide_eq_false_iff_not] at hg; omega) | (simp only [decide_eq_true_eq, Bool.and_eq_true, Bool.or_eq_true, Bool.not_eq_true', decide_eq_false_iff_not]; omega) | (intros; simp_all; done) | (intros; simp_all; omega)) ?_ | (with_reducible refine evalD_step ?_; simp only [qval, factOf, pev, St.get, St.put, rd, lp, gval, icmp, scmp, bcmp, arith, quorem, nlB, isNil, bound, fillA, rdL, pickT, pickL, extL, TV.ext, TV.sc, AV.cells, am_one_bool, am_one_int, am_one_str, am_one_nilp, am_one_ptr, am_one_eptr, am_one_sl, am_one_map, am_one_nilmap, am_one_fn, am_one_nilfn, am_one_iface, am_one_niliface, am_one_raw, am_one_agg, am_one_tup, am_one_junk, InR, findS, List.getElem?_cons_succ, List.getElem?_cons_zero, Option.getD_some, Option.getD_none, List.set_cons_succ, List.set_cons_zero, List.map_cons, List.map_nil, List.length_cons, List.length_nil, List.take_succ_cons, List.take_zero, List.drop_succ_cons, List.drop_zero, List.getElem?_nil, and_true, true_and, implies_true, forall_const, Bool.true_and, Bool.and_true, Bool.true_eq_false, Bool.false_eq_true, Option.map_some, Option.map_none, cond_true, cond_false, Bool.not_true, Bool.not_false, if_true, if_false, ite_true, ite_false, decide_true, decide_false, am_cond_false, am_cond_true, am_beq_true, am_beq_false, am_imp_self, am_imp_imp, am_not_imp, am_and_imp, am_and_imp', am_imp_and, am_mem_one, am_mem_cons, am_mem_nil, am_nat_add, Int.toNat_natCast, Nat.le_refl, Nat.reduceAdd, Nat.reduceLeDiff, Nat.reduceMul, Nat.reduceSub, Nat.reduceEqDiff, eq_self]))
    refine evalD_call (DOps.pure tt_ok has11 rfl rfl rfl (by simp) (fun _ => r11) (by simp [facts, memB]) (evalD_sound tt_ok _ _ _ ?_))
    repeat (first | with_reducible refine And.intro (by first | exact True.intro | assumption | omega | (intros; omega) | (intro hg; simp only [Bool.and_eq_true, Bool.or_eq_true, decide_eq_true_eq, Bool.not_eq_true', decide_eq_false_iff_not] at hg; omega) | (simp only [decide_eq_true_eq, Bool.and_eq_true, Bool.or_eq_true, Bool.not_eq_true', decide_eq_false_iff_not]; omega) | (intros; simp_all; done) | (intros; simp_all; omega)) ?_ | (with_reducible refine evalD_step ?_; simp only [qval, factOf, pev, St.get, St.put, rd, lp, gval, icmp, scmp, bcmp, arith, quorem, nlB, isNil, bound, fillA, rdL, pickT, pickL, extL, TV.ext, TV.sc, AV.cells, am_one_bool, am_one_int, am_one_str, am_one_nilp, am_one_ptr, am_one_eptr, am_one_sl, am_one_map, am_one_nilmap, am_one_fn, am_one_nilfn, am_one_iface, am_one_niliface, am_one_raw, am_one_agg, am_one_tup, am_one_junk, InR, findS, List.getElem?_cons_succ, List.getElem?_cons_zero, Option.getD_some, Option.getD_none, List.set_cons_succ, List.set_cons_zero, List.map_cons, List.map_nil, List.length_cons, List.length_nil, List.take_succ_cons, List.take_zero, List.drop_succ_cons, List.drop_zero, List.getElem?_nil, and_true, true_and, implies_true, forall_const, Bool.true_and, Bool.and_true, Bool.true_eq_false, Bool.false_eq_true, Option.map_some, Option.map_none, cond_true, cond_false, Bool.not_true, Bool.not_false, if_true, if_false, ite_true, ite_false, decide_true, decide_false, am_cond_false, am_cond_true, am_beq_true, am_beq_false, am_imp_self, am_imp_imp, am_not_imp, am_and_imp, am_and_imp', am_imp_and, am_mem_one, am_mem_cons, am_mem_nil, am_nat_add, Int.toNat_natCast, Nat.le_refl, Nat.reduceAdd, Nat.reduceLeDiff, Nat.reduceMul, Nat.reduceSub, Nat.reduceEqDiff, eq_self]))
    refine evalD_call (DOps.pure tt_ok has12 rfl rfl rfl (by simp) (fun _ => r12) ?_ (evalD_sound tt_ok _ _ _ ?_))
    · simp only [facts, memB, qfact, St.mem, qval, factOf, pev, St.get, St.put, rd, lp, gval, icmp, scmp, bcmp, arith, quorem, nlB, isNil, bound, fillA, rdL, pickT, pickL, extL, TV.ext, TV.sc, AV.cells, am_one_bool, am_one_int, am_one_str, am_one_nilp, am_one_ptr, am_one_eptr, am_one_sl, am_one_map, am_one_nilmap, am_one_fn, am_one_nilfn, am_one_iface, am_one_niliface, am_one_raw, am_one_agg, am_one_tup, am_one_junk, InR, findS, List.getElem?_cons_succ, List.getElem?_cons_zero, Option.getD_some, Option.getD_none, List.set_cons_succ, List.set_cons_zero, List.map_cons, List.map_nil, List.length_cons, List.length_nil, List.take_succ_cons, List.take_zero, List.drop_succ_cons, List.drop_zero, List.getElem?_nil, and_true, true_and, implies_true, forall_const, Bool.true_and, Bool.and_true, Bool.true_eq_false, Bool.false_eq_true, Option.map_some, Option.map_none, cond_true, cond_false, Bool.not_true, Bool.not_false, if_true, if_false, ite_true, ite_false, decide_true, decide_false, am_cond_false, am_cond_true, am_beq_true, am_beq_false, am_imp_self, am_imp_imp, am_not_imp, am_and_imp, am_and_imp', am_imp_and, am_mem_one, am_mem_cons, am_mem_nil, am_nat_add, Int.toNat_natCast, Nat.le_refl, Nat.reduceAdd, Nat.reduceLeDiff, Nat.reduceMul, Nat.reduceSub, Nat.reduceEqDiff]
      repeat' (first | exact True.intro | refine And.intro ?_ ?_)
    repeat (first | with_reducible refine And.intro (by first | exact True.intro | assumption | omega | (intros; omega) | (intro hg; simp only [Bool.and_eq_true, Bool.or_eq_true, decide_eq_true_eq, Bool.not_eq_true', decide_eq_false_iff_not] at hg; omega) | (simp only [decide_eq_true_eq, Bool.and_eq_true, Bool.or_eq_true, Bool.not_eq_true', decide_eq_false_iff_not]; omega) | (intros; simp_all; done) | (intros; simp_all; omega)) ?_ | (with_reducible refine evalD_step ?_; simp only [qval, factOf, pev, St.get, St.put, rd, lp, gval, icmp, scmp, bcmp, arith, quorem, nlB, isNil, bound, fillA, rdL, pickT, pickL, extL, TV.ext, TV.sc, AV.cells, am_one_bool, am_one_int, am_one_str, am_one_nilp, am_one_ptr, am_one_eptr, am_one_sl, am_one_map, am_one_nilmap, am_one_fn, am_one_nilfn, am_one_iface, am_one_niliface, am_one_raw, am_one_agg, am_one_tup, am_one_junk, InR, findS, List.getElem?_cons_succ, List.getElem?_cons_zero, Option.getD_some, Option.getD_none, List.set_cons_succ, List.set_cons_zero, List.map_cons, List.map_nil, List.length_cons, List.length_nil, List.take_succ_cons, List.take_zero, List.drop_succ_cons, List.drop_zero, List.getElem?_nil, and_true, true_and, implies_true, forall_const, Bool.true_and, Bool.and_true, Bool.true_eq_false, Bool.false_eq_true, Option.map_some, Option.map_none, cond_true, cond_false, Bool.not_true, Bool.not_false, if_true, if_false, ite_true, ite_false, decide_true, decide_false, am_cond_false, am_cond_true, am_beq_true, am_beq_false, am_imp_self, am_imp_imp, am_not_imp, am_and_imp, am_and_imp', am_imp_and, am_mem_one, am_mem_cons, am_mem_nil, am_nat_add, Int.toNat_natCast, Nat.le_refl, Nat.reduceAdd, Nat.reduceLeDiff, Nat.reduceMul, Nat.reduceSub, Nat.reduceEqDiff, eq_self]))
    refine evalD_call (DOps.pure tt_ok has13 rfl rfl rfl (by simp) (fun _ => r13) (by simp [facts, memB]) (evalD_sound tt_ok _ _ _ ?_))
    repeat (first | with_reducible refine And.intro (by first | exact True.intro | assumption | omega | (intros; omega) | (intro hg; simp only [Bool.and_eq_true, Bool.or_eq_true, decide_eq_true_eq, Bool.not_eq_true', decide_eq_false_iff_not] at hg; omega) | (simp only [decide_eq_true_eq, Bool.and_eq_true, Bool.or_eq_true, Bool.not_eq_true', decide_eq_false_iff_not]; omega) | (intros; simp_all; done) | (intros; simp_all; omega)) ?_ | (with_reducible refine evalD_step ?_; simp only [qval, factOf, pev, St.get, St.put, rd, lp, gval, icmp, scmp, bcmp, arith, quorem, nlB, isNil, bound, fillA, rdL, pickT, pickL, extL, TV.ext, TV.sc, AV.cells, am_one_bool, am_one_int, am_one_str, am_one_nilp, am_one_ptr, am_one_eptr, am_one_sl, am_one_map, am_one_nilmap, am_one_fn, am_one_nilfn, am_one_iface, am_one_niliface, am_one_raw, am_one_agg, am_one_tup, am_one_junk, InR, findS, List.getElem?_cons_succ, List.getElem?_cons_zero, Option.getD_some, Option.getD_none, List.set_cons_succ, List.set_cons_zero, List.map_cons, List.map_nil, List.length_cons, List.length_nil, List.take_succ_cons, List.take_zero, List.drop_succ_cons, List.drop_zero, List.getElem?_nil, and_true, true_and, implies_true, forall_const, Bool.true_and, Bool.and_true, Bool.true_eq_false, Bool.false_eq_true, Option.map_some, Option.map_none, cond_true, cond_false, Bool.not_true, Bool.not_false, if_true, if_false, ite_true, ite_false, decide_true, decide_false, am_cond_false, am_cond_true, am_beq_true, am_beq_false, am_imp_self, am_imp_imp, am_not_imp, am_and_imp, am_and_imp', am_imp_and, am_mem_one, am_mem_cons, am_mem_nil, am_nat_add, Int.toNat_natCast, Nat.le_refl, Nat.reduceAdd, Nat.reduceLeDiff, Nat.reduceMul, Nat.reduceSub, Nat.reduceEqDiff, eq_self]))
    refine evalD_call (DOps.pure tt_ok has5 rfl rfl rfl (by simp) (fun _ => awake_spec) (by simp [facts, memB]) (evalD_sound tt_ok _ _ _ ?_))
    repeat (first | with_reducible refine And.intro (by first | exact True.intro | assumption | omega | (intros; omega) | (intro hg; simp only [Bool.and_eq_true, Bool.or_eq_true, decide_eq_true_eq, Bool.not_eq_true', decide_eq_false_iff_not] at hg; omega) | (simp only [decide_eq_true_eq, Bool.and_eq_true, Bool.or_eq_true, Bool.not_eq_true', decide_eq_false_iff_not]; omega) | (intros; simp_all; done) | (intros; simp_all; omega)) ?_ | (with_reducible refine evalD_step ?_; simp only [qval, factOf, pev, St.get, St.put, rd, lp, gval, icmp, scmp, bcmp, arith, quorem, nlB, isNil, bound, fillA, rdL, pickT, pickL, extL, TV.ext, TV.sc, AV.cells, am_one_bool, am_one_int, am_one_str, am_one_nilp, am_one_ptr, am_one_eptr, am_one_sl, am_one_map, am_one_nilmap, am_one_fn, am_one_nilfn, am_one_iface, am_one_niliface, am_one_raw, am_one_agg, am_one_tup, am_one_junk, InR, findS, List.getElem?_cons_succ, List.getElem?_cons_zero, Option.getD_some, Option.getD_none, List.set_cons_succ, List.set_cons_zero, List.map_cons, List.map_nil, List.length_cons, List.length_nil, List.take_succ_cons, List.take_zero, List.drop_succ_cons, List.drop_zero, List.getElem?_nil, and_true, true_and, implies_true, forall_const, Bool.true_and, Bool.and_true, Bool.true_eq_false, Bool.false_eq_true, Option.map_some, Option.map_none, cond_true, cond_false, Bool.not_true, Bool.not_false, if_true, if_false, ite_true, ite_false, decide_true, decide_false, am_cond_false, am_cond_true, am_beq_true, am_beq_false, am_imp_self, am_imp_imp, am_not_imp, am_and_imp, am_and_imp', am_imp_and, am_mem_one, am_mem_cons, am_mem_nil, am_nat_add, Int.toNat_natCast, Nat.le_refl, Nat.reduceAdd, Nat.reduceLeDiff, Nat.reduceMul, Nat.reduceSub, Nat.reduceEqDiff, eq_self]))
    simp only [go_sem, Nat.reduceAdd, Nat.reduceLeDiff, Nat.reduceMul, Nat.reduceSub, Nat.reduceEqDiff]
    repeat (first | refine CWp.seq ?_ | refine CWp.block ?_ | (refine CWp.ret ?_; try simp only [go_sem, Nat.reduceAdd, Nat.reduceLeDiff, Nat.reduceMul, Nat.reduceSub, Nat.reduceEqDiff]) | (refine CWp.skip ?_; try simp only [go_sem, Nat.reduceAdd, Nat.reduceLeDiff, Nat.reduceMul, Nat.reduceSub, Nat.reduceEqDiff]) | (refine CWp.reg tt_ok ?_; simp only [go_sem, Nat.reduceAdd, Nat.reduceLeDiff, Nat.reduceMul, Nat.reduceSub, Nat.reduceEqDiff]))
    exact Fin.ret1 (.inl rfl) rfl rfl rfl (Mem.sub.refl _) ⟨by simp, rfl⟩
end Go.Proofs.ScA
