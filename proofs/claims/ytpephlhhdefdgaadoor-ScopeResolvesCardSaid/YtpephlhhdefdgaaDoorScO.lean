import Derived.Test.YtpephlhhdefdgaaDoorScN
set_option linter.unusedVariables false
set_option linter.unusedSimpArgs false
set_option maxRecDepth 100000
namespace Go.Proofs.ScA
open Go Go.Am Go.Proofs Go.RowKit
set_option linter.unusedSectionVars false

def namesA : List (List UInt8) := [[97, 46, 120], [97, 46, 98, 46, 120], [99, 46, 120], [100, 46, 121], [120]]
def envA : List DA := namesA.map zeroD
def inA (o o1 o2 : Own) (l op : List (List UInt8)) : SA := { empS o envA with o5 := o1, ns := l, o6 := o2, opens := op }
theorem envA_small : ∀ d ∈ envA, d.small := by
  intro d hd
  simp only [envA, namesA, List.map_cons, List.map_nil, List.mem_cons, List.not_mem_nil, or_false] at hd
  rcases hd with rfl | rfl | rfl | rfl | rfl <;> exact ⟨by decide, by decide, by decide, by simp [zeroD], by simp [zeroD]⟩
theorem inA_fine (o o1 o2 : Own) (l op : List (List UInt8)) (h1 : l.length ≤ 5) (h2 : op.length ≤ 5) (h3 : ∀ x ∈ l, x.length ≤ 10) (h4 : ∀ x ∈ op, x.length ≤ 10) (h5 : sizesS l ≤ 100) : (inA o o1 o2 l op).fine := by
  refine ⟨⟨by show envA.length ≤ 1000; decide, envA_small, ?_, ?_, ?_, ?_⟩, ?_⟩
  · show l.length ≤ 1000; omega
  · show op.length ≤ 1000; omega
  · intro x hx; have := h3 x hx; omega
  · intro x hx; have := h4 x hx; omega
  · show sizesS l ≤ 900000; omega
theorem ev1 (o o1 o2 : Own) : resolveM (inA o o1 o2 [[97], [98]] []) [120] = ([97, 46, 98, 46, 120], 0) := by kernel_rfl
theorem ev2 (o o1 o2 : Own) : resolveM (inA o o1 o2 [[97]] []) [120] = ([97, 46, 120], 0) := by kernel_rfl
theorem ev3 (o o1 o2 : Own) : resolveM (inA o o1 o2 [[99, 46, 100]] []) [120] = ([120], 0) := by kernel_rfl
theorem ev4 (o o1 o2 : Own) : resolveM (inA o o1 o2 [[99, 46, 100]] [[97]]) [120] = ([97, 46, 120], 0) := by kernel_rfl
theorem ev5 (o o1 o2 : Own) : resolveM (inA o o1 o2 [] [[97], [99]]) [120] = ([], 8) := by kernel_rfl
theorem ev6 (o o1 o2 : Own) : shortestM (inA o o1 o2 [[97]] []) [97, 46, 98, 46, 120] = ([98, 46, 120], 0) := by kernel_rfl
theorem ev7 (o o1 o2 : Own) : shortestM (inA o o1 o2 [[97]] []) [120] = ([], 24) := by kernel_rfl
theorem ev8 : joinedM [[97], [98]] [122] = [97, 46, 98, 46, 122] := by kernel_rfl

theorem awake_spec : Pure Tryd.prog 5 [] (.bool true) := fun M => by
  refine enter5 ?_
  simp only [cc5]
  refine CWp.seq ?_
  refine CWp.reg tt_ok ?_
  simp only [go_sem, Nat.reduceAdd, Nat.reduceLeDiff, Nat.reduceMul, Nat.reduceSub, Nat.reduceEqDiff]
  refine CWp.seq ?_
  refine CWp.reg tt_ok ?_
  simp only [go_sem, Nat.reduceAdd, Nat.reduceLeDiff, Nat.reduceMul, Nat.reduceSub, Nat.reduceEqDiff]
  try repeat (with_reducible refine And.intro (by first | exact True.intro | assumption | omega | (intros; omega) | (intro hg; simp only [Bool.and_eq_true, Bool.or_eq_true, decide_eq_true_eq, Bool.not_eq_true', decide_eq_false_iff_not] at hg; omega) | (simp only [decide_eq_true_eq, Bool.and_eq_true, Bool.or_eq_true, Bool.not_eq_true', decide_eq_false_iff_not]; omega) | (intros; simp_all; done) | (intros; simp_all; omega)) ?_)
  refine COps.call has17 rfl (by simp) ((state_spec .full namesA (by decide) M).mono ?_)
  rintro x M0 ⟨o, rfl, rfl⟩
  refine evalC_sound tt_ok _ _ ?_
  simp only [go_sem, Nat.reduceAdd, Nat.reduceLeDiff, Nat.reduceMul, Nat.reduceSub, Nat.reduceEqDiff, stA]
  intro r hr
  simp only [go_sem, Nat.reduceAdd, Nat.reduceLeDiff, Nat.reduceMul, Nat.reduceSub, Nat.reduceEqDiff, Mem.set_same, stC, empS]
  obtain ⟨M1, hM1⟩ : ∃ M1, M1 = M0.set (.b r) (.cells (stC (empS (.srow o) envA))) := ⟨_, rfl⟩
  have g : M1 (.b r) = some (.cells (stC (empS (.srow o) envA))) := by rw [hM1, Mem.set_same]
  have gs : M0.sub M1 := by rw [hM1]; exact (Mem.sub.refl M0).set_new hr
  rw [Mem.set_set]
  have hM2 : M0.set (.b r) (.cells [.sl (.srow o) 23 (List.map declA (List.map zeroD namesA)), (zL 2).v, .sl .full 1 (strs []), .sl .full 1 (strs []), (zL 4).v, .sl .full 1 (strs []), .sl .full 1 (strs [])]) = M1 := hM1.symm
  rw [hM2]
  clear hM1 hM2
  refine CWp.seq ?_
  refine CWp.reg tt_ok ?_
  simp only [go_sem, Nat.reduceAdd, Nat.reduceLeDiff, Nat.reduceMul, Nat.reduceSub, Nat.reduceEqDiff]
  refine CWp.seq ?_
  refine CWp.reg tt_ok ?_
  simp only [go_sem, Nat.reduceAdd, Nat.reduceLeDiff, Nat.reduceMul, Nat.reduceSub, Nat.reduceEqDiff]
  try repeat (with_reducible refine And.intro (by first | exact True.intro | assumption | omega | (intros; omega) | (intro hg; simp only [Bool.and_eq_true, Bool.or_eq_true, decide_eq_true_eq, Bool.not_eq_true', decide_eq_false_iff_not] at hg; omega) | (simp only [decide_eq_true_eq, Bool.and_eq_true, Bool.or_eq_true, Bool.not_eq_true', decide_eq_false_iff_not]; omega) | (intros; simp_all; done) | (intros; simp_all; omega)) ?_)
  refine COps.call has18 rfl (by simp) ((in_spec _ .full .full [[97], [98]] [] r M1 g).mono ?_)
  rintro x M' ⟨rfl, hM'⟩
  rw [hM']
  clear hM'
  refine evalC_sound tt_ok _ _ ?_
  simp only [go_sem, Nat.reduceAdd, Nat.reduceLeDiff, Nat.reduceMul, Nat.reduceSub, Nat.reduceEqDiff]
  have hr := resolve_spec (inA (.srow o) .full .full [[97], [98]] []) (inA_fine _ _ _ _ _ (by simp) (by simp) (by simp) (by simp) (by decide)) [120] (by simp)
  rw [ev1] at hr
  replace hr : Am.Pure Tryd.prog 6 [stA _, .str [120]] (.tup [.str [97, 46, 98, 46, 120], .int .i64 0]) := hr
  refine COps.pure has6 rfl rfl (by simp) (fun _ => hr) (evalC_sound tt_ok _ _ ?_)
  simp only [go_sem, Nat.reduceAdd, Nat.reduceLeDiff, Nat.reduceMul, Nat.reduceSub, Nat.reduceEqDiff]
  refine CWp.seq ?_
  refine CWp.reg tt_ok ?_
  simp only [go_sem, Nat.reduceAdd, Nat.reduceLeDiff, Nat.reduceMul, Nat.reduceSub, Nat.reduceEqDiff]
  try repeat (with_reducible refine And.intro (by first | exact True.intro | assumption | omega | (intros; omega) | (intro hg; simp only [Bool.and_eq_true, Bool.or_eq_true, decide_eq_true_eq, Bool.not_eq_true', decide_eq_false_iff_not] at hg; omega) | (simp only [decide_eq_true_eq, Bool.and_eq_true, Bool.or_eq_true, Bool.not_eq_true', decide_eq_false_iff_not]; omega) | (intros; simp_all; done) | (intros; simp_all; omega)) ?_)
  refine COps.call has18 rfl (by simp) ((in_spec _ .full .full [[97]] [] r M1 g).mono ?_)
  rintro x M' ⟨rfl, hM'⟩
  rw [hM']
  clear hM'
  refine evalC_sound tt_ok _ _ ?_
  simp only [go_sem, Nat.reduceAdd, Nat.reduceLeDiff, Nat.reduceMul, Nat.reduceSub, Nat.reduceEqDiff]
  have hr := resolve_spec (inA (.srow o) .full .full [[97]] []) (inA_fine _ _ _ _ _ (by simp) (by simp) (by simp) (by simp) (by decide)) [120] (by simp)
  rw [ev2] at hr
  replace hr : Am.Pure Tryd.prog 6 [stA _, .str [120]] (.tup [.str [97, 46, 120], .int .i64 0]) := hr
  refine COps.pure has6 rfl rfl (by simp) (fun _ => hr) (evalC_sound tt_ok _ _ ?_)
  simp only [go_sem, Nat.reduceAdd, Nat.reduceLeDiff, Nat.reduceMul, Nat.reduceSub, Nat.reduceEqDiff]
  refine CWp.seq ?_
  refine CWp.reg tt_ok ?_
  simp only [go_sem, Nat.reduceAdd, Nat.reduceLeDiff, Nat.reduceMul, Nat.reduceSub, Nat.reduceEqDiff]
  try repeat (with_reducible refine And.intro (by first | exact True.intro | assumption | omega | (intros; omega) | (intro hg; simp only [Bool.and_eq_true, Bool.or_eq_true, decide_eq_true_eq, Bool.not_eq_true', decide_eq_false_iff_not] at hg; omega) | (simp only [decide_eq_true_eq, Bool.and_eq_true, Bool.or_eq_true, Bool.not_eq_true', decide_eq_false_iff_not]; omega) | (intros; simp_all; done) | (intros; simp_all; omega)) ?_)
  refine COps.call has18 rfl (by simp) ((in_spec _ .full .full [[99, 46, 100]] [] r M1 g).mono ?_)
  rintro x M' ⟨rfl, hM'⟩
  rw [hM']
  clear hM'
  refine evalC_sound tt_ok _ _ ?_
  simp only [go_sem, Nat.reduceAdd, Nat.reduceLeDiff, Nat.reduceMul, Nat.reduceSub, Nat.reduceEqDiff]
  have hr := resolve_spec (inA (.srow o) .full .full [[99, 46, 100]] []) (inA_fine _ _ _ _ _ (by simp) (by simp) (by simp) (by simp) (by decide)) [120] (by simp)
  rw [ev3] at hr
  replace hr : Am.Pure Tryd.prog 6 [stA _, .str [120]] (.tup [.str [120], .int .i64 0]) := hr
  refine COps.pure has6 rfl rfl (by simp) (fun _ => hr) (evalC_sound tt_ok _ _ ?_)
  simp only [go_sem, Nat.reduceAdd, Nat.reduceLeDiff, Nat.reduceMul, Nat.reduceSub, Nat.reduceEqDiff]
  refine CWp.seq ?_
  refine CWp.reg tt_ok ?_
  simp only [go_sem, Nat.reduceAdd, Nat.reduceLeDiff, Nat.reduceMul, Nat.reduceSub, Nat.reduceEqDiff]
  try repeat (with_reducible refine And.intro (by first | exact True.intro | assumption | omega | (intros; omega) | (intro hg; simp only [Bool.and_eq_true, Bool.or_eq_true, decide_eq_true_eq, Bool.not_eq_true', decide_eq_false_iff_not] at hg; omega) | (simp only [decide_eq_true_eq, Bool.and_eq_true, Bool.or_eq_true, Bool.not_eq_true', decide_eq_false_iff_not]; omega) | (intros; simp_all; done) | (intros; simp_all; omega)) ?_)
  refine COps.call has18 rfl (by simp) ((in_spec _ .full .full [[99, 46, 100]] [[97]] r M1 g).mono ?_)
  rintro x M' ⟨rfl, hM'⟩
  rw [hM']
  clear hM'
  refine evalC_sound tt_ok _ _ ?_
  simp only [go_sem, Nat.reduceAdd, Nat.reduceLeDiff, Nat.reduceMul, Nat.reduceSub, Nat.reduceEqDiff]
  have hr := resolve_spec (inA (.srow o) .full .full [[99, 46, 100]] [[97]]) (inA_fine _ _ _ _ _ (by simp) (by simp) (by simp) (by simp) (by decide)) [120] (by simp)
  rw [ev4] at hr
  replace hr : Am.Pure Tryd.prog 6 [stA _, .str [120]] (.tup [.str [97, 46, 120], .int .i64 0]) := hr
  refine COps.pure has6 rfl rfl (by simp) (fun _ => hr) (evalC_sound tt_ok _ _ ?_)
  simp only [go_sem, Nat.reduceAdd, Nat.reduceLeDiff, Nat.reduceMul, Nat.reduceSub, Nat.reduceEqDiff]
  refine CWp.seq ?_
  refine CWp.reg tt_ok ?_
  simp only [go_sem, Nat.reduceAdd, Nat.reduceLeDiff, Nat.reduceMul, Nat.reduceSub, Nat.reduceEqDiff]
  try repeat (with_reducible refine And.intro (by first | exact True.intro | assumption | omega | (intros; omega) | (intro hg; simp only [Bool.and_eq_true, Bool.or_eq_true, decide_eq_true_eq, Bool.not_eq_true', decide_eq_false_iff_not] at hg; omega) | (simp only [decide_eq_true_eq, Bool.and_eq_true, Bool.or_eq_true, Bool.not_eq_true', decide_eq_false_iff_not]; omega) | (intros; simp_all; done) | (intros; simp_all; omega)) ?_)
  refine COps.call has18 rfl (by simp) ((in_spec _ .full .full [] [[97], [99]] r M1 g).mono ?_)
  rintro x M' ⟨rfl, hM'⟩
  rw [hM']
  clear hM'
  refine evalC_sound tt_ok _ _ ?_
  simp only [go_sem, Nat.reduceAdd, Nat.reduceLeDiff, Nat.reduceMul, Nat.reduceSub, Nat.reduceEqDiff]
  have hr := resolve_spec (inA (.srow o) .full .full [] [[97], [99]]) (inA_fine _ _ _ _ _ (by simp) (by simp) (by simp) (by simp) (by decide)) [120] (by simp)
  rw [ev5] at hr
  replace hr : Am.Pure Tryd.prog 6 [stA _, .str [120]] (.tup [.str [], .int .i64 8]) := hr
  refine COps.pure has6 rfl rfl (by simp) (fun _ => hr) (evalC_sound tt_ok _ _ ?_)
  simp only [go_sem, Nat.reduceAdd, Nat.reduceLeDiff, Nat.reduceMul, Nat.reduceSub, Nat.reduceEqDiff]
  refine CWp.seq ?_
  refine CWp.reg tt_ok ?_
  simp only [go_sem, Nat.reduceAdd, Nat.reduceLeDiff, Nat.reduceMul, Nat.reduceSub, Nat.reduceEqDiff]
  try repeat (with_reducible refine And.intro (by first | exact True.intro | assumption | omega | (intros; omega) | (intro hg; simp only [Bool.and_eq_true, Bool.or_eq_true, decide_eq_true_eq, Bool.not_eq_true', decide_eq_false_iff_not] at hg; omega) | (simp only [decide_eq_true_eq, Bool.and_eq_true, Bool.or_eq_true, Bool.not_eq_true', decide_eq_false_iff_not]; omega) | (intros; simp_all; done) | (intros; simp_all; omega)) ?_)
  refine COps.call has18 rfl (by simp) ((in_spec _ .full .full [[97]] [] r M1 g).mono ?_)
  rintro x M' ⟨rfl, hM'⟩
  rw [hM']
  clear hM'
  refine evalC_sound tt_ok _ _ ?_
  simp only [go_sem, Nat.reduceAdd, Nat.reduceLeDiff, Nat.reduceMul, Nat.reduceSub, Nat.reduceEqDiff]
  have hr := shortest_spec (inA (.srow o) .full .full [[97]] []) (inA_fine _ _ _ _ _ (by simp) (by simp) (by simp) (by simp) (by decide)) [97, 46, 98, 46, 120] (by simp)
  rw [ev6] at hr
  replace hr : Am.Pure Tryd.prog 8 [stA _, .str [97, 46, 98, 46, 120]] (.tup [.str [98, 46, 120], .int .i64 0]) := hr
  refine COps.pure has8 rfl rfl (by simp) (fun _ => hr) (evalC_sound tt_ok _ _ ?_)
  simp only [go_sem, Nat.reduceAdd, Nat.reduceLeDiff, Nat.reduceMul, Nat.reduceSub, Nat.reduceEqDiff]
  refine CWp.seq ?_
  refine CWp.reg tt_ok ?_
  simp only [go_sem, Nat.reduceAdd, Nat.reduceLeDiff, Nat.reduceMul, Nat.reduceSub, Nat.reduceEqDiff]
  try repeat (with_reducible refine And.intro (by first | exact True.intro | assumption | omega | (intros; omega) | (intro hg; simp only [Bool.and_eq_true, Bool.or_eq_true, decide_eq_true_eq, Bool.not_eq_true', decide_eq_false_iff_not] at hg; omega) | (simp only [decide_eq_true_eq, Bool.and_eq_true, Bool.or_eq_true, Bool.not_eq_true', decide_eq_false_iff_not]; omega) | (intros; simp_all; done) | (intros; simp_all; omega)) ?_)
  refine COps.call has18 rfl (by simp) ((in_spec _ .full .full [[97]] [] r M1 g).mono ?_)
  rintro x M' ⟨rfl, hM'⟩
  rw [hM']
  clear hM'
  refine evalC_sound tt_ok _ _ ?_
  simp only [go_sem, Nat.reduceAdd, Nat.reduceLeDiff, Nat.reduceMul, Nat.reduceSub, Nat.reduceEqDiff]
  have hr := shortest_spec (inA (.srow o) .full .full [[97]] []) (inA_fine _ _ _ _ _ (by simp) (by simp) (by simp) (by simp) (by decide)) [120] (by simp)
  rw [ev7] at hr
  replace hr : Am.Pure Tryd.prog 8 [stA _, .str [120]] (.tup [.str [], .int .i64 24]) := hr
  refine COps.pure has8 rfl rfl (by simp) (fun _ => hr) (evalC_sound tt_ok _ _ ?_)
  simp only [go_sem, Nat.reduceAdd, Nat.reduceLeDiff, Nat.reduceMul, Nat.reduceSub, Nat.reduceEqDiff]
  refine CWp.seq ?_
  refine CWp.reg tt_ok ?_
  repeat (first | with_reducible refine And.intro (by first | exact True.intro | assumption | omega | (intros; omega) | (intro hg; simp only [Bool.and_eq_true, Bool.or_eq_true, decide_eq_true_eq, Bool.not_eq_true', decide_eq_false_iff_not] at hg; omega) | (simp only [decide_eq_true_eq, Bool.and_eq_true, Bool.or_eq_true, Bool.not_eq_true', decide_eq_false_iff_not]; omega) | (intros; simp_all; done) | (intros; simp_all; omega)) ?_ | (with_reducible refine evalC_step ?_; simp only [qval, factOf, pev, St.get, St.put, rd, lp, gval, icmp, scmp, bcmp, arith, quorem, nlB, isNil, bound, fillA, rdL, pickT, pickL, extL, TV.ext, TV.sc, AV.cells, am_one_bool, am_one_int, am_one_str, am_one_nilp, am_one_ptr, am_one_eptr, am_one_sl, am_one_map, am_one_nilmap, am_one_fn, am_one_nilfn, am_one_iface, am_one_niliface, am_one_raw, am_one_agg, am_one_tup, am_one_junk, InR, findS, List.getElem?_cons_succ, List.getElem?_cons_zero, Option.getD_some, Option.getD_none, List.set_cons_succ, List.set_cons_zero, List.map_cons, List.map_nil, List.length_cons, List.length_nil, List.take_succ_cons, List.take_zero, List.drop_succ_cons, List.drop_zero, List.getElem?_nil, and_true, true_and, implies_true, forall_const, Bool.true_and, Bool.and_true, Bool.true_eq_false, Bool.false_eq_true, Option.map_some, Option.map_none, cond_true, cond_false, Bool.not_true, Bool.not_false, if_true, if_false, ite_true, ite_false, decide_true, decide_false, am_cond_false, am_cond_true, am_beq_true, am_beq_false, am_imp_self, am_imp_imp, am_not_imp, am_and_imp, am_and_imp', am_imp_and, am_mem_one, am_mem_cons, am_mem_nil, am_nat_add, Int.toNat_natCast, Nat.le_refl, Nat.reduceAdd, Nat.reduceLeDiff, Nat.reduceMul, Nat.reduceSub, Nat.reduceEqDiff, Int.reduceAdd, Int.reduceEq, eq_self]))
  refine evalC_callv (COps.callg (g := true) (by intro o; simp) rfl (fun _ => ⟨18, _, _, has18, rfl, by simp, (in_spec (empS (.srow o) envA) .full .full [[97], [98]] [] r M1 g).mono ?_⟩) (fun h => by cases h))
  rintro x M' ⟨rfl, hM'⟩
  rw [hM']
  clear hM'
  refine evalC_sound tt_ok _ _ ?_
  simp only [St.put, List.set_cons_succ, List.set_cons_zero]
  have hq := qualify_spec (inA (.srow o) .full .full [[97], [98]] []) [122] (by show ([[97], [98]] : List (List UInt8)).length ≤ 1000000; decide) (by show sizesS [[97], [98]] ≤ 1000000; decide) (by decide)
  replace hq : Am.Pure Tryd.prog 12 [stA (inA (.srow o) .full .full [[97], [98]] []), .str [122]] (.str [97, 46, 98, 46, 122]) := by
    have e : joinedM (inA (.srow o) .full .full [[97], [98]] []).ns [122] = [97, 46, 98, 46, 122] := ev8
    rw [e] at hq; exact hq
  refine evalC_call (COps.pure has12 rfl rfl (by simp) (fun _ => hq) (evalC_sound tt_ok _ _ ?_))
  simp only [St.put, List.set_cons_succ, List.set_cons_zero]
  repeat (first | with_reducible refine And.intro (by first | exact True.intro | assumption | omega | (intros; omega) | (intro hg; simp only [Bool.and_eq_true, Bool.or_eq_true, decide_eq_true_eq, Bool.not_eq_true', decide_eq_false_iff_not] at hg; omega) | (simp only [decide_eq_true_eq, Bool.and_eq_true, Bool.or_eq_true, Bool.not_eq_true', decide_eq_false_iff_not]; omega) | (intros; simp_all; done) | (intros; simp_all; omega)) ?_ | (with_reducible refine evalC_step ?_; simp only [qval, factOf, pev, St.get, St.put, rd, lp, gval, icmp, scmp, bcmp, arith, quorem, nlB, isNil, bound, fillA, rdL, pickT, pickL, extL, TV.ext, TV.sc, AV.cells, am_one_bool, am_one_int, am_one_str, am_one_nilp, am_one_ptr, am_one_eptr, am_one_sl, am_one_map, am_one_nilmap, am_one_fn, am_one_nilfn, am_one_iface, am_one_niliface, am_one_raw, am_one_agg, am_one_tup, am_one_junk, InR, findS, List.getElem?_cons_succ, List.getElem?_cons_zero, Option.getD_some, Option.getD_none, List.set_cons_succ, List.set_cons_zero, List.map_cons, List.map_nil, List.length_cons, List.length_nil, List.take_succ_cons, List.take_zero, List.drop_succ_cons, List.drop_zero, List.getElem?_nil, and_true, true_and, implies_true, forall_const, Bool.true_and, Bool.and_true, Bool.true_eq_false, Bool.false_eq_true, Option.map_some, Option.map_none, cond_true, cond_false, Bool.not_true, Bool.not_false, if_true, if_false, ite_true, ite_false, decide_true, decide_false, am_cond_false, am_cond_true, am_beq_true, am_beq_false, am_imp_self, am_imp_imp, am_not_imp, am_and_imp, am_and_imp', am_imp_and, am_mem_one, am_mem_cons, am_mem_nil, am_nat_add, Int.toNat_natCast, Nat.le_refl, Nat.reduceAdd, Nat.reduceLeDiff, Nat.reduceMul, Nat.reduceSub, Nat.reduceEqDiff, Int.reduceAdd, Int.reduceEq, eq_self]))
  simp only [go_sem, Nat.reduceAdd, Nat.reduceLeDiff, Nat.reduceMul, Nat.reduceSub, Nat.reduceEqDiff]
  repeat (first | refine CWp.seq ?_ | refine CWp.block ?_ | (refine CWp.ret ?_; try simp only [go_sem, Nat.reduceAdd, Nat.reduceLeDiff, Nat.reduceMul, Nat.reduceSub, Nat.reduceEqDiff]) | (refine CWp.skip ?_; try simp only [go_sem, Nat.reduceAdd, Nat.reduceLeDiff, Nat.reduceMul, Nat.reduceSub, Nat.reduceEqDiff]) | (refine CWp.reg tt_ok ?_; simp only [go_sem, Nat.reduceAdd, Nat.reduceLeDiff, Nat.reduceMul, Nat.reduceSub, Nat.reduceEqDiff]))
  exact Fin.ret1 (M' := M0) (.inl rfl) rfl rfl rfl gs ⟨rfl, rfl⟩
end Go.Proofs.ScA
