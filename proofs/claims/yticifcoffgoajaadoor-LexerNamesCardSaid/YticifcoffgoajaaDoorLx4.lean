import Derived.Test.YticifcoffgoajaaDoorLx3
set_option linter.unusedVariables false
set_option linter.unusedSimpArgs false
set_option maxRecDepth 100000
namespace Go.Proofs.LxA
open Go Go.Am Go.Proofs Go.RowKit
set_option linter.unusedSectionVars false

/-- A scanner in memory. -/
structure SC (M : Mem) (r km gv sm : Nat) (s : List UInt8) (at_ : Nat) (sy : List (List UInt8)) : Prop where
  cell : M (.b r) = some (.cells [.str s, .int .i64 (at_ : Int), .map km, .map gv, .map sm])
  kw : M (.b km) = some (.map (addT [] kwL))
  given : M (.b gv) = some (.map (addT [] sy))
  syms : M (.b sm) = some (.map (addT (addT [] fixedL) sy))

theorem classI_two (c : Int) : decide (classI c = 2) = digitB c := by
  unfold classI beginsB letterB digitB
  by_cases h1 : 48 ≤ c ∧ c ≤ 57
  · have a : decide (97 ≤ c) = false := decide_eq_false (by omega)
    have b : decide (65 ≤ c) = false := decide_eq_false (by omega)
    have d : decide (c = 95) = false := decide_eq_false (by omega)
    simp [h1, a, b, d]
  · have : (decide (48 ≤ c) && decide (c ≤ 57)) = false := by
      rw [← Bool.not_eq_true]; simpa using fun h => by omega
    rw [this]
    cases ((decide (97 ≤ c) && decide (c ≤ 122)) || (decide (65 ≤ c) && decide (c ≤ 90))) || decide (c = 95) with
    | true => rfl
    | false => cases decide (c = 34) <;> rfl

section
variable {M : Mem} {r km gv sm : Nat} {s : List UInt8} {at_ : Nat} {sy : List (List UInt8)}
theorem digP_loop (h : SC M r km gv sm s at_ sy) (hlen : s.length ≤ 1000000000) (Q : AExit → St → Prop) : ∀ (n i : Nat), s.length - i < n → i ≤ s.length →
    Q (.exit 0) { tmps := lp23_0 (.v (.ptr r 0)) (.v (.int .i64 ((digEnd s n i : Nat) : Int))), loc := [], rows := [], defs := [], M := M } →
    CLoop none Tryd.prog tt esc23 cc23_l0 Q { tmps := lp23_0 (.v (.ptr r 0)) (.v (.int .i64 (i : Int))), loc := [], rows := [], defs := [], M := M } := by
  intro n
  have hc0 := h.cell
  induction n with
  | zero => intro i h0 h1 hQ; omega
  | succ n ih =>
    intro i h0 h1 hQ
    refine CLoop.unroll ?_
    generalize hK : CLoop none Tryd.prog tt esc23 cc23_l0 Q = K
    simp only [cc23_l0, lp23_0]
    refine CWp.seq ?_
    refine CWp.seq ?_
    refine CWp.reg tt_ok ?_
    simp only [go_sem, Nat.reduceAdd, Nat.reduceLeDiff, Nat.reduceMul, Nat.reduceSub, Nat.reduceEqDiff, hc0]
    repeat (with_reducible refine And.intro (by first | exact True.intro | assumption | omega | (intros; omega) | (intro hg; simp only [Bool.and_eq_true, Bool.or_eq_true, decide_eq_true_eq, Bool.not_eq_true', decide_eq_false_iff_not] at hg; omega) | (simp only [decide_eq_true_eq, Bool.and_eq_true, Bool.or_eq_true, Bool.not_eq_true', decide_eq_false_iff_not]; omega) | (intros; simp_all; done) | (intros; simp_all; omega)) ?_)
    refine COps.pure has26 rfl rfl (by simp) (fun _ => class_spec _) (evalC_sound tt_ok _ _ ?_)
    simp only [go_sem, Nat.reduceAdd, Nat.reduceLeDiff, Nat.reduceMul, Nat.reduceSub, Nat.reduceEqDiff, classI_two]
    repeat (with_reducible refine And.intro (by first | exact True.intro | assumption | omega | (intros; omega) | (intro hg; simp only [Bool.and_eq_true, Bool.or_eq_true, decide_eq_true_eq, Bool.not_eq_true', decide_eq_false_iff_not] at hg; omega) | (simp only [decide_eq_true_eq, Bool.and_eq_true, Bool.or_eq_true, Bool.not_eq_true', decide_eq_false_iff_not]; omega) | (intros; simp_all; done) | (intros; simp_all; omega)) ?_)
    have key : (decide ((i : Int) < (s.length : Int)) && digitB (((s.getD i 0).toNat : Nat) : Int)) = digAt s i := by
      unfold digAt byteI
      congr 1
      exact decide_eq_decide.2 (by omega)
    simp only [key]
    refine CWp.cond rfl ?_ ?_ <;> intro hc
    · have hlt : i < s.length := by
        unfold digAt at hc
        simp only [Bool.and_eq_true, decide_eq_true_eq] at hc
        exact hc.1
      repeat (first | refine CWp.seq ?_ | refine CWp.block ?_ | (refine CWp.ret ?_; try simp only [go_sem, Nat.reduceAdd, Nat.reduceLeDiff, Nat.reduceMul, Nat.reduceSub, Nat.reduceEqDiff]) | (refine CWp.skip ?_; try simp only [go_sem, Nat.reduceAdd, Nat.reduceLeDiff, Nat.reduceMul, Nat.reduceSub, Nat.reduceEqDiff]) | (refine CWp.reg tt_ok ?_; simp only [go_sem, Nat.reduceAdd, Nat.reduceLeDiff, Nat.reduceMul, Nat.reduceSub, Nat.reduceEqDiff]))
      repeat (with_reducible refine And.intro (by first | exact True.intro | assumption | omega | (intros; omega) | (intro hg; simp only [Bool.and_eq_true, Bool.or_eq_true, decide_eq_true_eq, Bool.not_eq_true', decide_eq_false_iff_not] at hg; omega) | (simp only [decide_eq_true_eq, Bool.and_eq_true, Bool.or_eq_true, Bool.not_eq_true', decide_eq_false_iff_not]; omega) | (intros; simp_all; done) | (intros; simp_all; omega)) ?_)
      simp only [digEnd, hc, cond_true] at hQ
      rw [← hK]
      exact CLoop.junk (t := lp23_0 (.v (.ptr r 0)) (.v (.int .i64 ((i + 1 : Nat) : Int)))) (ih _ (by omega) (by omega) hQ) (by simp [Junked, lp23_0])
    · simp only [digEnd, hc, cond_false] at hQ
      exact CWp.junk (t := lp23_0 (.v (.ptr r 0)) (.v (.int .i64 (i : Int)))) (CWp.exit hQ) (by simp [Junked, lp23_0])

def numM (s : List UInt8) (at_ : Nat) : Nat × Nat × Nat :=
  let te := digEnd s (s.length + 1) at_
  bif decide (te - at_ > 6) then (0, at_, 5) else
  bif decide (te - at_ > 1) && decide (byteI s at_ = 48) then (0, at_, 4) else
  bif decide (te < s.length) && (beginsB (byteI s te) || decide (byteI s te = 39)) then (0, te, 4) else (1, te, 0)

theorem digEnd_stop (s : List UInt8) : ∀ (n i : Nat), s.length - i < n → i ≤ s.length → digAt s (digEnd s n i) = false
  | 0, i, h, _ => by omega
  | n + 1, i, h, hl => by
    simp only [digEnd]
    cases hb : digAt s i with
    | false => simpa using hb
    | true =>
      have h1 : i < s.length := by
        unfold digAt at hb
        simp only [Bool.and_eq_true, decide_eq_true_eq] at hb
        exact hb.1
      simp only [cond_true]
      exact digEnd_stop s n (i + 1) (by omega) (by omega)

theorem number_spec (h : SC M r km gv sm s at_ sy) (hat : at_ < s.length) (hlen : s.length ≤ 1000000000) : ACalls Tryd.prog 23 [.ptr r 0] M fun e M' => e = .ret (tup3 (numM s at_)) ∧ M' = M := by
  have hc0 := h.cell
  have hle := digEnd_le s (s.length + 1) at_ (by omega)
  have hstop := digEnd_stop s (s.length + 1) at_ (by omega) (by omega)
  refine enter23 _ ?_
  simp only [cc23]
  refine CWp.seq ?_
  refine CWp.reg tt_ok ?_
  simp only [go_sem, Nat.reduceAdd, Nat.reduceLeDiff, Nat.reduceMul, Nat.reduceSub, Nat.reduceEqDiff]
  refine CWp.seq ?_
  refine CWp.reg tt_ok ?_
  simp only [go_sem, Nat.reduceAdd, Nat.reduceLeDiff, Nat.reduceMul, Nat.reduceSub, Nat.reduceEqDiff, hc0]
  refine CWp.seq ?_
  refine CWp.block ?_
  refine CWp.loop (CLoop.junk (t := lp23_0 (.v (.ptr r 0)) (.v (.int .i64 (at_ : Int)))) (digP_loop h hlen _ (s.length + 1) at_ (by omega) (by omega) ?_) (by simp [Junked, lp23_0]))
  simp only [lp23_0]
  simp only [go_sem, Nat.reduceAdd, Nat.reduceLeDiff, Nat.reduceMul, Nat.reduceSub, Nat.reduceEqDiff]
  refine CWp.seq ?_
  refine CWp.block ?_
  refine CWp.seq ?_
  refine CWp.reg tt_ok ?_
  simp only [go_sem, Nat.reduceAdd, Nat.reduceLeDiff, Nat.reduceMul, Nat.reduceSub, Nat.reduceEqDiff, hc0]
  repeat (with_reducible refine And.intro (by first | exact True.intro | assumption | omega | (intros; omega) | (intro hg; simp only [Bool.and_eq_true, Bool.or_eq_true, decide_eq_true_eq, Bool.not_eq_true', decide_eq_false_iff_not] at hg; omega) | (simp only [decide_eq_true_eq, Bool.and_eq_true, Bool.or_eq_true, Bool.not_eq_true', decide_eq_false_iff_not]; omega) | (intros; simp_all; done) | (intros; simp_all; omega)) ?_)
  generalize hte : digEnd s (s.length + 1) at_ = te at *
  have k1 : decide ((6 : Int) < (te : Int) - (at_ : Int)) = decide (te - at_ > 6) := decide_eq_decide.2 (by omega)
  have k2 : decide ((1 : Int) < (te : Int) - (at_ : Int)) = decide (te - at_ > 1) := decide_eq_decide.2 (by omega)
  have k3 : decide ((te : Int) < (s.length : Int)) = decide (te < s.length) := decide_eq_decide.2 (by omega)
  have hb : (((s.getD at_ 0).toNat : Nat) : Int) = byteI s at_ := rfl
  have hb2 : (((s.getD te 0).toNat : Nat) : Int) = byteI s te := rfl
  simp only [k1]
  refine CWp.cond rfl ?_ ?_ <;> intro h1
  · refine CWp.seq ?_
    refine CWp.dreg mixed tt_ok dr23_0 ?_
    repeat (first | with_reducible refine And.intro (by first | exact True.intro | assumption | omega | (intros; omega) | (intro hg; simp only [Bool.and_eq_true, Bool.or_eq_true, decide_eq_true_eq, Bool.not_eq_true', decide_eq_false_iff_not] at hg; omega) | (simp only [decide_eq_true_eq, Bool.and_eq_true, Bool.or_eq_true, Bool.not_eq_true', decide_eq_false_iff_not]; omega) | (intros; simp_all; done) | (intros; simp_all; omega)) ?_ | (with_reducible refine evalD_step ?_; simp only [qval, factOf, pev, St.get, St.put, rd, lp, gval, icmp, scmp, bcmp, arith, quorem, nlB, isNil, bound, fillA, rdL, pickT, pickL, extL, TV.ext, TV.sc, AV.cells, am_one_bool, am_one_int, am_one_str, am_one_nilp, am_one_ptr, am_one_eptr, am_one_sl, am_one_map, am_one_nilmap, am_one_fn, am_one_nilfn, am_one_iface, am_one_niliface, am_one_raw, am_one_agg, am_one_tup, am_one_junk, InR, findS, List.getElem?_cons_succ, List.getElem?_cons_zero, Option.getD_some, Option.getD_none, List.set_cons_succ, List.set_cons_zero, List.map_cons, List.map_nil, List.length_cons, List.length_nil, List.take_succ_cons, List.take_zero, List.drop_succ_cons, List.drop_zero, List.getElem?_nil, and_true, true_and, implies_true, forall_const, Bool.true_and, Bool.and_true, Bool.true_eq_false, Bool.false_eq_true, Option.map_some, Option.map_none, cond_true, cond_false, Bool.not_true, Bool.not_false, if_true, if_false, ite_true, ite_false, decide_true, decide_false, am_cond_false, am_cond_true, am_beq_true, am_beq_false, am_imp_self, am_imp_imp, am_not_imp, am_and_imp, am_and_imp', am_imp_and, am_mem_one, am_mem_cons, am_mem_nil, am_nat_add, Int.toNat_natCast, Nat.le_refl, Nat.reduceAdd, Nat.reduceLeDiff, Nat.reduceMul, Nat.reduceSub, Nat.reduceEqDiff, hc0]))
    repeat (first | refine CWp.seq ?_ | refine CWp.block ?_ | (refine CWp.ret ?_; try simp only [go_sem, Nat.reduceAdd, Nat.reduceLeDiff, Nat.reduceMul, Nat.reduceSub, Nat.reduceEqDiff]) | (refine CWp.skip ?_; try simp only [go_sem, Nat.reduceAdd, Nat.reduceLeDiff, Nat.reduceMul, Nat.reduceSub, Nat.reduceEqDiff]) | (refine CWp.reg tt_ok ?_; simp only [go_sem, Nat.reduceAdd, Nat.reduceLeDiff, Nat.reduceMul, Nat.reduceSub, Nat.reduceEqDiff]))
    refine Fin.ret3 (.inl rfl) rfl rfl rfl rfl rfl (Mem.sub.refl _) ⟨?_, rfl⟩
    simp only [numM, hte, h1, cond_true]; rfl
  · refine CWp.seq ?_
    refine CWp.dreg mixed tt_ok dr23_1 ?_
    repeat (first | with_reducible refine And.intro (by first | exact True.intro | assumption | omega | (intros; omega) | (intro hg; simp only [Bool.and_eq_true, Bool.or_eq_true, decide_eq_true_eq, Bool.not_eq_true', decide_eq_false_iff_not] at hg; omega) | (simp only [decide_eq_true_eq, Bool.and_eq_true, Bool.or_eq_true, Bool.not_eq_true', decide_eq_false_iff_not]; omega) | (intros; simp_all; done) | (intros; simp_all; omega)) ?_ | (with_reducible refine evalD_step ?_; simp only [qval, factOf, pev, St.get, St.put, rd, lp, gval, icmp, scmp, bcmp, arith, quorem, nlB, isNil, bound, fillA, rdL, pickT, pickL, extL, TV.ext, TV.sc, AV.cells, am_one_bool, am_one_int, am_one_str, am_one_nilp, am_one_ptr, am_one_eptr, am_one_sl, am_one_map, am_one_nilmap, am_one_fn, am_one_nilfn, am_one_iface, am_one_niliface, am_one_raw, am_one_agg, am_one_tup, am_one_junk, InR, findS, List.getElem?_cons_succ, List.getElem?_cons_zero, Option.getD_some, Option.getD_none, List.set_cons_succ, List.set_cons_zero, List.map_cons, List.map_nil, List.length_cons, List.length_nil, List.take_succ_cons, List.take_zero, List.drop_succ_cons, List.drop_zero, List.getElem?_nil, and_true, true_and, implies_true, forall_const, Bool.true_and, Bool.and_true, Bool.true_eq_false, Bool.false_eq_true, Option.map_some, Option.map_none, cond_true, cond_false, Bool.not_true, Bool.not_false, if_true, if_false, ite_true, ite_false, decide_true, decide_false, am_cond_false, am_cond_true, am_beq_true, am_beq_false, am_imp_self, am_imp_imp, am_not_imp, am_and_imp, am_and_imp', am_imp_and, am_mem_one, am_mem_cons, am_mem_nil, am_nat_add, Int.toNat_natCast, Nat.le_refl, Nat.reduceAdd, Nat.reduceLeDiff, Nat.reduceMul, Nat.reduceSub, Nat.reduceEqDiff, hc0]))
    simp only [go_sem, Nat.reduceAdd, Nat.reduceLeDiff, Nat.reduceMul, Nat.reduceSub, Nat.reduceEqDiff, hc0]
    repeat (with_reducible refine And.intro (by first | exact True.intro | assumption | omega | (intros; omega) | (intro hg; simp only [Bool.and_eq_true, Bool.or_eq_true, decide_eq_true_eq, Bool.not_eq_true', decide_eq_false_iff_not] at hg; omega) | (simp only [decide_eq_true_eq, Bool.and_eq_true, Bool.or_eq_true, Bool.not_eq_true', decide_eq_false_iff_not]; omega) | (intros; simp_all; done) | (intros; simp_all; omega)) ?_)
    simp only [k2, hb]
    refine CWp.cond rfl ?_ ?_ <;> intro h2
    · refine CWp.seq ?_
      refine CWp.dreg mixed tt_ok dr23_2 ?_
      repeat (first | with_reducible refine And.intro (by first | exact True.intro | assumption | omega | (intros; omega) | (intro hg; simp only [Bool.and_eq_true, Bool.or_eq_true, decide_eq_true_eq, Bool.not_eq_true', decide_eq_false_iff_not] at hg; omega) | (simp only [decide_eq_true_eq, Bool.and_eq_true, Bool.or_eq_true, Bool.not_eq_true', decide_eq_false_iff_not]; omega) | (intros; simp_all; done) | (intros; simp_all; omega)) ?_ | (with_reducible refine evalD_step ?_; simp only [qval, factOf, pev, St.get, St.put, rd, lp, gval, icmp, scmp, bcmp, arith, quorem, nlB, isNil, bound, fillA, rdL, pickT, pickL, extL, TV.ext, TV.sc, AV.cells, am_one_bool, am_one_int, am_one_str, am_one_nilp, am_one_ptr, am_one_eptr, am_one_sl, am_one_map, am_one_nilmap, am_one_fn, am_one_nilfn, am_one_iface, am_one_niliface, am_one_raw, am_one_agg, am_one_tup, am_one_junk, InR, findS, List.getElem?_cons_succ, List.getElem?_cons_zero, Option.getD_some, Option.getD_none, List.set_cons_succ, List.set_cons_zero, List.map_cons, List.map_nil, List.length_cons, List.length_nil, List.take_succ_cons, List.take_zero, List.drop_succ_cons, List.drop_zero, List.getElem?_nil, and_true, true_and, implies_true, forall_const, Bool.true_and, Bool.and_true, Bool.true_eq_false, Bool.false_eq_true, Option.map_some, Option.map_none, cond_true, cond_false, Bool.not_true, Bool.not_false, if_true, if_false, ite_true, ite_false, decide_true, decide_false, am_cond_false, am_cond_true, am_beq_true, am_beq_false, am_imp_self, am_imp_imp, am_not_imp, am_and_imp, am_and_imp', am_imp_and, am_mem_one, am_mem_cons, am_mem_nil, am_nat_add, Int.toNat_natCast, Nat.le_refl, Nat.reduceAdd, Nat.reduceLeDiff, Nat.reduceMul, Nat.reduceSub, Nat.reduceEqDiff, hc0]))
      repeat (first | refine CWp.seq ?_ | refine CWp.block ?_ | (refine CWp.ret ?_; try simp only [go_sem, Nat.reduceAdd, Nat.reduceLeDiff, Nat.reduceMul, Nat.reduceSub, Nat.reduceEqDiff]) | (refine CWp.skip ?_; try simp only [go_sem, Nat.reduceAdd, Nat.reduceLeDiff, Nat.reduceMul, Nat.reduceSub, Nat.reduceEqDiff]) | (refine CWp.reg tt_ok ?_; simp only [go_sem, Nat.reduceAdd, Nat.reduceLeDiff, Nat.reduceMul, Nat.reduceSub, Nat.reduceEqDiff]))
      refine Fin.ret3 (.inl rfl) rfl rfl rfl rfl rfl (Mem.sub.refl _) ⟨?_, rfl⟩
      simp only [numM, hte, h1, h2, cond_true, cond_false]; rfl
    · refine CWp.seq ?_
      refine CWp.reg tt_ok ?_
      simp only [go_sem, Nat.reduceAdd, Nat.reduceLeDiff, Nat.reduceMul, Nat.reduceSub, Nat.reduceEqDiff, hc0]
      repeat (with_reducible refine And.intro (by first | exact True.intro | assumption | omega | (intros; omega) | (intro hg; simp only [Bool.and_eq_true, Bool.or_eq_true, decide_eq_true_eq, Bool.not_eq_true', decide_eq_false_iff_not] at hg; omega) | (simp only [decide_eq_true_eq, Bool.and_eq_true, Bool.or_eq_true, Bool.not_eq_true', decide_eq_false_iff_not]; omega) | (intros; simp_all; done) | (intros; simp_all; omega)) ?_)
      refine COps.pure has29 rfl rfl (by simp) (fun _ => inWord_spec _) (evalC_sound tt_ok _ _ ?_)
      simp only [go_sem, Nat.reduceAdd, Nat.reduceLeDiff, Nat.reduceMul, Nat.reduceSub, Nat.reduceEqDiff]
      repeat (with_reducible refine And.intro (by first | exact True.intro | assumption | omega | (intros; omega) | (intro hg; simp only [Bool.and_eq_true, Bool.or_eq_true, decide_eq_true_eq, Bool.not_eq_true', decide_eq_false_iff_not] at hg; omega) | (simp only [decide_eq_true_eq, Bool.and_eq_true, Bool.or_eq_true, Bool.not_eq_true', decide_eq_false_iff_not]; omega) | (intros; simp_all; done) | (intros; simp_all; omega)) ?_)
      simp only [k3, hb2]
      have key : (decide (te < s.length) && inWordB (byteI s te)) = (decide (te < s.length) && (beginsB (byteI s te) || decide (byteI s te = 39))) := by
        cases h4 : decide (te < s.length) with
        | false => rfl
        | true =>
          have : digitB (byteI s te) = false := by
            unfold digAt at hstop
            rw [h4] at hstop
            simpa using hstop
          simp only [inWordB, this, Bool.or_false]
      rw [key]
      refine CWp.cond rfl ?_ ?_ <;> intro h3
      · repeat (first | refine CWp.seq ?_ | refine CWp.block ?_ | (refine CWp.ret ?_; try simp only [go_sem, Nat.reduceAdd, Nat.reduceLeDiff, Nat.reduceMul, Nat.reduceSub, Nat.reduceEqDiff]) | (refine CWp.skip ?_; try simp only [go_sem, Nat.reduceAdd, Nat.reduceLeDiff, Nat.reduceMul, Nat.reduceSub, Nat.reduceEqDiff]) | (refine CWp.reg tt_ok ?_; simp only [go_sem, Nat.reduceAdd, Nat.reduceLeDiff, Nat.reduceMul, Nat.reduceSub, Nat.reduceEqDiff]))
        refine Fin.ret3 (.inl rfl) rfl rfl rfl rfl rfl (Mem.sub.refl _) ⟨?_, rfl⟩
        simp only [numM, hte, h1, h2, h3, cond_true, cond_false]; rfl
      · repeat (first | refine CWp.seq ?_ | refine CWp.block ?_ | (refine CWp.ret ?_; try simp only [go_sem, Nat.reduceAdd, Nat.reduceLeDiff, Nat.reduceMul, Nat.reduceSub, Nat.reduceEqDiff]) | (refine CWp.skip ?_; try simp only [go_sem, Nat.reduceAdd, Nat.reduceLeDiff, Nat.reduceMul, Nat.reduceSub, Nat.reduceEqDiff]) | (refine CWp.reg tt_ok ?_; simp only [go_sem, Nat.reduceAdd, Nat.reduceLeDiff, Nat.reduceMul, Nat.reduceSub, Nat.reduceEqDiff]))
        refine Fin.ret3 (.inl rfl) rfl rfl rfl rfl rfl (Mem.sub.refl _) ⟨?_, rfl⟩
        simp only [numM, hte, h1, h2, h3, cond_false]; rfl
end
end Go.Proofs.LxA
set_option linter.unusedVariables false
set_option linter.unusedSimpArgs false
set_option maxRecDepth 100000
namespace Go.Proofs.LxA
open Go Go.Am Go.Proofs Go.RowKit
set_option linter.unusedSectionVars false

def symF (s : List UInt8) (at_ : Nat) (L : List (List UInt8)) : Nat → Nat
  | 0 => 0
  | n + 1 => bif decide (slice s at_ (at_ + (n + 1)) ∈ L) then n + 1 else symF s at_ L n
def symR (s : List UInt8) (at_ : Nat) (L : List (List UInt8)) : Nat × Nat × Nat :=
  let n := symF s at_ L (min 8 (s.length - at_))
  bif decide (n = 0) then (0, at_, 4) else (2, at_ + n, 0)

theorem symF_le (s : List UInt8) (at_ : Nat) (L : List (List UInt8)) : ∀ n, symF s at_ L n ≤ n
  | 0 => Nat.le_refl _
  | n + 1 => by
    simp only [symF]
    have := symF_le s at_ L n
    cases decide (slice s at_ (at_ + (n + 1)) ∈ L) <;> simp only [cond_true, cond_false] <;> omega
theorem symF_mem (s : List UInt8) (at_ : Nat) (L : List (List UInt8)) : ∀ n, 0 < symF s at_ L n → slice s at_ (at_ + symF s at_ L n) ∈ L
  | 0, h => by simp [symF] at h
  | n + 1, h => by
    simp only [symF] at h ⊢
    cases hd : decide (slice s at_ (at_ + (n + 1)) ∈ L) with
    | true => simp only [cond_true]; exact of_decide_eq_true hd
    | false =>
      rw [hd] at h
      simp only [cond_false] at h ⊢
      exact symF_mem s at_ L n h
theorem symF_max (s : List UInt8) (at_ : Nat) (L : List (List UInt8)) : ∀ n k, symF s at_ L n < k → k ≤ n → slice s at_ (at_ + k) ∉ L
  | 0, k, h1, h2 => by simp [symF] at h1; omega
  | n + 1, k, h1, h2 => by
    simp only [symF] at h1
    cases hd : decide (slice s at_ (at_ + (n + 1)) ∈ L) with
    | true => rw [hd] at h1; simp only [cond_true] at h1; omega
    | false =>
      rw [hd] at h1
      simp only [cond_false] at h1
      rcases Nat.eq_or_lt_of_le h2 with rfl | h2
      · exact of_decide_eq_false hd
      · exact symF_max s at_ L n k h1 (by omega)

theorem long_max (s : List UInt8) (at_ : Nat) : ∀ (L : List (List UInt8)) (best : Nat), best ≤ L.foldl (longStep s at_) best ∧ (∀ x ∈ L, matchB s at_ x = true → x.length ≤ L.foldl (longStep s at_) best) ∧
    (L.foldl (longStep s at_) best = best ∨ ∃ x ∈ L, matchB s at_ x = true ∧ x.length = L.foldl (longStep s at_) best)
  | [], best => ⟨Nat.le_refl _, by simp, .inl rfl⟩
  | y :: L, best => by
    obtain ⟨h1, h2, h3⟩ := long_max s at_ L (longStep s at_ best y)
    have hs : best ≤ longStep s at_ best y ∧ (matchB s at_ y = true → y.length ≤ longStep s at_ best y) ∧ (longStep s at_ best y = best ∨ (matchB s at_ y = true ∧ y.length = longStep s at_ best y)) := by
      unfold longStep
      cases hb : decide (best < y.length) with
      | false =>
        have := of_decide_eq_false hb
        simp only [Bool.false_and, cond_false]
        exact ⟨Nat.le_refl _, fun _ => by omega, .inl True.intro⟩
      | true =>
        have := of_decide_eq_true hb
        cases hm : matchB s at_ y with
        | false =>
          simp only [Bool.true_and, cond_false]
          exact ⟨Nat.le_refl _, fun h => absurd h (by simp), .inl True.intro⟩
        | true =>
          simp only [Bool.true_and, cond_true]
          exact ⟨Nat.le_of_lt this, fun _ => Nat.le_refl _, .inr ⟨True.intro, True.intro⟩⟩
    simp only [List.foldl_cons]
    refine ⟨Nat.le_trans hs.1 h1, ?_, ?_⟩
    · intro x hx hm
      rcases List.mem_cons.1 hx with rfl | hx
      · exact Nat.le_trans (hs.2.1 hm) h1
      · exact h2 x hx hm
    · rcases h3 with h3 | ⟨x, hx, hm, hl⟩
      · rcases hs.2.2 with h | ⟨hm, hl⟩
        · left; rw [h3, h]
        · right; exact ⟨y, List.mem_cons_self, hm, by rw [hl, h3]⟩
      · right; exact ⟨x, List.mem_cons_of_mem _ hx, hm, hl⟩

theorem slice_len (s : List UInt8) (a b : Nat) (h : b ≤ s.length) : (slice s a b).length = b - a := by
  unfold slice; simp; omega

theorem symF_long (s : List UInt8) (at_ : Nat) (L : List (List UInt8)) (h8 : ∀ x ∈ L, matchB s at_ x = true → x.length ≤ 8) : symF s at_ L (min 8 (s.length - at_)) = longestM s at_ L := by
  obtain ⟨_, h2, h3⟩ := long_max s at_ L 0
  have hle := symF_le s at_ L (min 8 (s.length - at_))
  have hmax := symF_max s at_ L (min 8 (s.length - at_))
  have hmem := symF_mem s at_ L (min 8 (s.length - at_))
  show _ = L.foldl (longStep s at_) 0
  generalize symF s at_ L (min 8 (s.length - at_)) = m at *
  generalize L.foldl (longStep s at_) 0 = b at *
  rcases Nat.lt_trichotomy m b with h | h | h
  · exfalso
    rcases h3 with h3 | ⟨x, hx, hm, hl⟩
    · omega
    · have hx8 := h8 x hx hm
      unfold matchB at hm
      simp only [Bool.and_eq_true, decide_eq_true_eq] at hm
      refine hmax x.length (by omega) (by omega) ?_
      unfold slice
      rw [hm.2]; exact hx
  · exact h
  · exfalso
    have hx := hmem (by omega)
    have := h2 _ hx (by
      unfold matchB
      rw [slice_len s at_ (at_ + m) (by omega)]
      simp only [Bool.and_eq_true, decide_eq_true_eq]
      refine ⟨by omega, ?_⟩
      unfold slice
      rw [show at_ + (at_ + m - at_) = at_ + m by omega])
    rw [slice_len s at_ (at_ + m) (by omega)] at this
    omega

section
variable {M : Mem} {r km gv sm : Nat} {s : List UInt8} {at_ : Nat} {sy : List (List UInt8)}
theorem lookS (L1 L2 : List (List UInt8)) (x : List UInt8) : (findS (addT (addT [] L1) L2) x).getD (.bool false) = .bool (decide (x ∈ L1 ++ L2)) := by
  rw [findS_addT, findS_addT]
  by_cases h1 : x ∈ L1 <;> by_cases h2 : x ∈ L2 <;> simp [h1, h2, findS]
theorem look1 (L : List (List UInt8)) (x : List UInt8) : (findS (addT [] L) x).getD (.bool false) = .bool (decide (x ∈ L)) := by
  rw [findS_addT]
  by_cases h1 : x ∈ L <;> simp [h1, findS]

theorem symS_loop (h : SC M r km gv sm s at_ sy) (hlen : s.length ≤ 1000000000) (Q : AExit → St → Prop) : ∀ (n : Nat), at_ + n ≤ s.length →
    (∀ t m, symF s at_ (fixedL ++ sy) n = m → 0 < m → t[2]? = some (.v (.int .i64 2)) → t[3]? = some (.v (.int .i64 ((at_ + m : Nat) : Int))) → t[4]? = some (.v (.int .i64 0)) → Q .ret { tmps := t, loc := [], rows := [], defs := [], M := M }) →
    (symF s at_ (fixedL ++ sy) n = 0 → Q (.exit 0) { tmps := lp21_0 (.v (.ptr r 0)) (.v (.int .i64 0)), loc := [], rows := [], defs := [], M := M }) →
    CLoop none Tryd.prog tt esc21 cc21_l0 Q { tmps := lp21_0 (.v (.ptr r 0)) (.v (.int .i64 (n : Int))), loc := [], rows := [], defs := [], M := M } := by
  have hc0 := h.cell
  have hc1 := h.syms
  intro n
  induction n with
  | zero =>
    intro h1 hQ1 hQ2
    refine CLoop.unroll ?_
    generalize hK : CLoop none Tryd.prog tt esc21 cc21_l0 Q = K
    simp only [cc21_l0, lp21_0]
    repeat (first | refine CWp.seq ?_ | refine CWp.block ?_ | (refine CWp.ret ?_; try simp only [go_sem, Nat.reduceAdd, Nat.reduceLeDiff, Nat.reduceMul, Nat.reduceSub, Nat.reduceEqDiff]) | (refine CWp.skip ?_; try simp only [go_sem, Nat.reduceAdd, Nat.reduceLeDiff, Nat.reduceMul, Nat.reduceSub, Nat.reduceEqDiff]) | (refine CWp.reg tt_ok ?_; simp only [go_sem, Nat.reduceAdd, Nat.reduceLeDiff, Nat.reduceMul, Nat.reduceSub, Nat.reduceEqDiff]))
    refine CWp.cond rfl ?_ ?_ <;> intro hc
    · simp at hc
    · exact CWp.junk (t := lp21_0 (.v (.ptr r 0)) (.v (.int .i64 0))) (CWp.exit (hQ2 rfl)) (by simp [Junked, lp21_0])
  | succ n ih =>
    intro h1 hQ1 hQ2
    refine CLoop.unroll ?_
    generalize hK : CLoop none Tryd.prog tt esc21 cc21_l0 Q = K
    simp only [cc21_l0, lp21_0]
    repeat (first | refine CWp.seq ?_ | refine CWp.block ?_ | (refine CWp.ret ?_; try simp only [go_sem, Nat.reduceAdd, Nat.reduceLeDiff, Nat.reduceMul, Nat.reduceSub, Nat.reduceEqDiff]) | (refine CWp.skip ?_; try simp only [go_sem, Nat.reduceAdd, Nat.reduceLeDiff, Nat.reduceMul, Nat.reduceSub, Nat.reduceEqDiff]) | (refine CWp.reg tt_ok ?_; simp only [go_sem, Nat.reduceAdd, Nat.reduceLeDiff, Nat.reduceMul, Nat.reduceSub, Nat.reduceEqDiff]))
    refine CWp.cond rfl ?_ ?_ <;> intro hc
    · refine CWp.skip ?_
      simp only [go_sem, Nat.reduceAdd, Nat.reduceLeDiff, Nat.reduceMul, Nat.reduceSub, Nat.reduceEqDiff]
      refine CWp.seq ?_
      refine CWp.block ?_
      refine CWp.seq ?_
      refine CWp.dreg mixed tt_ok dr21_1 ?_
      repeat (first | with_reducible refine And.intro (by first | exact True.intro | assumption | omega | (intros; omega) | (intro hg; simp only [Bool.and_eq_true, Bool.or_eq_true, decide_eq_true_eq, Bool.not_eq_true', decide_eq_false_iff_not] at hg; omega) | (simp only [decide_eq_true_eq, Bool.and_eq_true, Bool.or_eq_true, Bool.not_eq_true', decide_eq_false_iff_not]; omega) | (intros; simp_all; done) | (intros; simp_all; omega)) ?_ | (with_reducible refine evalD_step ?_; simp only [qval, factOf, pev, St.get, St.put, rd, lp, gval, icmp, scmp, bcmp, arith, quorem, nlB, isNil, bound, fillA, rdL, pickT, pickL, extL, TV.ext, TV.sc, AV.cells, am_one_bool, am_one_int, am_one_str, am_one_nilp, am_one_ptr, am_one_eptr, am_one_sl, am_one_map, am_one_nilmap, am_one_fn, am_one_nilfn, am_one_iface, am_one_niliface, am_one_raw, am_one_agg, am_one_tup, am_one_junk, InR, findS, List.getElem?_cons_succ, List.getElem?_cons_zero, Option.getD_some, Option.getD_none, List.set_cons_succ, List.set_cons_zero, List.map_cons, List.map_nil, List.length_cons, List.length_nil, List.take_succ_cons, List.take_zero, List.drop_succ_cons, List.drop_zero, List.getElem?_nil, and_true, true_and, implies_true, forall_const, Bool.true_and, Bool.and_true, Bool.true_eq_false, Bool.false_eq_true, Option.map_some, Option.map_none, cond_true, cond_false, Bool.not_true, Bool.not_false, if_true, if_false, ite_true, ite_false, decide_true, decide_false, am_cond_false, am_cond_true, am_beq_true, am_beq_false, am_imp_self, am_imp_imp, am_not_imp, am_and_imp, am_and_imp', am_imp_and, am_mem_one, am_mem_cons, am_mem_nil, am_nat_add, Int.toNat_natCast, Nat.le_refl, Nat.reduceAdd, Nat.reduceLeDiff, Nat.reduceMul, Nat.reduceSub, Nat.reduceEqDiff, hc0, hc1]))
      simp only [go_sem, Nat.reduceAdd, Nat.reduceLeDiff, Nat.reduceMul, Nat.reduceSub, Nat.reduceEqDiff, hc0, hc1]
      have e1 : ((at_ : Int) + ((n + 1 : Nat) : Int)).toNat = at_ + (n + 1) := by omega
      simp only [e1, lookS]
      have e2 : List.drop at_ (List.take (at_ + (n + 1)) s) = slice s at_ (at_ + (n + 1)) := rfl
      simp only [e2]
      simp only [symF] at hQ1 hQ2
      refine CWp.cond rfl ?_ ?_ <;> intro hc2
      · rw [hc2] at hQ1
        simp only [cond_true] at hQ1
        refine CWp.seq ?_
        refine CWp.dreg mixed tt_ok dr21_2 ?_
        repeat (first | with_reducible refine And.intro (by first | exact True.intro | assumption | omega | (intros; omega) | (intro hg; simp only [Bool.and_eq_true, Bool.or_eq_true, decide_eq_true_eq, Bool.not_eq_true', decide_eq_false_iff_not] at hg; omega) | (simp only [decide_eq_true_eq, Bool.and_eq_true, Bool.or_eq_true, Bool.not_eq_true', decide_eq_false_iff_not]; omega) | (intros; simp_all; done) | (intros; simp_all; omega)) ?_ | (with_reducible refine evalD_step ?_; simp only [qval, factOf, pev, St.get, St.put, rd, lp, gval, icmp, scmp, bcmp, arith, quorem, nlB, isNil, bound, fillA, rdL, pickT, pickL, extL, TV.ext, TV.sc, AV.cells, am_one_bool, am_one_int, am_one_str, am_one_nilp, am_one_ptr, am_one_eptr, am_one_sl, am_one_map, am_one_nilmap, am_one_fn, am_one_nilfn, am_one_iface, am_one_niliface, am_one_raw, am_one_agg, am_one_tup, am_one_junk, InR, findS, List.getElem?_cons_succ, List.getElem?_cons_zero, Option.getD_some, Option.getD_none, List.set_cons_succ, List.set_cons_zero, List.map_cons, List.map_nil, List.length_cons, List.length_nil, List.take_succ_cons, List.take_zero, List.drop_succ_cons, List.drop_zero, List.getElem?_nil, and_true, true_and, implies_true, forall_const, Bool.true_and, Bool.and_true, Bool.true_eq_false, Bool.false_eq_true, Option.map_some, Option.map_none, cond_true, cond_false, Bool.not_true, Bool.not_false, if_true, if_false, ite_true, ite_false, decide_true, decide_false, am_cond_false, am_cond_true, am_beq_true, am_beq_false, am_imp_self, am_imp_imp, am_not_imp, am_and_imp, am_and_imp', am_imp_and, am_mem_one, am_mem_cons, am_mem_nil, am_nat_add, Int.toNat_natCast, Nat.le_refl, Nat.reduceAdd, Nat.reduceLeDiff, Nat.reduceMul, Nat.reduceSub, Nat.reduceEqDiff, hc0, hc1]))
        repeat (first | refine CWp.seq ?_ | refine CWp.block ?_ | (refine CWp.ret ?_; try simp only [go_sem, Nat.reduceAdd, Nat.reduceLeDiff, Nat.reduceMul, Nat.reduceSub, Nat.reduceEqDiff]) | (refine CWp.skip ?_; try simp only [go_sem, Nat.reduceAdd, Nat.reduceLeDiff, Nat.reduceMul, Nat.reduceSub, Nat.reduceEqDiff]) | (refine CWp.reg tt_ok ?_; simp only [go_sem, Nat.reduceAdd, Nat.reduceLeDiff, Nat.reduceMul, Nat.reduceSub, Nat.reduceEqDiff]))
        exact hQ1 _ (n + 1) rfl (by omega) rfl (by simp) rfl
      · rw [hc2] at hQ1 hQ2
        simp only [cond_false] at hQ1 hQ2
        repeat (first | refine CWp.seq ?_ | refine CWp.block ?_ | (refine CWp.ret ?_; try simp only [go_sem, Nat.reduceAdd, Nat.reduceLeDiff, Nat.reduceMul, Nat.reduceSub, Nat.reduceEqDiff]) | (refine CWp.skip ?_; try simp only [go_sem, Nat.reduceAdd, Nat.reduceLeDiff, Nat.reduceMul, Nat.reduceSub, Nat.reduceEqDiff]) | (refine CWp.reg tt_ok ?_; simp only [go_sem, Nat.reduceAdd, Nat.reduceLeDiff, Nat.reduceMul, Nat.reduceSub, Nat.reduceEqDiff]))
        repeat (with_reducible refine And.intro (by first | exact True.intro | assumption | omega | (intros; omega) | (intro hg; simp only [Bool.and_eq_true, Bool.or_eq_true, decide_eq_true_eq, Bool.not_eq_true', decide_eq_false_iff_not] at hg; omega) | (simp only [decide_eq_true_eq, Bool.and_eq_true, Bool.or_eq_true, Bool.not_eq_true', decide_eq_false_iff_not]; omega) | (intros; simp_all; done) | (intros; simp_all; omega)) ?_)
        rw [← hK]
        have e3 : ((n + 1 : Nat) : Int) - 1 = (n : Int) := by omega
        simp only [e3]
        exact CLoop.junk (t := lp21_0 (.v (.ptr r 0)) (.v (.int .i64 (n : Int)))) (ih (by omega) hQ1 hQ2) (by simp [Junked, lp21_0])
    · exfalso
      simp at hc
      try omega

theorem symS_spec (h : SC M r km gv sm s at_ sy) (hat : at_ < s.length) (hlen : s.length ≤ 1000000000) : ACalls Tryd.prog 21 [.ptr r 0] M fun e M' => e = .ret (tup3 (symR s at_ (fixedL ++ sy))) ∧ M' = M := by
  have hc0 := h.cell
  refine enter21 _ ?_
  simp only [cc21]
  refine CWp.seq ?_
  refine CWp.reg tt_ok ?_
  simp only [go_sem, Nat.reduceAdd, Nat.reduceLeDiff, Nat.reduceMul, Nat.reduceSub, Nat.reduceEqDiff]
  refine CWp.seq ?_
  refine CWp.seq ?_
  refine CWp.dreg mixed tt_ok dr21_0 ?_
  repeat (first | with_reducible refine And.intro (by first | exact True.intro | assumption | omega | (intros; omega) | (intro hg; simp only [Bool.and_eq_true, Bool.or_eq_true, decide_eq_true_eq, Bool.not_eq_true', decide_eq_false_iff_not] at hg; omega) | (simp only [decide_eq_true_eq, Bool.and_eq_true, Bool.or_eq_true, Bool.not_eq_true', decide_eq_false_iff_not]; omega) | (intros; simp_all; done) | (intros; simp_all; omega)) ?_ | (with_reducible refine evalD_step ?_; simp only [qval, factOf, pev, St.get, St.put, rd, lp, gval, icmp, scmp, bcmp, arith, quorem, nlB, isNil, bound, fillA, rdL, pickT, pickL, extL, TV.ext, TV.sc, AV.cells, am_one_bool, am_one_int, am_one_str, am_one_nilp, am_one_ptr, am_one_eptr, am_one_sl, am_one_map, am_one_nilmap, am_one_fn, am_one_nilfn, am_one_iface, am_one_niliface, am_one_raw, am_one_agg, am_one_tup, am_one_junk, InR, findS, List.getElem?_cons_succ, List.getElem?_cons_zero, Option.getD_some, Option.getD_none, List.set_cons_succ, List.set_cons_zero, List.map_cons, List.map_nil, List.length_cons, List.length_nil, List.take_succ_cons, List.take_zero, List.drop_succ_cons, List.drop_zero, List.getElem?_nil, and_true, true_and, implies_true, forall_const, Bool.true_and, Bool.and_true, Bool.true_eq_false, Bool.false_eq_true, Option.map_some, Option.map_none, cond_true, cond_false, Bool.not_true, Bool.not_false, if_true, if_false, ite_true, ite_false, decide_true, decide_false, am_cond_false, am_cond_true, am_beq_true, am_beq_false, am_imp_self, am_imp_imp, am_not_imp, am_and_imp, am_and_imp', am_imp_and, am_mem_one, am_mem_cons, am_mem_nil, am_nat_add, Int.toNat_natCast, Nat.le_refl, Nat.reduceAdd, Nat.reduceLeDiff, Nat.reduceMul, Nat.reduceSub, Nat.reduceEqDiff, hc0]))
  simp only [go_sem, Nat.reduceAdd, Nat.reduceLeDiff, Nat.reduceMul, Nat.reduceSub, Nat.reduceEqDiff, hc0]
  repeat (with_reducible refine And.intro (by first | exact True.intro | assumption | omega | (intros; omega) | (intro hg; simp only [Bool.and_eq_true, Bool.or_eq_true, decide_eq_true_eq, Bool.not_eq_true', decide_eq_false_iff_not] at hg; omega) | (simp only [decide_eq_true_eq, Bool.and_eq_true, Bool.or_eq_true, Bool.not_eq_true', decide_eq_false_iff_not]; omega) | (intros; simp_all; done) | (intros; simp_all; omega)) ?_)
  have e1 : min (8 : Int) ((s.length : Int) - (at_ : Int)) = ((min 8 (s.length - at_) : Nat) : Int) := by omega
  simp only [e1]
  refine CWp.block ?_
  refine CWp.loop (CLoop.junk (t := lp21_0 (.v (.ptr r 0)) (.v (.int .i64 ((min 8 (s.length - at_) : Nat) : Int)))) (symS_loop h hlen _ (min 8 (s.length - at_)) (by omega) ?_ ?_) (by simp [Junked, lp21_0]))
  · intro t m hm hm0 h2 h3 h4
    simp only [go_sem, Nat.reduceAdd, Nat.reduceLeDiff, Nat.reduceMul, Nat.reduceSub, Nat.reduceEqDiff]
    refine Fin.ret3 (.inl rfl) rfl rfl (by rw [h2]; rfl) (by rw [h3]; rfl) (by rw [h4]; rfl) (Mem.sub.refl _) ⟨?_, rfl⟩
    have : ¬ m = 0 := by omega
    simp only [symR, hm, decide_eq_false this, cond_false]; rfl
  · intro hm
    simp only [lp21_0]
    simp only [go_sem, Nat.reduceAdd, Nat.reduceLeDiff, Nat.reduceMul, Nat.reduceSub, Nat.reduceEqDiff]
    refine CWp.seq ?_
    refine CWp.dreg mixed tt_ok dr21_3 ?_
    repeat (first | with_reducible refine And.intro (by first | exact True.intro | assumption | omega | (intros; omega) | (intro hg; simp only [Bool.and_eq_true, Bool.or_eq_true, decide_eq_true_eq, Bool.not_eq_true', decide_eq_false_iff_not] at hg; omega) | (simp only [decide_eq_true_eq, Bool.and_eq_true, Bool.or_eq_true, Bool.not_eq_true', decide_eq_false_iff_not]; omega) | (intros; simp_all; done) | (intros; simp_all; omega)) ?_ | (with_reducible refine evalD_step ?_; simp only [qval, factOf, pev, St.get, St.put, rd, lp, gval, icmp, scmp, bcmp, arith, quorem, nlB, isNil, bound, fillA, rdL, pickT, pickL, extL, TV.ext, TV.sc, AV.cells, am_one_bool, am_one_int, am_one_str, am_one_nilp, am_one_ptr, am_one_eptr, am_one_sl, am_one_map, am_one_nilmap, am_one_fn, am_one_nilfn, am_one_iface, am_one_niliface, am_one_raw, am_one_agg, am_one_tup, am_one_junk, InR, findS, List.getElem?_cons_succ, List.getElem?_cons_zero, Option.getD_some, Option.getD_none, List.set_cons_succ, List.set_cons_zero, List.map_cons, List.map_nil, List.length_cons, List.length_nil, List.take_succ_cons, List.take_zero, List.drop_succ_cons, List.drop_zero, List.getElem?_nil, and_true, true_and, implies_true, forall_const, Bool.true_and, Bool.and_true, Bool.true_eq_false, Bool.false_eq_true, Option.map_some, Option.map_none, cond_true, cond_false, Bool.not_true, Bool.not_false, if_true, if_false, ite_true, ite_false, decide_true, decide_false, am_cond_false, am_cond_true, am_beq_true, am_beq_false, am_imp_self, am_imp_imp, am_not_imp, am_and_imp, am_and_imp', am_imp_and, am_mem_one, am_mem_cons, am_mem_nil, am_nat_add, Int.toNat_natCast, Nat.le_refl, Nat.reduceAdd, Nat.reduceLeDiff, Nat.reduceMul, Nat.reduceSub, Nat.reduceEqDiff, hc0]))
    repeat (first | refine CWp.seq ?_ | refine CWp.block ?_ | (refine CWp.ret ?_; try simp only [go_sem, Nat.reduceAdd, Nat.reduceLeDiff, Nat.reduceMul, Nat.reduceSub, Nat.reduceEqDiff]) | (refine CWp.skip ?_; try simp only [go_sem, Nat.reduceAdd, Nat.reduceLeDiff, Nat.reduceMul, Nat.reduceSub, Nat.reduceEqDiff]) | (refine CWp.reg tt_ok ?_; simp only [go_sem, Nat.reduceAdd, Nat.reduceLeDiff, Nat.reduceMul, Nat.reduceSub, Nat.reduceEqDiff]))
    refine Fin.ret3 (.inl rfl) rfl rfl rfl rfl rfl (Mem.sub.refl _) ⟨?_, rfl⟩
    simp only [symR, hm, decide_true, cond_true]; rfl
end
end Go.Proofs.LxA
set_option linter.unusedVariables false
set_option linter.unusedSimpArgs false
set_option maxRecDepth 100000
namespace Go.Proofs.LxA
open Go Go.Am Go.Proofs Go.RowKit
set_option linter.unusedSectionVars false

def wordM (s : List UInt8) (at_ : Nat) (sy : List (List UInt8)) : Nat × Nat × Nat :=
  let te := nameEnd s at_
  let text := slice s at_ te
  bif decide (te - at_ > 64) then (0, at_, 5) else
  bif decide (text = [95]) || decide (text ∈ sy) then (2, te, 0) else
  bif decide (text ∈ kwL) then (3, te, 0) else (0, te, 0)

section
variable {M : Mem} {r km gv sm : Nat} {s : List UInt8} {at_ : Nat} {sy : List (List UInt8)}
theorem compP_loop (h : SC M r km gv sm s at_ sy) (hlen : s.length ≤ 1000000000) (Q : AExit → St → Prop) : ∀ (n i : Nat), s.length - i < n → i ≤ s.length →
    Q (.exit 2) { tmps := lp22_1 (.v (.ptr r 0)) (.v (.int .i64 ((compEnd s n i : Nat) : Int))), loc := [], rows := [], defs := [], M := M } →
    CLoop none Tryd.prog tt esc22 cc22_l1 Q { tmps := lp22_1 (.v (.ptr r 0)) (.v (.int .i64 (i : Int))), loc := [], rows := [], defs := [], M := M } := by
  have hc0 := h.cell
  intro n
  induction n with
  | zero => intro i h0 h1 hQ; omega
  | succ n ih =>
    intro i h0 h1 hQ
    refine CLoop.unroll ?_
    generalize hK : CLoop none Tryd.prog tt esc22 cc22_l1 Q = K
    simp only [cc22_l1, lp22_1]
    refine CWp.seq ?_
    refine CWp.seq ?_
    refine CWp.reg tt_ok ?_
    simp only [go_sem, Nat.reduceAdd, Nat.reduceLeDiff, Nat.reduceMul, Nat.reduceSub, Nat.reduceEqDiff, hc0]
    repeat (with_reducible refine And.intro (by first | exact True.intro | assumption | omega | (intros; omega) | (intro hg; simp only [Bool.and_eq_true, Bool.or_eq_true, decide_eq_true_eq, Bool.not_eq_true', decide_eq_false_iff_not] at hg; omega) | (simp only [decide_eq_true_eq, Bool.and_eq_true, Bool.or_eq_true, Bool.not_eq_true', decide_eq_false_iff_not]; omega) | (intros; simp_all; done) | (intros; simp_all; omega)) ?_)
    refine COps.pure has29 rfl rfl (by simp) (fun _ => inWord_spec _) (evalC_sound tt_ok _ _ ?_)
    simp only [go_sem, Nat.reduceAdd, Nat.reduceLeDiff, Nat.reduceMul, Nat.reduceSub, Nat.reduceEqDiff]
    repeat (with_reducible refine And.intro (by first | exact True.intro | assumption | omega | (intros; omega) | (intro hg; simp only [Bool.and_eq_true, Bool.or_eq_true, decide_eq_true_eq, Bool.not_eq_true', decide_eq_false_iff_not] at hg; omega) | (simp only [decide_eq_true_eq, Bool.and_eq_true, Bool.or_eq_true, Bool.not_eq_true', decide_eq_false_iff_not]; omega) | (intros; simp_all; done) | (intros; simp_all; omega)) ?_)
    have key : (decide ((i : Int) < (s.length : Int)) && inWordB (((s.getD i 0).toNat : Nat) : Int)) = (decide (i < s.length) && isComp (byteI s i)) := by
      congr 1
      exact decide_eq_decide.2 (by omega)
    simp only [key]
    refine CWp.cond rfl ?_ ?_ <;> intro hc
    · have hlt : i < s.length := by
        simp only [Bool.and_eq_true, decide_eq_true_eq] at hc
        exact hc.1
      repeat (first | refine CWp.seq ?_ | refine CWp.block ?_ | (refine CWp.ret ?_; try simp only [go_sem, Nat.reduceAdd, Nat.reduceLeDiff, Nat.reduceMul, Nat.reduceSub, Nat.reduceEqDiff]) | (refine CWp.skip ?_; try simp only [go_sem, Nat.reduceAdd, Nat.reduceLeDiff, Nat.reduceMul, Nat.reduceSub, Nat.reduceEqDiff]) | (refine CWp.reg tt_ok ?_; simp only [go_sem, Nat.reduceAdd, Nat.reduceLeDiff, Nat.reduceMul, Nat.reduceSub, Nat.reduceEqDiff]))
      repeat (with_reducible refine And.intro (by first | exact True.intro | assumption | omega | (intros; omega) | (intro hg; simp only [Bool.and_eq_true, Bool.or_eq_true, decide_eq_true_eq, Bool.not_eq_true', decide_eq_false_iff_not] at hg; omega) | (simp only [decide_eq_true_eq, Bool.and_eq_true, Bool.or_eq_true, Bool.not_eq_true', decide_eq_false_iff_not]; omega) | (intros; simp_all; done) | (intros; simp_all; omega)) ?_)
      simp only [Bool.and_eq_true, decide_eq_true_eq] at hc
      simp only [compEnd, if_pos hc] at hQ
      rw [← hK]
      exact CLoop.junk (t := lp22_1 (.v (.ptr r 0)) (.v (.int .i64 ((i + 1 : Nat) : Int)))) (ih _ (by omega) (by omega) hQ) (by simp [Junked, lp22_1])
    · have hc' : ¬ (i < s.length ∧ isComp (byteI s i) = true) := by
        rintro ⟨a, b⟩
        rw [decide_eq_true a, b] at hc; cases hc
      simp only [compEnd, if_neg hc'] at hQ
      exact CWp.junk (t := lp22_1 (.v (.ptr r 0)) (.v (.int .i64 (i : Int)))) (CWp.exit hQ) (by simp [Junked, lp22_1])

theorem nameP_loop (h : SC M r km gv sm s at_ sy) (hlen : s.length ≤ 1000000000) (Q : AExit → St → Prop) : ∀ (n i : Nat), s.length - i < n → i ≤ s.length →
    Q (.exit 0) { tmps := lp22_1 (.v (.ptr r 0)) (.v (.int .i64 ((nameLoop s n (compEnd s (s.length + 1) i) : Nat) : Int))), loc := [], rows := [], defs := [], M := M } →
    CLoop none Tryd.prog tt esc22 cc22_l0 Q { tmps := lp22_1 (.v (.ptr r 0)) (.v (.int .i64 (i : Int))), loc := [], rows := [], defs := [], M := M } := by
  have hc0 := h.cell
  intro n
  induction n with
  | zero => intro i h0 h1 hQ; omega
  | succ n ih =>
    intro i h0 h1 hQ
    have hle := compEnd_le s (s.length + 1) i h1
    refine CLoop.unroll ?_
    generalize hK : CLoop none Tryd.prog tt esc22 cc22_l0 Q = K
    simp only [cc22_l0]
    refine CWp.block ?_
    refine CWp.seq ?_
    refine CWp.block ?_
    refine CWp.loop (compP_loop h hlen _ (s.length + 1) i (by omega) h1 ?_)
    generalize compEnd s (s.length + 1) i = j at *
    simp only [lp22_1]
    simp only [go_sem, Nat.reduceAdd, Nat.reduceLeDiff, Nat.reduceMul, Nat.reduceSub, Nat.reduceEqDiff]
    refine CWp.seq ?_
    refine CWp.seq ?_
    refine CWp.reg tt_ok ?_
    simp only [go_sem, Nat.reduceAdd, Nat.reduceLeDiff, Nat.reduceMul, Nat.reduceSub, Nat.reduceEqDiff, hc0]
    repeat (with_reducible refine And.intro (by first | exact True.intro | assumption | omega | (intros; omega) | (intro hg; simp only [Bool.and_eq_true, Bool.or_eq_true, decide_eq_true_eq, Bool.not_eq_true', decide_eq_false_iff_not] at hg; omega) | (simp only [decide_eq_true_eq, Bool.and_eq_true, Bool.or_eq_true, Bool.not_eq_true', decide_eq_false_iff_not]; omega) | (intros; simp_all; done) | (intros; simp_all; omega)) ?_)
    refine COps.pure has26 rfl rfl (by simp) (fun _ => class_spec _) (evalC_sound tt_ok _ _ ?_)
    simp only [go_sem, Nat.reduceAdd, Nat.reduceLeDiff, Nat.reduceMul, Nat.reduceSub, Nat.reduceEqDiff, classI_one]
    repeat (with_reducible refine And.intro (by first | exact True.intro | assumption | omega | (intros; omega) | (intro hg; simp only [Bool.and_eq_true, Bool.or_eq_true, decide_eq_true_eq, Bool.not_eq_true', decide_eq_false_iff_not] at hg; omega) | (simp only [decide_eq_true_eq, Bool.and_eq_true, Bool.or_eq_true, Bool.not_eq_true', decide_eq_false_iff_not]; omega) | (intros; simp_all; done) | (intros; simp_all; omega)) ?_)
    have e1 : ((j : Int) + 1).toNat = j + 1 := by omega
    have e2 : decide ((s.length : Int) ≤ (j : Int) + 1) = !decide (j + 1 < s.length) := by
      by_cases h5 : j + 1 < s.length
      · rw [decide_eq_true h5]; exact decide_eq_false (by omega)
      · rw [decide_eq_false h5]; exact decide_eq_true (by omega)
    have b1 : (((s.getD j 0).toNat : Nat) : Int) = byteI s j := rfl
    have b2 : (((s.getD (j + 1) 0).toNat : Nat) : Int) = byteI s (j + 1) := rfl
    simp only [e1, e2, b1, b2]
    have key : ((!decide (j + 1 < s.length) || !decide (byteI s j = 46)) || !beginsB (byteI s (j + 1))) = !dotB s j := by
      unfold dotB
      rw [Bool.not_and, Bool.not_and]
    simp only [key]
    refine CWp.cond rfl ?_ ?_ <;> intro hc
    · have hd : dotB s j = false := by simpa using hc
      simp only [nameLoop, hd, cond_false] at hQ
      refine CWp.junk (t := lp22_1 (.v (.ptr r 0)) (.v (.int .i64 (j : Int)))) (CWp.exit ?_) (by simp [Junked, lp22_1])
      simp only [go_sem, Nat.reduceAdd, Nat.reduceLeDiff, Nat.reduceMul, Nat.reduceSub, Nat.reduceEqDiff]
      exact hQ
    · have hd : dotB s j = true := by simpa using hc
      have hj : j + 1 < s.length := by
        unfold dotB at hd
        simp only [Bool.and_eq_true, decide_eq_true_eq] at hd
        exact hd.1.1
      simp only [nameLoop, hd, cond_true] at hQ
      refine CWp.skip ?_
      simp only [go_sem, Nat.reduceAdd, Nat.reduceLeDiff, Nat.reduceMul, Nat.reduceSub, Nat.reduceEqDiff]
      refine CWp.reg tt_ok ?_
      simp only [go_sem, Nat.reduceAdd, Nat.reduceLeDiff, Nat.reduceMul, Nat.reduceSub, Nat.reduceEqDiff]
      repeat (with_reducible refine And.intro (by first | exact True.intro | assumption | omega | (intros; omega) | (intro hg; simp only [Bool.and_eq_true, Bool.or_eq_true, decide_eq_true_eq, Bool.not_eq_true', decide_eq_false_iff_not] at hg; omega) | (simp only [decide_eq_true_eq, Bool.and_eq_true, Bool.or_eq_true, Bool.not_eq_true', decide_eq_false_iff_not]; omega) | (intros; simp_all; done) | (intros; simp_all; omega)) ?_)
      rw [← hK]
      exact CLoop.junk (t := lp22_1 (.v (.ptr r 0)) (.v (.int .i64 ((j + 1 : Nat) : Int)))) (ih (j + 1) (by omega) (by omega) hQ) (by simp [Junked, lp22_1])

theorem word_spec (h : SC M r km gv sm s at_ sy) (hat : at_ < s.length) (hlen : s.length ≤ 1000000000) : ACalls Tryd.prog 22 [.ptr r 0] M fun e M' => e = .ret (tup3 (wordM s at_ sy)) ∧ M' = M := by
  have hc0 := h.cell
  have hc1 := h.kw
  have hc2 := h.given
  have hle := nameEnd_le s at_ (by omega)
  refine enter22 _ ?_
  simp only [cc22]
  refine CWp.seq ?_
  refine CWp.reg tt_ok ?_
  simp only [go_sem, Nat.reduceAdd, Nat.reduceLeDiff, Nat.reduceMul, Nat.reduceSub, Nat.reduceEqDiff]
  refine CWp.seq ?_
  refine CWp.reg tt_ok ?_
  simp only [go_sem, Nat.reduceAdd, Nat.reduceLeDiff, Nat.reduceMul, Nat.reduceSub, Nat.reduceEqDiff, hc0]
  refine CWp.seq ?_
  refine CWp.block ?_
  refine CWp.loop (CLoop.junk (t := lp22_1 (.v (.ptr r 0)) (.v (.int .i64 (at_ : Int)))) (nameP_loop h hlen _ (s.length + 1) at_ (by omega) (by omega) ?_) (by simp [Junked, lp22_1]))
  have hne : nameLoop s (s.length + 1) (compEnd s (s.length + 1) at_) = nameEnd s at_ := rfl
  rw [hne]
  simp only [lp22_1]
  simp only [go_sem, Nat.reduceAdd, Nat.reduceLeDiff, Nat.reduceMul, Nat.reduceSub, Nat.reduceEqDiff]
  refine CWp.seq ?_
  refine CWp.dreg mixed tt_ok dr22_0 ?_
  repeat (first | with_reducible refine And.intro (by first | exact True.intro | assumption | omega | (intros; omega) | (intro hg; simp only [Bool.and_eq_true, Bool.or_eq_true, decide_eq_true_eq, Bool.not_eq_true', decide_eq_false_iff_not] at hg; omega) | (simp only [decide_eq_true_eq, Bool.and_eq_true, Bool.or_eq_true, Bool.not_eq_true', decide_eq_false_iff_not]; omega) | (intros; simp_all; done) | (intros; simp_all; omega)) ?_ | (with_reducible refine evalD_step ?_; simp only [qval, factOf, pev, St.get, St.put, rd, lp, gval, icmp, scmp, bcmp, arith, quorem, nlB, isNil, bound, fillA, rdL, pickT, pickL, extL, TV.ext, TV.sc, AV.cells, am_one_bool, am_one_int, am_one_str, am_one_nilp, am_one_ptr, am_one_eptr, am_one_sl, am_one_map, am_one_nilmap, am_one_fn, am_one_nilfn, am_one_iface, am_one_niliface, am_one_raw, am_one_agg, am_one_tup, am_one_junk, InR, findS, List.getElem?_cons_succ, List.getElem?_cons_zero, Option.getD_some, Option.getD_none, List.set_cons_succ, List.set_cons_zero, List.map_cons, List.map_nil, List.length_cons, List.length_nil, List.take_succ_cons, List.take_zero, List.drop_succ_cons, List.drop_zero, List.getElem?_nil, and_true, true_and, implies_true, forall_const, Bool.true_and, Bool.and_true, Bool.true_eq_false, Bool.false_eq_true, Option.map_some, Option.map_none, cond_true, cond_false, Bool.not_true, Bool.not_false, if_true, if_false, ite_true, ite_false, decide_true, decide_false, am_cond_false, am_cond_true, am_beq_true, am_beq_false, am_imp_self, am_imp_imp, am_not_imp, am_and_imp, am_and_imp', am_imp_and, am_mem_one, am_mem_cons, am_mem_nil, am_nat_add, Int.toNat_natCast, Nat.le_refl, Nat.reduceAdd, Nat.reduceLeDiff, Nat.reduceMul, Nat.reduceSub, Nat.reduceEqDiff, hc0]))
  simp only [go_sem, Nat.reduceAdd, Nat.reduceLeDiff, Nat.reduceMul, Nat.reduceSub, Nat.reduceEqDiff, hc0]
  generalize hte : nameEnd s at_ = te at *
  have e2 : List.drop at_ (List.take te s) = slice s at_ te := rfl
  simp only [e2]
  have hsl := slice_len s at_ te hle.2
  refine CWp.seq ?_
  refine CWp.block ?_
  refine CWp.seq ?_
  refine CWp.reg tt_ok ?_
  simp only [go_sem, Nat.reduceAdd, Nat.reduceLeDiff, Nat.reduceMul, Nat.reduceSub, Nat.reduceEqDiff]
  have k1 : decide ((64 : Int) < ((slice s at_ te).length : Int)) = decide (te - at_ > 64) := decide_eq_decide.2 (by omega)
  simp only [k1]
  refine CWp.cond rfl ?_ ?_ <;> intro h1
  · refine CWp.seq ?_
    refine CWp.dreg mixed tt_ok dr22_1 ?_
    repeat (first | with_reducible refine And.intro (by first | exact True.intro | assumption | omega | (intros; omega) | (intro hg; simp only [Bool.and_eq_true, Bool.or_eq_true, decide_eq_true_eq, Bool.not_eq_true', decide_eq_false_iff_not] at hg; omega) | (simp only [decide_eq_true_eq, Bool.and_eq_true, Bool.or_eq_true, Bool.not_eq_true', decide_eq_false_iff_not]; omega) | (intros; simp_all; done) | (intros; simp_all; omega)) ?_ | (with_reducible refine evalD_step ?_; simp only [qval, factOf, pev, St.get, St.put, rd, lp, gval, icmp, scmp, bcmp, arith, quorem, nlB, isNil, bound, fillA, rdL, pickT, pickL, extL, TV.ext, TV.sc, AV.cells, am_one_bool, am_one_int, am_one_str, am_one_nilp, am_one_ptr, am_one_eptr, am_one_sl, am_one_map, am_one_nilmap, am_one_fn, am_one_nilfn, am_one_iface, am_one_niliface, am_one_raw, am_one_agg, am_one_tup, am_one_junk, InR, findS, List.getElem?_cons_succ, List.getElem?_cons_zero, Option.getD_some, Option.getD_none, List.set_cons_succ, List.set_cons_zero, List.map_cons, List.map_nil, List.length_cons, List.length_nil, List.take_succ_cons, List.take_zero, List.drop_succ_cons, List.drop_zero, List.getElem?_nil, and_true, true_and, implies_true, forall_const, Bool.true_and, Bool.and_true, Bool.true_eq_false, Bool.false_eq_true, Option.map_some, Option.map_none, cond_true, cond_false, Bool.not_true, Bool.not_false, if_true, if_false, ite_true, ite_false, decide_true, decide_false, am_cond_false, am_cond_true, am_beq_true, am_beq_false, am_imp_self, am_imp_imp, am_not_imp, am_and_imp, am_and_imp', am_imp_and, am_mem_one, am_mem_cons, am_mem_nil, am_nat_add, Int.toNat_natCast, Nat.le_refl, Nat.reduceAdd, Nat.reduceLeDiff, Nat.reduceMul, Nat.reduceSub, Nat.reduceEqDiff, hc0]))
    repeat (first | refine CWp.seq ?_ | refine CWp.block ?_ | (refine CWp.ret ?_; try simp only [go_sem, Nat.reduceAdd, Nat.reduceLeDiff, Nat.reduceMul, Nat.reduceSub, Nat.reduceEqDiff]) | (refine CWp.skip ?_; try simp only [go_sem, Nat.reduceAdd, Nat.reduceLeDiff, Nat.reduceMul, Nat.reduceSub, Nat.reduceEqDiff]) | (refine CWp.reg tt_ok ?_; simp only [go_sem, Nat.reduceAdd, Nat.reduceLeDiff, Nat.reduceMul, Nat.reduceSub, Nat.reduceEqDiff]))
    refine Fin.ret3 (.inl rfl) rfl rfl rfl rfl rfl (Mem.sub.refl _) ⟨?_, rfl⟩
    simp only [wordM, hte, h1, cond_true]; rfl
  · refine CWp.seq ?_
    refine CWp.reg tt_ok ?_
    simp only [go_sem, Nat.reduceAdd, Nat.reduceLeDiff, Nat.reduceMul, Nat.reduceSub, Nat.reduceEqDiff, hc0, hc2, look1]
    refine CWp.cond rfl ?_ ?_ <;> intro h2
    · repeat (first | refine CWp.seq ?_ | refine CWp.block ?_ | (refine CWp.ret ?_; try simp only [go_sem, Nat.reduceAdd, Nat.reduceLeDiff, Nat.reduceMul, Nat.reduceSub, Nat.reduceEqDiff]) | (refine CWp.skip ?_; try simp only [go_sem, Nat.reduceAdd, Nat.reduceLeDiff, Nat.reduceMul, Nat.reduceSub, Nat.reduceEqDiff]) | (refine CWp.reg tt_ok ?_; simp only [go_sem, Nat.reduceAdd, Nat.reduceLeDiff, Nat.reduceMul, Nat.reduceSub, Nat.reduceEqDiff]))
      refine Fin.ret3 (.inl rfl) rfl rfl rfl rfl rfl (Mem.sub.refl _) ⟨?_, rfl⟩
      simp only [wordM, hte, h1, h2, cond_true, cond_false]; rfl
    · refine CWp.seq ?_
      refine CWp.reg tt_ok ?_
      simp only [go_sem, Nat.reduceAdd, Nat.reduceLeDiff, Nat.reduceMul, Nat.reduceSub, Nat.reduceEqDiff, hc0, hc1, look1]
      refine CWp.cond rfl ?_ ?_ <;> intro h3
      · repeat (first | refine CWp.seq ?_ | refine CWp.block ?_ | (refine CWp.ret ?_; try simp only [go_sem, Nat.reduceAdd, Nat.reduceLeDiff, Nat.reduceMul, Nat.reduceSub, Nat.reduceEqDiff]) | (refine CWp.skip ?_; try simp only [go_sem, Nat.reduceAdd, Nat.reduceLeDiff, Nat.reduceMul, Nat.reduceSub, Nat.reduceEqDiff]) | (refine CWp.reg tt_ok ?_; simp only [go_sem, Nat.reduceAdd, Nat.reduceLeDiff, Nat.reduceMul, Nat.reduceSub, Nat.reduceEqDiff]))
        refine Fin.ret3 (.inl rfl) rfl rfl rfl rfl rfl (Mem.sub.refl _) ⟨?_, rfl⟩
        simp only [wordM, hte, h1, h2, h3, cond_true, cond_false]; rfl
      · repeat (first | refine CWp.seq ?_ | refine CWp.block ?_ | (refine CWp.ret ?_; try simp only [go_sem, Nat.reduceAdd, Nat.reduceLeDiff, Nat.reduceMul, Nat.reduceSub, Nat.reduceEqDiff]) | (refine CWp.skip ?_; try simp only [go_sem, Nat.reduceAdd, Nat.reduceLeDiff, Nat.reduceMul, Nat.reduceSub, Nat.reduceEqDiff]) | (refine CWp.reg tt_ok ?_; simp only [go_sem, Nat.reduceAdd, Nat.reduceLeDiff, Nat.reduceMul, Nat.reduceSub, Nat.reduceEqDiff]))
        refine Fin.ret3 (.inl rfl) rfl rfl rfl rfl rfl (Mem.sub.refl _) ⟨?_, rfl⟩
        simp only [wordM, hte, h1, h2, h3, cond_false]; rfl
end
end Go.Proofs.LxA
