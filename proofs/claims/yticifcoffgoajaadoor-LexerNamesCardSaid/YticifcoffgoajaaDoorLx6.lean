import Derived.Test.YticifcoffgoajaaDoorLx5
set_option linter.unusedVariables false
set_option linter.unusedSimpArgs false
set_option maxRecDepth 100000
namespace Go.Proofs.LxA
open Go Go.Am Go.Proofs Go.RowKit
set_option linter.unusedSectionVars false

theorem eqI (c k : UInt8) : decide ((c.toNat : Int) = (k.toNat : Int)) = (c == k) := by
  by_cases h : c = k
  · subst h; simp
  · have : ¬ (c.toNat : Int) = (k.toNat : Int) := by
      intro e; apply h; apply UInt8.toNat_inj.1; omega
    simp [h, this]
theorem byteI_at (s : List UInt8) (i : Nat) (hi : i < s.length) : byteI s i = (s[i].toNat : Int) := by
  unfold byteI
  have : s.getD i 0 = s[i] := by simp [List.getD, List.getElem?_eq_getElem hi]
  rw [this]

theorem quo_index (s : List UInt8) : ∀ (n i : Nat), s.length - i < n → i ≤ s.length → Lib.indexAny (s.drop i) [34, 10] = if quoEnd s n i < s.length then (quoEnd s n i : Int) - (i : Int) else -1
  | 0, i, h, _ => by omega
  | n + 1, i, h, hl => by
    by_cases hi : i < s.length
    · rw [List.drop_eq_getElem_cons hi]
      unfold Lib.indexAny
      have hq : quoAt s i = !([34, 10] : List UInt8).contains s[i] := by
        unfold quoAt
        rw [byteI_at s i hi, decide_eq_true hi]
        have e1 := eqI s[i] 34
        have e2 := eqI s[i] 10
        have e1' : decide ((s[i].toNat : Int) = 34) = (s[i] == 34) := e1
        have e2' : decide ((s[i].toNat : Int) = 10) = (s[i] == 10) := e2
        rw [e1', e2', List.contains_cons, List.contains_cons, List.contains_nil, Bool.or_false, Bool.not_or, Bool.true_and]
      simp only [quoEnd, hq]
      cases hc : ([34, 10] : List UInt8).contains s[i] with
      | true => simp [hi]
      | false =>
        have ih := quo_index s n (i + 1) (by omega) (by omega)
        have hle := quoEnd_le s n (i + 1) (by omega)
        simp only [Bool.not_false, cond_true, ih, Bool.false_eq_true, if_false]
        by_cases hlt : quoEnd s n (i + 1) < s.length
        · have : ¬ ((quoEnd s n (i + 1) : Int) - ((i + 1 : Nat) : Int) == -1) = true := by
            rw [beq_iff_eq]; omega
          simp only [if_pos hlt, if_neg this]
          omega
        · simp only [if_neg hlt]; rfl
    · have : i = s.length := by omega
      subst this
      have hle := quoEnd_le s (n + 1) s.length (Nat.le_refl _)
      have : quoEnd s (n + 1) s.length = s.length := by omega
      rw [this]
      simp [Lib.indexAny]

def quoM (s : List UInt8) (at_ : Nat) : Nat × Nat × Nat :=
  let te := quoEnd s (s.length + 1) (at_ + 1)
  bif decide (te = s.length) || !decide (byteI s te = 34) then (0, at_, 4) else (2, te + 1, 0)

theorem quoEnd_stop (s : List UInt8) : ∀ (n i : Nat), s.length - i < n → i ≤ s.length → quoAt s (quoEnd s n i) = false
  | 0, i, h, _ => by omega
  | n + 1, i, h, hl => by
    simp only [quoEnd]
    cases hb : quoAt s i with
    | false => simpa using hb
    | true =>
      have h1 : i < s.length := by
        unfold quoAt at hb
        simp only [Bool.and_eq_true, decide_eq_true_eq] at hb
        exact hb.1.1
      simp only [cond_true]
      exact quoEnd_stop s n (i + 1) (by omega) (by omega)

section
variable {M : Mem} {r km gv sm : Nat} {s : List UInt8} {at_ : Nat} {sy : List (List UInt8)}
theorem quoted_spec (h : SC M r km gv sm s at_ sy) (hat : at_ < s.length) (hlen : s.length ≤ 1000000) : ACalls Tryd.prog 24 [.ptr r 0] M fun e M' => e = .ret (tup3 (quoM s at_)) ∧ M' = M := by
  have hc0 := h.cell
  have hqi := quo_index s (s.length + 1) (at_ + 1) (by omega) (by omega)
  have hle := quoEnd_le s (s.length + 1) (at_ + 1) (by omega)
  have hst := quoEnd_stop s (s.length + 1) (at_ + 1) (by omega) (by omega)
  generalize hte : quoEnd s (s.length + 1) (at_ + 1) = te at *
  refine enter24 _ ?_
  simp only [cc24]
  refine CWp.seq ?_
  refine CWp.reg tt_ok ?_
  simp only [go_sem, Nat.reduceAdd, Nat.reduceLeDiff, Nat.reduceMul, Nat.reduceSub, Nat.reduceEqDiff]
  refine CWp.seq ?_
  refine CWp.dreg mixed tt_ok dr24_0 ?_
  repeat (first | with_reducible refine And.intro (by first | exact True.intro | assumption | omega | (intros; omega) | (intro hg; simp only [Bool.and_eq_true, Bool.or_eq_true, decide_eq_true_eq, Bool.not_eq_true', decide_eq_false_iff_not] at hg; omega) | (simp only [decide_eq_true_eq, Bool.and_eq_true, Bool.or_eq_true, Bool.not_eq_true', decide_eq_false_iff_not]; omega) | (intros; simp_all; done) | (intros; simp_all; omega)) ?_ | (with_reducible refine evalD_step ?_; simp only [qval, factOf, pev, St.get, St.put, rd, lp, gval, icmp, scmp, bcmp, arith, quorem, nlB, isNil, bound, fillA, rdL, pickT, pickL, extL, TV.ext, TV.sc, AV.cells, am_one_bool, am_one_int, am_one_str, am_one_nilp, am_one_ptr, am_one_eptr, am_one_sl, am_one_map, am_one_nilmap, am_one_fn, am_one_nilfn, am_one_iface, am_one_niliface, am_one_raw, am_one_agg, am_one_tup, am_one_junk, InR, findS, List.getElem?_cons_succ, List.getElem?_cons_zero, Option.getD_some, Option.getD_none, List.set_cons_succ, List.set_cons_zero, List.map_cons, List.map_nil, List.length_cons, List.length_nil, List.take_succ_cons, List.take_zero, List.drop_succ_cons, List.drop_zero, List.getElem?_nil, and_true, true_and, implies_true, forall_const, Bool.true_and, Bool.and_true, Bool.true_eq_false, Bool.false_eq_true, Option.map_some, Option.map_none, cond_true, cond_false, Bool.not_true, Bool.not_false, if_true, if_false, ite_true, ite_false, decide_true, decide_false, am_cond_false, am_cond_true, am_beq_true, am_beq_false, am_imp_self, am_imp_imp, am_not_imp, am_and_imp, am_and_imp', am_imp_and, am_mem_one, am_mem_cons, am_mem_nil, am_nat_add, Int.toNat_natCast, Nat.le_refl, Nat.reduceAdd, Nat.reduceLeDiff, Nat.reduceMul, Nat.reduceSub, Nat.reduceEqDiff, hc0]))
  have e1 : ((at_ : Int) + 1).toNat = at_ + 1 := by omega
  have e2 : ((s.length : Int)).toNat = s.length := by omega
  simp only [e1, e2, List.take_length]
  refine evalD_call (DOps.pure tt_ok has37 rfl rfl rfl (by simp) (fun _ => indexAnyP_spec _ (by simp; omega)) (by simp [facts, memB]) (evalD_sound tt_ok _ _ _ ?_))
  repeat (first | with_reducible refine And.intro (by first | exact True.intro | assumption | omega | (intros; omega) | (intro hg; simp only [Bool.and_eq_true, Bool.or_eq_true, decide_eq_true_eq, Bool.not_eq_true', decide_eq_false_iff_not] at hg; omega) | (simp only [decide_eq_true_eq, Bool.and_eq_true, Bool.or_eq_true, Bool.not_eq_true', decide_eq_false_iff_not]; omega) | (intros; simp_all; done) | (intros; simp_all; omega)) ?_ | (with_reducible refine evalD_step ?_; simp only [qval, factOf, pev, St.get, St.put, rd, lp, gval, icmp, scmp, bcmp, arith, quorem, nlB, isNil, bound, fillA, rdL, pickT, pickL, extL, TV.ext, TV.sc, AV.cells, am_one_bool, am_one_int, am_one_str, am_one_nilp, am_one_ptr, am_one_eptr, am_one_sl, am_one_map, am_one_nilmap, am_one_fn, am_one_nilfn, am_one_iface, am_one_niliface, am_one_raw, am_one_agg, am_one_tup, am_one_junk, InR, findS, List.getElem?_cons_succ, List.getElem?_cons_zero, Option.getD_some, Option.getD_none, List.set_cons_succ, List.set_cons_zero, List.map_cons, List.map_nil, List.length_cons, List.length_nil, List.take_succ_cons, List.take_zero, List.drop_succ_cons, List.drop_zero, List.getElem?_nil, and_true, true_and, implies_true, forall_const, Bool.true_and, Bool.and_true, Bool.true_eq_false, Bool.false_eq_true, Option.map_some, Option.map_none, cond_true, cond_false, Bool.not_true, Bool.not_false, if_true, if_false, ite_true, ite_false, decide_true, decide_false, am_cond_false, am_cond_true, am_beq_true, am_beq_false, am_imp_self, am_imp_imp, am_not_imp, am_and_imp, am_and_imp', am_imp_and, am_mem_one, am_mem_cons, am_mem_nil, am_nat_add, Int.toNat_natCast, Nat.le_refl, Nat.reduceAdd, Nat.reduceLeDiff, Nat.reduceMul, Nat.reduceSub, Nat.reduceEqDiff, hc0]))
  simp only [go_sem, Nat.reduceAdd, Nat.reduceLeDiff, Nat.reduceMul, Nat.reduceSub, Nat.reduceEqDiff]
  rw [hqi]
  by_cases hlt : te < s.length
  · rw [if_pos hlt]
    have hb : byteI s te = 34 ∨ byteI s te = 10 := by
      unfold quoAt at hst
      rw [decide_eq_true hlt, Bool.true_and] at hst
      simp only [Bool.and_eq_false_iff, Bool.not_eq_false', decide_eq_true_eq] at hst
      exact hst
    refine CWp.seq ?_
    refine CWp.seq ?_
    refine CWp.dreg mixed tt_ok dr24_1 ?_
    repeat (first | with_reducible refine And.intro (by first | exact True.intro | assumption | omega | (intros; omega) | (intro hg; simp only [Bool.and_eq_true, Bool.or_eq_true, decide_eq_true_eq, Bool.not_eq_true', decide_eq_false_iff_not] at hg; omega) | (simp only [decide_eq_true_eq, Bool.and_eq_true, Bool.or_eq_true, Bool.not_eq_true', decide_eq_false_iff_not]; omega) | (intros; simp_all; done) | (intros; simp_all; omega)) ?_ | (with_reducible refine evalD_step ?_; simp only [qval, factOf, pev, St.get, St.put, rd, lp, gval, icmp, scmp, bcmp, arith, quorem, nlB, isNil, bound, fillA, rdL, pickT, pickL, extL, TV.ext, TV.sc, AV.cells, am_one_bool, am_one_int, am_one_str, am_one_nilp, am_one_ptr, am_one_eptr, am_one_sl, am_one_map, am_one_nilmap, am_one_fn, am_one_nilfn, am_one_iface, am_one_niliface, am_one_raw, am_one_agg, am_one_tup, am_one_junk, InR, findS, List.getElem?_cons_succ, List.getElem?_cons_zero, Option.getD_some, Option.getD_none, List.set_cons_succ, List.set_cons_zero, List.map_cons, List.map_nil, List.length_cons, List.length_nil, List.take_succ_cons, List.take_zero, List.drop_succ_cons, List.drop_zero, List.getElem?_nil, and_true, true_and, implies_true, forall_const, Bool.true_and, Bool.and_true, Bool.true_eq_false, Bool.false_eq_true, Option.map_some, Option.map_none, cond_true, cond_false, Bool.not_true, Bool.not_false, if_true, if_false, ite_true, ite_false, decide_true, decide_false, am_cond_false, am_cond_true, am_beq_true, am_beq_false, am_imp_self, am_imp_imp, am_not_imp, am_and_imp, am_and_imp', am_imp_and, am_mem_one, am_mem_cons, am_mem_nil, am_nat_add, Int.toNat_natCast, Nat.le_refl, Nat.reduceAdd, Nat.reduceLeDiff, Nat.reduceMul, Nat.reduceSub, Nat.reduceEqDiff, hc0]))
    have e3 : decide ((te : Int) - ((at_ + 1 : Nat) : Int) < 0) = false := decide_eq_false (by omega)
    have e4 : ((at_ : Int) + 1 + ((te : Int) - ((at_ + 1 : Nat) : Int))).toNat = te := by omega
    have e5 : (((s.getD te 0).toNat : Nat) : Int) = byteI s te := rfl
    simp only [e3, e4, e5, Bool.false_or]
    simp only [go_sem, Nat.reduceAdd, Nat.reduceLeDiff, Nat.reduceMul, Nat.reduceSub, Nat.reduceEqDiff]
    refine CWp.cond rfl ?_ ?_ <;> intro hc
    · have h10 : byteI s te = 10 := of_decide_eq_true hc
      refine CWp.seq ?_
      refine CWp.dreg mixed tt_ok dr24_2 ?_
      repeat (first | with_reducible refine And.intro (by first | exact True.intro | assumption | omega | (intros; omega) | (intro hg; simp only [Bool.and_eq_true, Bool.or_eq_true, decide_eq_true_eq, Bool.not_eq_true', decide_eq_false_iff_not] at hg; omega) | (simp only [decide_eq_true_eq, Bool.and_eq_true, Bool.or_eq_true, Bool.not_eq_true', decide_eq_false_iff_not]; omega) | (intros; simp_all; done) | (intros; simp_all; omega)) ?_ | (with_reducible refine evalD_step ?_; simp only [qval, factOf, pev, St.get, St.put, rd, lp, gval, icmp, scmp, bcmp, arith, quorem, nlB, isNil, bound, fillA, rdL, pickT, pickL, extL, TV.ext, TV.sc, AV.cells, am_one_bool, am_one_int, am_one_str, am_one_nilp, am_one_ptr, am_one_eptr, am_one_sl, am_one_map, am_one_nilmap, am_one_fn, am_one_nilfn, am_one_iface, am_one_niliface, am_one_raw, am_one_agg, am_one_tup, am_one_junk, InR, findS, List.getElem?_cons_succ, List.getElem?_cons_zero, Option.getD_some, Option.getD_none, List.set_cons_succ, List.set_cons_zero, List.map_cons, List.map_nil, List.length_cons, List.length_nil, List.take_succ_cons, List.take_zero, List.drop_succ_cons, List.drop_zero, List.getElem?_nil, and_true, true_and, implies_true, forall_const, Bool.true_and, Bool.and_true, Bool.true_eq_false, Bool.false_eq_true, Option.map_some, Option.map_none, cond_true, cond_false, Bool.not_true, Bool.not_false, if_true, if_false, ite_true, ite_false, decide_true, decide_false, am_cond_false, am_cond_true, am_beq_true, am_beq_false, am_imp_self, am_imp_imp, am_not_imp, am_and_imp, am_and_imp', am_imp_and, am_mem_one, am_mem_cons, am_mem_nil, am_nat_add, Int.toNat_natCast, Nat.le_refl, Nat.reduceAdd, Nat.reduceLeDiff, Nat.reduceMul, Nat.reduceSub, Nat.reduceEqDiff, hc0]))
      repeat (first | refine CWp.seq ?_ | refine CWp.block ?_ | (refine CWp.ret ?_; try simp only [go_sem, Nat.reduceAdd, Nat.reduceLeDiff, Nat.reduceMul, Nat.reduceSub, Nat.reduceEqDiff]) | (refine CWp.skip ?_; try simp only [go_sem, Nat.reduceAdd, Nat.reduceLeDiff, Nat.reduceMul, Nat.reduceSub, Nat.reduceEqDiff]) | (refine CWp.reg tt_ok ?_; simp only [go_sem, Nat.reduceAdd, Nat.reduceLeDiff, Nat.reduceMul, Nat.reduceSub, Nat.reduceEqDiff]))
      refine Fin.ret3 (.inl rfl) rfl rfl rfl rfl rfl (Mem.sub.refl _) ⟨?_, rfl⟩
      have : ¬ byteI s te = 34 := by omega
      simp only [quoM, hte, decide_eq_false this, Bool.not_false, Bool.or_true, cond_true]; rfl
    · have h34 : byteI s te = 34 := by
        have := of_decide_eq_false hc
        omega
      repeat (first | refine CWp.seq ?_ | refine CWp.block ?_ | (refine CWp.ret ?_; try simp only [go_sem, Nat.reduceAdd, Nat.reduceLeDiff, Nat.reduceMul, Nat.reduceSub, Nat.reduceEqDiff]) | (refine CWp.skip ?_; try simp only [go_sem, Nat.reduceAdd, Nat.reduceLeDiff, Nat.reduceMul, Nat.reduceSub, Nat.reduceEqDiff]) | (refine CWp.reg tt_ok ?_; simp only [go_sem, Nat.reduceAdd, Nat.reduceLeDiff, Nat.reduceMul, Nat.reduceSub, Nat.reduceEqDiff]))
      refine CWp.dreg mixed tt_ok dr24_3 ?_
      repeat (first | with_reducible refine And.intro (by first | exact True.intro | assumption | omega | (intros; omega) | (intro hg; simp only [Bool.and_eq_true, Bool.or_eq_true, decide_eq_true_eq, Bool.not_eq_true', decide_eq_false_iff_not] at hg; omega) | (simp only [decide_eq_true_eq, Bool.and_eq_true, Bool.or_eq_true, Bool.not_eq_true', decide_eq_false_iff_not]; omega) | (intros; simp_all; done) | (intros; simp_all; omega)) ?_ | (with_reducible refine evalD_step ?_; simp only [qval, factOf, pev, St.get, St.put, rd, lp, gval, icmp, scmp, bcmp, arith, quorem, nlB, isNil, bound, fillA, rdL, pickT, pickL, extL, TV.ext, TV.sc, AV.cells, am_one_bool, am_one_int, am_one_str, am_one_nilp, am_one_ptr, am_one_eptr, am_one_sl, am_one_map, am_one_nilmap, am_one_fn, am_one_nilfn, am_one_iface, am_one_niliface, am_one_raw, am_one_agg, am_one_tup, am_one_junk, InR, findS, List.getElem?_cons_succ, List.getElem?_cons_zero, Option.getD_some, Option.getD_none, List.set_cons_succ, List.set_cons_zero, List.map_cons, List.map_nil, List.length_cons, List.length_nil, List.take_succ_cons, List.take_zero, List.drop_succ_cons, List.drop_zero, List.getElem?_nil, and_true, true_and, implies_true, forall_const, Bool.true_and, Bool.and_true, Bool.true_eq_false, Bool.false_eq_true, Option.map_some, Option.map_none, cond_true, cond_false, Bool.not_true, Bool.not_false, if_true, if_false, ite_true, ite_false, decide_true, decide_false, am_cond_false, am_cond_true, am_beq_true, am_beq_false, am_imp_self, am_imp_imp, am_not_imp, am_and_imp, am_and_imp', am_imp_and, am_mem_one, am_mem_cons, am_mem_nil, am_nat_add, Int.toNat_natCast, Nat.le_refl, Nat.reduceAdd, Nat.reduceLeDiff, Nat.reduceMul, Nat.reduceSub, Nat.reduceEqDiff, hc0]))
      repeat (first | refine CWp.seq ?_ | refine CWp.block ?_ | (refine CWp.ret ?_; try simp only [go_sem, Nat.reduceAdd, Nat.reduceLeDiff, Nat.reduceMul, Nat.reduceSub, Nat.reduceEqDiff]) | (refine CWp.skip ?_; try simp only [go_sem, Nat.reduceAdd, Nat.reduceLeDiff, Nat.reduceMul, Nat.reduceSub, Nat.reduceEqDiff]) | (refine CWp.reg tt_ok ?_; simp only [go_sem, Nat.reduceAdd, Nat.reduceLeDiff, Nat.reduceMul, Nat.reduceSub, Nat.reduceEqDiff]))
      refine Fin.ret3 (.inl rfl) rfl rfl rfl rfl rfl (Mem.sub.refl _) ⟨?_, rfl⟩
      have h1 : ¬ te = s.length := by omega
      simp only [quoM, hte, decide_eq_false h1, decide_eq_true h34, Bool.not_true, Bool.or_false, cond_false]
      congr 1
      simp only [tup3]
      congr 3
      congr 1
      omega
  · rw [if_neg hlt]
    have hel : te = s.length := by omega
    refine CWp.seq ?_
    refine CWp.seq ?_
    refine CWp.dreg mixed tt_ok dr24_1 ?_
    repeat (first | with_reducible refine And.intro (by first | exact True.intro | assumption | omega | (intros; omega) | (intro hg; simp only [Bool.and_eq_true, Bool.or_eq_true, decide_eq_true_eq, Bool.not_eq_true', decide_eq_false_iff_not] at hg; omega) | (simp only [decide_eq_true_eq, Bool.and_eq_true, Bool.or_eq_true, Bool.not_eq_true', decide_eq_false_iff_not]; omega) | (intros; simp_all; done) | (intros; simp_all; omega)) ?_ | (with_reducible refine evalD_step ?_; simp only [qval, factOf, pev, St.get, St.put, rd, lp, gval, icmp, scmp, bcmp, arith, quorem, nlB, isNil, bound, fillA, rdL, pickT, pickL, extL, TV.ext, TV.sc, AV.cells, am_one_bool, am_one_int, am_one_str, am_one_nilp, am_one_ptr, am_one_eptr, am_one_sl, am_one_map, am_one_nilmap, am_one_fn, am_one_nilfn, am_one_iface, am_one_niliface, am_one_raw, am_one_agg, am_one_tup, am_one_junk, InR, findS, List.getElem?_cons_succ, List.getElem?_cons_zero, Option.getD_some, Option.getD_none, List.set_cons_succ, List.set_cons_zero, List.map_cons, List.map_nil, List.length_cons, List.length_nil, List.take_succ_cons, List.take_zero, List.drop_succ_cons, List.drop_zero, List.getElem?_nil, and_true, true_and, implies_true, forall_const, Bool.true_and, Bool.and_true, Bool.true_eq_false, Bool.false_eq_true, Option.map_some, Option.map_none, cond_true, cond_false, Bool.not_true, Bool.not_false, if_true, if_false, ite_true, ite_false, decide_true, decide_false, am_cond_false, am_cond_true, am_beq_true, am_beq_false, am_imp_self, am_imp_imp, am_not_imp, am_and_imp, am_and_imp', am_imp_and, am_mem_one, am_mem_cons, am_mem_nil, am_nat_add, Int.toNat_natCast, Nat.le_refl, Nat.reduceAdd, Nat.reduceLeDiff, Nat.reduceMul, Nat.reduceSub, Nat.reduceEqDiff, hc0]))
    simp only [go_sem, Nat.reduceAdd, Nat.reduceLeDiff, Nat.reduceMul, Nat.reduceSub, Nat.reduceEqDiff]
    refine CWp.cond rfl (fun _ => ?_) (fun h => by cases h)
    refine CWp.seq ?_
    refine CWp.dreg mixed tt_ok dr24_2 ?_
    repeat (first | with_reducible refine And.intro (by first | exact True.intro | assumption | omega | (intros; omega) | (intro hg; simp only [Bool.and_eq_true, Bool.or_eq_true, decide_eq_true_eq, Bool.not_eq_true', decide_eq_false_iff_not] at hg; omega) | (simp only [decide_eq_true_eq, Bool.and_eq_true, Bool.or_eq_true, Bool.not_eq_true', decide_eq_false_iff_not]; omega) | (intros; simp_all; done) | (intros; simp_all; omega)) ?_ | (with_reducible refine evalD_step ?_; simp only [qval, factOf, pev, St.get, St.put, rd, lp, gval, icmp, scmp, bcmp, arith, quorem, nlB, isNil, bound, fillA, rdL, pickT, pickL, extL, TV.ext, TV.sc, AV.cells, am_one_bool, am_one_int, am_one_str, am_one_nilp, am_one_ptr, am_one_eptr, am_one_sl, am_one_map, am_one_nilmap, am_one_fn, am_one_nilfn, am_one_iface, am_one_niliface, am_one_raw, am_one_agg, am_one_tup, am_one_junk, InR, findS, List.getElem?_cons_succ, List.getElem?_cons_zero, Option.getD_some, Option.getD_none, List.set_cons_succ, List.set_cons_zero, List.map_cons, List.map_nil, List.length_cons, List.length_nil, List.take_succ_cons, List.take_zero, List.drop_succ_cons, List.drop_zero, List.getElem?_nil, and_true, true_and, implies_true, forall_const, Bool.true_and, Bool.and_true, Bool.true_eq_false, Bool.false_eq_true, Option.map_some, Option.map_none, cond_true, cond_false, Bool.not_true, Bool.not_false, if_true, if_false, ite_true, ite_false, decide_true, decide_false, am_cond_false, am_cond_true, am_beq_true, am_beq_false, am_imp_self, am_imp_imp, am_not_imp, am_and_imp, am_and_imp', am_imp_and, am_mem_one, am_mem_cons, am_mem_nil, am_nat_add, Int.toNat_natCast, Nat.le_refl, Nat.reduceAdd, Nat.reduceLeDiff, Nat.reduceMul, Nat.reduceSub, Nat.reduceEqDiff, hc0]))
    repeat (first | refine CWp.seq ?_ | refine CWp.block ?_ | (refine CWp.ret ?_; try simp only [go_sem, Nat.reduceAdd, Nat.reduceLeDiff, Nat.reduceMul, Nat.reduceSub, Nat.reduceEqDiff]) | (refine CWp.skip ?_; try simp only [go_sem, Nat.reduceAdd, Nat.reduceLeDiff, Nat.reduceMul, Nat.reduceSub, Nat.reduceEqDiff]) | (refine CWp.reg tt_ok ?_; simp only [go_sem, Nat.reduceAdd, Nat.reduceLeDiff, Nat.reduceMul, Nat.reduceSub, Nat.reduceEqDiff]))
    refine Fin.ret3 (.inl rfl) rfl rfl rfl rfl rfl (Mem.sub.refl _) ⟨?_, rfl⟩
    simp only [quoM, hte, decide_eq_true hel, Bool.true_or, cond_true]; rfl

/-! Skipping. -/
theorem prefix_dash (s : List UInt8) (i : Nat) : Lib.hasPrefix (s.drop i) [45, 45] = dashB s i := by
  have h := occ_dash s i
  unfold Lib.occAt at h
  show ([45, 45] : List UInt8).isPrefixOf (s.drop i) = _
  rw [h]
  unfold dashB
  by_cases hl : i + 1 < s.length
  · have a := byteI_eq s i (by omega) 45
    have b := byteI_eq s (i + 1) hl 45
    have a' : byteI s i = 45 ↔ s[i]? = some 45 := a
    have b' : byteI s (i + 1) = 45 ↔ s[i + 1]? = some 45 := b
    rw [decide_eq_true hl, Bool.true_and, ← Bool.decide_and]
    exact decide_eq_decide.2 (by rw [a', b'])
  · rw [decide_eq_false hl, Bool.false_and, Bool.false_and]
    refine decide_eq_false ?_
    rintro ⟨_, h2⟩
    exact hl (List.getElem?_eq_some_iff.1 h2).1

theorem line_index (s : List UInt8) : ∀ (n i : Nat), s.length - i < n → i ≤ s.length → Lib.indexByte (s.drop i) 10 = if lineEnd s n i < s.length then (lineEnd s n i : Int) - (i : Int) else -1
  | 0, i, h, _ => by omega
  | n + 1, i, h, hl => by
    by_cases hi : i < s.length
    · rw [List.drop_eq_getElem_cons hi]
      unfold Lib.indexByte
      have hq : lineB s i = !(s[i] == 10) := by
        unfold lineB
        rw [byteI_at s i hi, decide_eq_true hi]
        have e2 := eqI s[i] 10
        have e2' : decide ((s[i].toNat : Int) = 10) = (s[i] == 10) := e2
        rw [e2', Bool.true_and]
      simp only [lineEnd, hq]
      cases hc : (s[i] == 10) with
      | true => simp [hi]
      | false =>
        have ih := line_index s n (i + 1) (by omega) (by omega)
        have hle := lineEnd_le s n (i + 1) (by omega)
        simp only [Bool.not_false, cond_true, ih, Bool.false_eq_true, if_false]
        by_cases hlt : lineEnd s n (i + 1) < s.length
        · have : ¬ ((lineEnd s n (i + 1) : Int) - ((i + 1 : Nat) : Int) == -1) = true := by
            rw [beq_iff_eq]; omega
          simp only [if_pos hlt, if_neg this]
          omega
        · simp only [if_neg hlt]; rfl
    · have : i = s.length := by omega
      subst this
      have hle := lineEnd_le s (n + 1) s.length (Nat.le_refl _)
      have : lineEnd s (n + 1) s.length = s.length := by omega
      rw [this]
      simp [Lib.indexByte]

theorem cut_line (s : List UInt8) (i : Nat) (hi : i ≤ s.length) : i + (Lib.cut (s.drop i) [10]).1.length = lineEnd s (s.length + 1) i := by
  have h := line_index s (s.length + 1) i (by omega) hi
  have hle := lineEnd_le s (s.length + 1) i hi
  unfold Lib.cut
  rw [Lib.index_one, h]
  by_cases hlt : lineEnd s (s.length + 1) i < s.length
  · rw [if_pos hlt, if_pos (by omega)]
    simp only [List.length_take, List.length_drop]
    omega
  · rw [if_neg hlt, if_neg (by omega)]
    simp only [List.length_drop]
    omega

/-- The memory with the scanner at another offset. -/
def atM (M : Mem) (r km gv sm : Nat) (s : List UInt8) (i : Nat) : Mem := M.set (.b r) (.cells [.str s, .int .i64 (i : Int), .map km, .map gv, .map sm])
theorem atM_same (i : Nat) : (atM M r km gv sm s i) (.b r) = some (.cells [.str s, .int .i64 (i : Int), .map km, .map gv, .map sm]) := Mem.set_same _ _ _
theorem atM_set (i : Nat) (o : AObj) : (atM M r km gv sm s i).set (.b r) o = M.set (.b r) o := Mem.set_set _ _ _ _

theorem skipP_loop (hlen : s.length ≤ 1000000) (Q : AExit → St → Prop) : ∀ (n i : Nat), s.length - i < n → i ≤ s.length →
    (∀ t, Q .ret { tmps := t, loc := [], rows := [], defs := [], M := atM M r km gv sm s (skipM s n i) }) →
    (∀ t, Q (.exit 0) { tmps := t, loc := [], rows := [], defs := [], M := atM M r km gv sm s (skipM s n i) }) →
    CLoop none Tryd.prog tt esc25 cc25_l0 Q { tmps := lp25_0 (.v (.ptr r 0)), loc := [], rows := [], defs := [], M := atM M r km gv sm s i } := by
  intro n
  induction n with
  | zero => intro i h0; omega
  | succ n ih =>
    intro i h0 h1 hQ1 hQ2
    have hc0 := atM_same (M := M) (r := r) (km := km) (gv := gv) (sm := sm) (s := s) i
    have hset := fun o => atM_set (M := M) (r := r) (km := km) (gv := gv) (sm := sm) (s := s) i o
    refine CLoop.unroll ?_
    generalize hK : CLoop none Tryd.prog tt esc25 cc25_l0 Q = K
    simp only [cc25_l0, lp25_0]
    refine CWp.seq ?_
    refine CWp.seq ?_
    refine CWp.dreg mixed tt_ok dr25_0 ?_
    repeat (first | with_reducible refine And.intro (by first | exact True.intro | assumption | omega | (intros; omega) | (intro hg; simp only [Bool.and_eq_true, Bool.or_eq_true, decide_eq_true_eq, Bool.not_eq_true', decide_eq_false_iff_not] at hg; omega) | (simp only [decide_eq_true_eq, Bool.and_eq_true, Bool.or_eq_true, Bool.not_eq_true', decide_eq_false_iff_not]; omega) | (intros; simp_all; done) | (intros; simp_all; omega)) ?_ | (with_reducible refine evalD_step ?_; simp only [qval, factOf, pev, St.get, St.put, rd, lp, gval, icmp, scmp, bcmp, arith, quorem, nlB, isNil, bound, fillA, rdL, pickT, pickL, extL, TV.ext, TV.sc, AV.cells, am_one_bool, am_one_int, am_one_str, am_one_nilp, am_one_ptr, am_one_eptr, am_one_sl, am_one_map, am_one_nilmap, am_one_fn, am_one_nilfn, am_one_iface, am_one_niliface, am_one_raw, am_one_agg, am_one_tup, am_one_junk, InR, findS, List.getElem?_cons_succ, List.getElem?_cons_zero, Option.getD_some, Option.getD_none, List.set_cons_succ, List.set_cons_zero, List.map_cons, List.map_nil, List.length_cons, List.length_nil, List.take_succ_cons, List.take_zero, List.drop_succ_cons, List.drop_zero, List.getElem?_nil, and_true, true_and, implies_true, forall_const, Bool.true_and, Bool.and_true, Bool.true_eq_false, Bool.false_eq_true, Option.map_some, Option.map_none, cond_true, cond_false, Bool.not_true, Bool.not_false, if_true, if_false, ite_true, ite_false, decide_true, decide_false, am_cond_false, am_cond_true, am_beq_true, am_beq_false, am_imp_self, am_imp_imp, am_not_imp, am_and_imp, am_and_imp', am_imp_and, am_mem_one, am_mem_cons, am_mem_nil, am_nat_add, Int.toNat_natCast, Nat.le_refl, Nat.reduceAdd, Nat.reduceLeDiff, Nat.reduceMul, Nat.reduceSub, Nat.reduceEqDiff, hc0]))
    simp only [go_sem, Nat.reduceAdd, Nat.reduceLeDiff, Nat.reduceMul, Nat.reduceSub, Nat.reduceEqDiff]
    refine CWp.cond rfl ?_ ?_ <;> intro hc
    · have hi : i < s.length := by simpa using hc
      simp only [skipM, decide_eq_true hi, cond_true] at hQ1 hQ2
      refine CWp.skip ?_
      simp only [go_sem, Nat.reduceAdd, Nat.reduceLeDiff, Nat.reduceMul, Nat.reduceSub, Nat.reduceEqDiff]
      refine CWp.block ?_
      refine CWp.seq ?_
      refine CWp.dreg mixed tt_ok dr25_1 ?_
      repeat (first | with_reducible refine And.intro (by first | exact True.intro | assumption | omega | (intros; omega) | (intro hg; simp only [Bool.and_eq_true, Bool.or_eq_true, decide_eq_true_eq, Bool.not_eq_true', decide_eq_false_iff_not] at hg; omega) | (simp only [decide_eq_true_eq, Bool.and_eq_true, Bool.or_eq_true, Bool.not_eq_true', decide_eq_false_iff_not]; omega) | (intros; simp_all; done) | (intros; simp_all; omega)) ?_ | (with_reducible refine evalD_step ?_; simp only [qval, factOf, pev, St.get, St.put, rd, lp, gval, icmp, scmp, bcmp, arith, quorem, nlB, isNil, bound, fillA, rdL, pickT, pickL, extL, TV.ext, TV.sc, AV.cells, am_one_bool, am_one_int, am_one_str, am_one_nilp, am_one_ptr, am_one_eptr, am_one_sl, am_one_map, am_one_nilmap, am_one_fn, am_one_nilfn, am_one_iface, am_one_niliface, am_one_raw, am_one_agg, am_one_tup, am_one_junk, InR, findS, List.getElem?_cons_succ, List.getElem?_cons_zero, Option.getD_some, Option.getD_none, List.set_cons_succ, List.set_cons_zero, List.map_cons, List.map_nil, List.length_cons, List.length_nil, List.take_succ_cons, List.take_zero, List.drop_succ_cons, List.drop_zero, List.getElem?_nil, and_true, true_and, implies_true, forall_const, Bool.true_and, Bool.and_true, Bool.true_eq_false, Bool.false_eq_true, Option.map_some, Option.map_none, cond_true, cond_false, Bool.not_true, Bool.not_false, if_true, if_false, ite_true, ite_false, decide_true, decide_false, am_cond_false, am_cond_true, am_beq_true, am_beq_false, am_imp_self, am_imp_imp, am_not_imp, am_and_imp, am_and_imp', am_imp_and, am_mem_one, am_mem_cons, am_mem_nil, am_nat_add, Int.toNat_natCast, Nat.le_refl, Nat.reduceAdd, Nat.reduceLeDiff, Nat.reduceMul, Nat.reduceSub, Nat.reduceEqDiff, hc0]))
      have e2 : ((s.length : Int)).toNat = s.length := by omega
      simp only [e2, List.take_length]
      simp only [go_sem, Nat.reduceAdd, Nat.reduceLeDiff, Nat.reduceMul, Nat.reduceSub, Nat.reduceEqDiff]
      refine CWp.block ?_
      refine CWp.seq ?_
      refine CWp.reg tt_ok ?_
      have hg : (s.drop i).getD (0 : Int).toNat 0 = s[i] := by
        show (s.drop i).getD 0 0 = _
        simp [List.getD, List.getElem?_eq_getElem hi]
      have hu : s[i].toNat < 256 := s[i].toNat_lt
      simp only [go_sem, Nat.reduceAdd, Nat.reduceLeDiff, Nat.reduceMul, Nat.reduceSub, Nat.reduceEqDiff, hg]
      have hd : (s.drop i).length = s.length - i := by simp
      simp only [hd]
      repeat (with_reducible refine And.intro (by first | exact True.intro | assumption | omega | (intros; omega) | (intro hg; simp only [Bool.and_eq_true, Bool.or_eq_true, decide_eq_true_eq, Bool.not_eq_true', decide_eq_false_iff_not] at hg; omega) | (simp only [decide_eq_true_eq, Bool.and_eq_true, Bool.or_eq_true, Bool.not_eq_true', decide_eq_false_iff_not]; omega) | (intros; simp_all; done) | (intros; simp_all; omega)) ?_)
      refine COps.pure has38 rfl rfl (by simp) (fun _ => containsRune_spec _) (evalC_sound tt_ok _ _ ?_)
      simp only [go_sem, Nat.reduceAdd, Nat.reduceLeDiff, Nat.reduceMul, Nat.reduceSub, Nat.reduceEqDiff]
      have hb : ((s[i].toNat : Nat) : Int) = byteI s i := (byteI_at s i hi).symm
      simp only [hb]
      refine CWp.cond rfl ?_ ?_ <;> intro hc2
      · simp only [hc2, cond_true] at hQ1 hQ2
        refine CWp.reg tt_ok ?_
        simp only [go_sem, Nat.reduceAdd, Nat.reduceLeDiff, Nat.reduceMul, Nat.reduceSub, Nat.reduceEqDiff, hc0, hset]
        repeat (with_reducible refine And.intro (by first | exact True.intro | assumption | omega | (intros; omega) | (intro hg; simp only [Bool.and_eq_true, Bool.or_eq_true, decide_eq_true_eq, Bool.not_eq_true', decide_eq_false_iff_not] at hg; omega) | (simp only [decide_eq_true_eq, Bool.and_eq_true, Bool.or_eq_true, Bool.not_eq_true', decide_eq_false_iff_not]; omega) | (intros; simp_all; done) | (intros; simp_all; omega)) ?_)
        rw [← hK]
        have e3 : ((i : Int) + 1) = ((i + 1 : Nat) : Int) := by omega
        rw [e3]
        exact CLoop.junk (t := lp25_0 (.v (.ptr r 0))) (ih (i + 1) (by omega) (by omega) hQ1 hQ2) (by simp [Junked, lp25_0])
      · simp only [hc2, cond_false] at hQ1 hQ2
        refine CWp.seq ?_
        refine CWp.reg tt_ok ?_
        simp only [go_sem, Nat.reduceAdd, Nat.reduceLeDiff, Nat.reduceMul, Nat.reduceSub, Nat.reduceEqDiff]
        refine COps.pure has39' rfl rfl (by simp) (fun _ => hasPrefix_spec _) (evalC_sound tt_ok _ _ ?_)
        simp only [go_sem, Nat.reduceAdd, Nat.reduceLeDiff, Nat.reduceMul, Nat.reduceSub, Nat.reduceEqDiff]
        rw [prefix_dash]
        refine CWp.cond rfl ?_ ?_ <;> intro hc3
        · simp only [hc3, cond_true] at hQ1 hQ2
          have hlt := lineEnd_dash s i hc3
          have hle := lineEnd_le s (s.length + 1) i h1
          have hcut := cut_line s i h1
          refine CWp.seq ?_
          refine CWp.reg tt_ok ?_
          simp only [go_sem, Nat.reduceAdd, Nat.reduceLeDiff, Nat.reduceMul, Nat.reduceSub, Nat.reduceEqDiff]
          refine COps.pure has40' rfl rfl (by simp) (fun _ => cut_spec _ (by simp; omega)) (evalC_sound tt_ok _ _ ?_)
          simp only [go_sem, Nat.reduceAdd, Nat.reduceLeDiff, Nat.reduceMul, Nat.reduceSub, Nat.reduceEqDiff]
          refine CWp.reg tt_ok ?_
          simp only [go_sem, Nat.reduceAdd, Nat.reduceLeDiff, Nat.reduceMul, Nat.reduceSub, Nat.reduceEqDiff, hc0, hset]
          repeat (with_reducible refine And.intro (by first | exact True.intro | assumption | omega | (intros; omega) | (intro hg; simp only [Bool.and_eq_true, Bool.or_eq_true, decide_eq_true_eq, Bool.not_eq_true', decide_eq_false_iff_not] at hg; omega) | (simp only [decide_eq_true_eq, Bool.and_eq_true, Bool.or_eq_true, Bool.not_eq_true', decide_eq_false_iff_not]; omega) | (intros; simp_all; done) | (intros; simp_all; omega)) ?_)
          rw [← hK]
          have e3 : ((i : Int) + ((Lib.cut (s.drop i) [10]).1.length : Int)) = ((lineEnd s (s.length + 1) i : Nat) : Int) := by omega
          rw [e3]
          exact CLoop.junk (t := lp25_0 (.v (.ptr r 0))) (ih _ (by omega) (by omega) hQ1 hQ2) (by simp [Junked, lp25_0])
        · simp only [hc3, cond_false] at hQ1 hQ2
          repeat (first | refine CWp.seq ?_ | refine CWp.block ?_ | (refine CWp.ret ?_; try simp only [go_sem, Nat.reduceAdd, Nat.reduceLeDiff, Nat.reduceMul, Nat.reduceSub, Nat.reduceEqDiff]) | (refine CWp.skip ?_; try simp only [go_sem, Nat.reduceAdd, Nat.reduceLeDiff, Nat.reduceMul, Nat.reduceSub, Nat.reduceEqDiff]) | (refine CWp.reg tt_ok ?_; simp only [go_sem, Nat.reduceAdd, Nat.reduceLeDiff, Nat.reduceMul, Nat.reduceSub, Nat.reduceEqDiff]))
          exact hQ1 _
    · have hge : ¬ i < s.length := by simpa using hc
      simp only [skipM, decide_eq_false hge, cond_false] at hQ2
      exact CWp.exit (hQ2 _)

theorem skipP_spec (h : SC M r km gv sm s at_ sy) (hat : at_ ≤ s.length) (hlen : s.length ≤ 1000000) : ACalls Tryd.prog 25 [.ptr r 0] M fun e M' => e = .ret (.tup []) ∧ M' = atM M r km gv sm s (skipM s (s.length + 1) at_) := by
  have hM : M = atM M r km gv sm s at_ := (Mem.set_self _ _ _ h.cell).symm
  refine enter25 _ ?_
  simp only [cc25]
  refine CWp.block ?_
  have key := skipP_loop (M := M) (r := r) (km := km) (gv := gv) (sm := sm) (s := s) hlen (blockA 0 (Am.Fin Tryd.prog Tryd.f25 fun e M' => e = .ret (.tup []) ∧ M' = atM M r km gv sm s (skipM s (s.length + 1) at_))) (s.length + 1) at_ (by omega) hat ?_ ?_
  · rw [← hM] at key
    exact CWp.loop (CLoop.junk (t := lp25_0 (.v (.ptr r 0))) key (by simp [Junked, lp25_0]))
  · intro t
    simp only [go_sem, Nat.reduceAdd, Nat.reduceLeDiff, Nat.reduceMul, Nat.reduceSub, Nat.reduceEqDiff]
    exact Fin.ret0 (.inl rfl) rfl rfl (Mem.sub.refl _) ⟨rfl, rfl⟩
  · intro t
    simp only [go_sem, Nat.reduceAdd, Nat.reduceLeDiff, Nat.reduceMul, Nat.reduceSub, Nat.reduceEqDiff]
    exact Fin.ret0 (.inr rfl) rfl rfl (Mem.sub.refl _) ⟨rfl, rfl⟩
end
end Go.Proofs.LxA
set_option linter.unusedVariables false
set_option linter.unusedSimpArgs false
set_option maxRecDepth 100000
namespace Go.Proofs.LxA
open Go Go.Am Go.Proofs Go.RowKit
set_option linter.unusedSectionVars false

/-- What `Scan` has laid in memory. -/
structure SI (M M' : Mem) (r km gv sm : Nat) (s : List UInt8) (i : Nat) (G S : List (List UInt8)) : Prop where
  cell : M' (.b r) = some (.cells [.str s, .int .i64 (i : Int), .map km, .map gv, .map sm])
  kw : M' (.b km) = some (.map (addT [] kwL))
  gvn : M' (.b gv) = some (.map (addT [] G))
  smn : M' (.b sm) = some (.map (addT [] S))
  sub : M.sub M'
  n1 : gv ≠ sm
  n2 : km ≠ gv
  n3 : km ≠ sm
  fr : M (.b r) = none
  fg : M (.b gv) = none
  fs : M (.b sm) = none

section
variable {M M' : Mem} {r km gv sm : Nat} {s : List UInt8} {i : Nat} {G S : List (List UInt8)}
theorem SI.rg (h : SI M M' r km gv sm s i G S) : r ≠ gv := fun e => by have := h.cell; rw [e, h.gvn] at this; cases this
theorem SI.rs (h : SI M M' r km gv sm s i G S) : r ≠ sm := fun e => by have := h.cell; rw [e, h.smn] at this; cases this
theorem SI.rk (h : SI M M' r km gv sm s i G S) : r ≠ km := fun e => by have := h.cell; rw [e, h.kw] at this; cases this
theorem SI.setG (h : SI M M' r km gv sm s i G S) (x : List UInt8) : SI M (M'.set (.b gv) (.map (setS (addT [] G) x (.bool true)))) r km gv sm s i (G ++ [x]) S where
  cell := by rw [Mem.set_b h.rg]; exact h.cell
  kw := by rw [Mem.set_b h.n2]; exact h.kw
  gvn := by rw [Mem.set_same, addT_snoc]
  smn := by rw [Mem.set_b (Ne.symm h.n1)]; exact h.smn
  sub := h.sub.set_new h.fg
  n1 := h.n1
  n2 := h.n2
  n3 := h.n3
  fr := h.fr
  fg := h.fg
  fs := h.fs
theorem SI.setS (h : SI M M' r km gv sm s i G S) (x : List UInt8) : SI M (M'.set (.b sm) (.map (setS (addT [] S) x (.bool true)))) r km gv sm s i G (S ++ [x]) where
  cell := by rw [Mem.set_b h.rs]; exact h.cell
  kw := by rw [Mem.set_b h.n3]; exact h.kw
  gvn := by rw [Mem.set_b h.n1]; exact h.gvn
  smn := by rw [Mem.set_same, addT_snoc]
  sub := h.sub.set_new h.fs
  n1 := h.n1
  n2 := h.n2
  n3 := h.n3
  fr := h.fr
  fg := h.fg
  fs := h.fs
theorem SI.at_ (h : SI M M' r km gv sm s i G S) (j : Nat) : SI M (atM M' r km gv sm s j) r km gv sm s j G S where
  cell := atM_same j
  kw := by unfold atM; rw [Mem.set_b (Ne.symm h.rk)]; exact h.kw
  gvn := by unfold atM; rw [Mem.set_b (Ne.symm h.rg)]; exact h.gvn
  smn := by unfold atM; rw [Mem.set_b (Ne.symm h.rs)]; exact h.smn
  sub := h.sub.set_new h.fr
  n1 := h.n1
  n2 := h.n2
  n3 := h.n3
  fr := h.fr
  fg := h.fg
  fs := h.fs
end

section
variable {M : Mem} {r km gv sm : Nat} {s : List UInt8}
theorem given_loop (own : Own) (sy : List (List UInt8)) (hx : ∀ x ∈ sy, x.length ≤ 1000000) (hlen : sy.length ≤ 1000000) (Q : AExit → St → Prop) : ∀ (n i : Nat) (M' : Mem), sy.length - i < n → i ≤ sy.length → SI M M' r km gv sm s 0 (sy.take i) [] →
    ((sy.drop i).any (fun x => !symM x) = true → ∀ t M'', M.sub M'' → t[4]? = some (.v (.sl .full 3 [])) → t[5]? = some (.v (.int .i64 0)) → t[6]? = some (.v (.int .i64 1)) → Q .ret { tmps := t, loc := [], rows := [], defs := [], M := M'' }) →
    ((sy.drop i).any (fun x => !symM x) = false → ∀ M'', SI M M'' r km gv sm s 0 sy [] → Q (.exit 0) { tmps := lp12_0 (.v (.str s)) (.v (.sl own 1 (strs sy))) (.v (.ptr r 0)) (.v (.sl own 1 (strs sy))) (.v (.int .i64 (sy.length : Int))) (.v (.int .i64 (sy.length : Int))), loc := [], rows := [], defs := [], M := M'' }) →
    CLoop none Tryd.prog tt esc12 cc12_l0 Q { tmps := lp12_0 (.v (.str s)) (.v (.sl own 1 (strs sy))) (.v (.ptr r 0)) (.v (.sl own 1 (strs sy))) (.v (.int .i64 (sy.length : Int))) (.v (.int .i64 (i : Int))), loc := [], rows := [], defs := [], M := M' } := by
  intro n
  induction n with
  | zero => intro i M' h0; omega
  | succ n ih =>
    intro i M' h0 h1 hI hQ1 hQ2
    have hc0 := hI.cell
    have hc1 := hI.gvn
    refine CLoop.unroll ?_
    generalize hK : CLoop none Tryd.prog tt esc12 cc12_l0 Q = K
    simp only [cc12_l0, lp12_0]
    refine CWp.seq ?_
    refine CWp.reg tt_ok ?_
    simp only [go_sem, Nat.reduceAdd, Nat.reduceLeDiff, Nat.reduceMul, Nat.reduceSub, Nat.reduceEqDiff]
    refine CWp.seq ?_
    refine CWp.cond rfl ?_ ?_ <;> intro hc
    · have hi : i < sy.length := by simpa using hc
      have hxi := hx sy[i] (List.getElem_mem hi)
      have hxx := strs_at sy i sy[i] (List.getElem?_eq_getElem hi)
      rw [List.drop_eq_getElem_cons hi] at hQ1 hQ2
      simp only [List.any_cons] at hQ1 hQ2
      refine CWp.skip ?_
      simp only [go_sem, Nat.reduceAdd, Nat.reduceLeDiff, Nat.reduceMul, Nat.reduceSub, Nat.reduceEqDiff]
      refine CWp.seq ?_
      refine CWp.block ?_
      refine CWp.seq ?_
      refine CWp.reg tt_ok ?_
      simp only [go_sem, Nat.reduceAdd, Nat.reduceLeDiff, Nat.reduceMul, Nat.reduceSub, Nat.reduceEqDiff, hxx, strs_len]
      repeat (with_reducible refine And.intro (by first | exact True.intro | assumption | omega | (intros; omega) | (intro hg; simp only [Bool.and_eq_true, Bool.or_eq_true, decide_eq_true_eq, Bool.not_eq_true', decide_eq_false_iff_not] at hg; omega) | (simp only [decide_eq_true_eq, Bool.and_eq_true, Bool.or_eq_true, Bool.not_eq_true', decide_eq_false_iff_not]; omega) | (intros; simp_all; done) | (intros; simp_all; omega)) ?_)
      refine CWp.seq ?_
      refine CWp.seq ?_
      refine CWp.reg tt_ok ?_
      simp only [go_sem, Nat.reduceAdd, Nat.reduceLeDiff, Nat.reduceMul, Nat.reduceSub, Nat.reduceEqDiff]
      refine COps.pure has17 rfl rfl (by simp) (fun _ => symbolP_spec sy[i] (by omega)) (evalC_sound tt_ok _ _ ?_)
      simp only [go_sem, Nat.reduceAdd, Nat.reduceLeDiff, Nat.reduceMul, Nat.reduceSub, Nat.reduceEqDiff]
      refine CWp.cond rfl ?_ ?_ <;> intro hc2
      · repeat (first | refine CWp.seq ?_ | refine CWp.block ?_ | (refine CWp.ret ?_; try simp only [go_sem, Nat.reduceAdd, Nat.reduceLeDiff, Nat.reduceMul, Nat.reduceSub, Nat.reduceEqDiff]) | (refine CWp.skip ?_; try simp only [go_sem, Nat.reduceAdd, Nat.reduceLeDiff, Nat.reduceMul, Nat.reduceSub, Nat.reduceEqDiff]) | (refine CWp.reg tt_ok ?_; simp only [go_sem, Nat.reduceAdd, Nat.reduceLeDiff, Nat.reduceMul, Nat.reduceSub, Nat.reduceEqDiff]))
        exact hQ1 (by rw [hc2]; rfl) _ _ hI.sub rfl rfl rfl
      · rw [hc2] at hQ1 hQ2
        simp only [Bool.false_or] at hQ1 hQ2
        refine CWp.skip ?_
        simp only [go_sem, Nat.reduceAdd, Nat.reduceLeDiff, Nat.reduceMul, Nat.reduceSub, Nat.reduceEqDiff]
        refine CWp.reg tt_ok ?_
        simp only [go_sem, Nat.reduceAdd, Nat.reduceLeDiff, Nat.reduceMul, Nat.reduceSub, Nat.reduceEqDiff, hc0, hc1]
        repeat (first | refine CWp.seq ?_ | refine CWp.block ?_ | (refine CWp.ret ?_; try simp only [go_sem, Nat.reduceAdd, Nat.reduceLeDiff, Nat.reduceMul, Nat.reduceSub, Nat.reduceEqDiff]) | (refine CWp.skip ?_; try simp only [go_sem, Nat.reduceAdd, Nat.reduceLeDiff, Nat.reduceMul, Nat.reduceSub, Nat.reduceEqDiff]) | (refine CWp.reg tt_ok ?_; simp only [go_sem, Nat.reduceAdd, Nat.reduceLeDiff, Nat.reduceMul, Nat.reduceSub, Nat.reduceEqDiff]))
        repeat (with_reducible refine And.intro (by first | exact True.intro | assumption | omega | (intros; omega) | (intro hg; simp only [Bool.and_eq_true, Bool.or_eq_true, decide_eq_true_eq, Bool.not_eq_true', decide_eq_false_iff_not] at hg; omega) | (simp only [decide_eq_true_eq, Bool.and_eq_true, Bool.or_eq_true, Bool.not_eq_true', decide_eq_false_iff_not]; omega) | (intros; simp_all; done) | (intros; simp_all; omega)) ?_)
        have hn := hI.setG sy[i]
        have htk : sy.take i ++ [sy[i]] = sy.take (i + 1) := by
          rw [List.take_add_one, List.getElem?_eq_getElem hi]; rfl
        rw [htk] at hn
        rw [← hK]
        exact CLoop.junk (t := lp12_0 (.v (.str s)) (.v (.sl own 1 (strs sy))) (.v (.ptr r 0)) (.v (.sl own 1 (strs sy))) (.v (.int .i64 (sy.length : Int))) (.v (.int .i64 ((i + 1 : Nat) : Int)))) (ih (i + 1) _ (by omega) (by omega) hn hQ1 hQ2) (by simp [Junked, lp12_0])
    · have hi : i = sy.length := by simp at hc; omega
      subst hi
      rw [List.take_length] at hI
      exact CWp.junk (t := lp12_0 (.v (.str s)) (.v (.sl own 1 (strs sy))) (.v (.ptr r 0)) (.v (.sl own 1 (strs sy))) (.v (.int .i64 (sy.length : Int))) (.v (.int .i64 (sy.length : Int)))) (CWp.exit (hQ2 (by simp) M' hI)) (by simp [Junked, lp12_0])

theorem symbols_loop (own : Own) (l : List (List UInt8)) (hlen : l.length ≤ 1000000) (x42 x43 x44 : TV) (G S : List (List UInt8)) (Q : AExit → St → Prop) : ∀ (n i : Nat) (M' : Mem), l.length - i < n → i ≤ l.length → SI M M' r km gv sm s 0 G (S ++ l.take i) →
    (∀ M'', SI M M'' r km gv sm s 0 G (S ++ l) → Q (.exit 4) { tmps := lp12_2 (.v (.str s)) (.v (.ptr r 0)) x42 x43 x44 (.v (.sl own 1 (strs l))) (.v (.int .i64 (l.length : Int))) (.v (.int .i64 (l.length : Int))), loc := [], rows := [], defs := [], M := M'' }) →
    CLoop none Tryd.prog tt esc12 cc12_l2 Q { tmps := lp12_2 (.v (.str s)) (.v (.ptr r 0)) x42 x43 x44 (.v (.sl own 1 (strs l))) (.v (.int .i64 (l.length : Int))) (.v (.int .i64 (i : Int))), loc := [], rows := [], defs := [], M := M' } := by
  intro n
  induction n with
  | zero => intro i M' h0; omega
  | succ n ih =>
    intro i M' h0 h1 hI hQ
    have hc0 := hI.cell
    have hc1 := hI.smn
    refine CLoop.unroll ?_
    generalize hK : CLoop none Tryd.prog tt esc12 cc12_l2 Q = K
    simp only [cc12_l2, lp12_2]
    refine CWp.seq ?_
    refine CWp.reg tt_ok ?_
    simp only [go_sem, Nat.reduceAdd, Nat.reduceLeDiff, Nat.reduceMul, Nat.reduceSub, Nat.reduceEqDiff]
    refine CWp.seq ?_
    refine CWp.cond rfl ?_ ?_ <;> intro hc
    · have hi : i < l.length := by simpa using hc
      have hxx := strs_at l i l[i] (List.getElem?_eq_getElem hi)
      refine CWp.skip ?_
      simp only [go_sem, Nat.reduceAdd, Nat.reduceLeDiff, Nat.reduceMul, Nat.reduceSub, Nat.reduceEqDiff]
      refine CWp.seq ?_
      refine CWp.block ?_
      refine CWp.seq ?_
      refine CWp.reg tt_ok ?_
      simp only [go_sem, Nat.reduceAdd, Nat.reduceLeDiff, Nat.reduceMul, Nat.reduceSub, Nat.reduceEqDiff, hxx, strs_len]
      repeat (with_reducible refine And.intro (by first | exact True.intro | assumption | omega | (intros; omega) | (intro hg; simp only [Bool.and_eq_true, Bool.or_eq_true, decide_eq_true_eq, Bool.not_eq_true', decide_eq_false_iff_not] at hg; omega) | (simp only [decide_eq_true_eq, Bool.and_eq_true, Bool.or_eq_true, Bool.not_eq_true', decide_eq_false_iff_not]; omega) | (intros; simp_all; done) | (intros; simp_all; omega)) ?_)
      refine CWp.reg tt_ok ?_
      simp only [go_sem, Nat.reduceAdd, Nat.reduceLeDiff, Nat.reduceMul, Nat.reduceSub, Nat.reduceEqDiff, hc0, hc1]
      repeat (first | refine CWp.seq ?_ | refine CWp.block ?_ | (refine CWp.ret ?_; try simp only [go_sem, Nat.reduceAdd, Nat.reduceLeDiff, Nat.reduceMul, Nat.reduceSub, Nat.reduceEqDiff]) | (refine CWp.skip ?_; try simp only [go_sem, Nat.reduceAdd, Nat.reduceLeDiff, Nat.reduceMul, Nat.reduceSub, Nat.reduceEqDiff]) | (refine CWp.reg tt_ok ?_; simp only [go_sem, Nat.reduceAdd, Nat.reduceLeDiff, Nat.reduceMul, Nat.reduceSub, Nat.reduceEqDiff]))
      repeat (with_reducible refine And.intro (by first | exact True.intro | assumption | omega | (intros; omega) | (intro hg; simp only [Bool.and_eq_true, Bool.or_eq_true, decide_eq_true_eq, Bool.not_eq_true', decide_eq_false_iff_not] at hg; omega) | (simp only [decide_eq_true_eq, Bool.and_eq_true, Bool.or_eq_true, Bool.not_eq_true', decide_eq_false_iff_not]; omega) | (intros; simp_all; done) | (intros; simp_all; omega)) ?_)
      have hn := hI.setS l[i]
      have htk : (S ++ l.take i) ++ [l[i]] = S ++ l.take (i + 1) := by
        rw [List.take_add_one, List.getElem?_eq_getElem hi, List.append_assoc]; rfl
      rw [htk] at hn
      rw [← hK]
      exact CLoop.junk (t := lp12_2 (.v (.str s)) (.v (.ptr r 0)) x42 x43 x44 (.v (.sl own 1 (strs l))) (.v (.int .i64 (l.length : Int))) (.v (.int .i64 ((i + 1 : Nat) : Int)))) (ih (i + 1) _ (by omega) (by omega) hn hQ) (by simp [Junked, lp12_2])
    · have hi : i = l.length := by simp at hc; omega
      subst hi
      rw [List.take_length] at hI
      exact CWp.junk (t := lp12_2 (.v (.str s)) (.v (.ptr r 0)) x42 x43 x44 (.v (.sl own 1 (strs l))) (.v (.int .i64 (l.length : Int))) (.v (.int .i64 (l.length : Int)))) (CWp.exit (hQ M' hI)) (by simp [Junked, lp12_2])
end
end Go.Proofs.LxA
set_option linter.unusedVariables false
set_option linter.unusedSimpArgs false
set_option maxRecDepth 100000
namespace Go.Proofs.LxA
open Go Go.Am Go.Proofs Go.RowKit
set_option linter.unusedSectionVars false

theorem addT_app (a b : List (List UInt8)) : addT [] (a ++ b) = addT (addT [] a) b := by simp [addT]

section
variable {M : Mem} {r km gv sm : Nat} {s : List UInt8}
theorem both_loop (own : Own) (sy : List (List UInt8)) (hlen : sy.length ≤ 1000000) (M' : Mem) (Q : AExit → St → Prop) (hI : SI M M' r km gv sm s 0 sy [])
    (hQ : ∀ M'', SI M M'' r km gv sm s 0 sy (fixedL ++ sy) → Q (.exit 2) { tmps := lp12_3 (.v (.str s)) (.v (.ptr r 0)) .junk .junk, loc := [], rows := [], defs := [], M := M'' }) :
    CLoop none Tryd.prog tt esc12 cc12_l1 Q { tmps := lp12_1 (.v (.str s)) (.v (.ptr r 0)) (.v (.sl .full 1 [.sl .full 1 (strs fixedL), .sl own 1 (strs sy)])) (.v (.int .i64 2)) (.v (.int .i64 0)), loc := [], rows := [], defs := [], M := M' } := by
  refine CLoop.unroll ?_
  generalize hK : CLoop none Tryd.prog tt esc12 cc12_l1 Q = K
  simp only [cc12_l1, lp12_1]
  refine CWp.seq ?_
  refine CWp.reg tt_ok ?_
  simp only [go_sem, Nat.reduceAdd, Nat.reduceLeDiff, Nat.reduceMul, Nat.reduceSub, Nat.reduceEqDiff]
  refine CWp.seq ?_
  refine CWp.cond rfl (fun _ => ?_) (fun h => by cases h)
  refine CWp.skip ?_
  simp only [go_sem, Nat.reduceAdd, Nat.reduceLeDiff, Nat.reduceMul, Nat.reduceSub, Nat.reduceEqDiff]
  refine CWp.seq ?_
  refine CWp.block ?_
  refine CWp.seq ?_
  refine CWp.reg tt_ok ?_
  have z0 : Int.toNat 0 = 0 := rfl
  simp only [go_sem, Nat.reduceAdd, Nat.reduceLeDiff, Nat.reduceMul, Nat.reduceSub, Nat.reduceEqDiff, z0]
  repeat (with_reducible refine And.intro (by first | exact True.intro | assumption | omega | (intros; omega) | (intro hg; simp only [Bool.and_eq_true, Bool.or_eq_true, decide_eq_true_eq, Bool.not_eq_true', decide_eq_false_iff_not] at hg; omega) | (simp only [decide_eq_true_eq, Bool.and_eq_true, Bool.or_eq_true, Bool.not_eq_true', decide_eq_false_iff_not]; omega) | (intros; simp_all; done) | (intros; simp_all; omega)) ?_)
  refine CWp.seq ?_
  refine CWp.reg tt_ok ?_
  simp only [go_sem, Nat.reduceAdd, Nat.reduceLeDiff, Nat.reduceMul, Nat.reduceSub, Nat.reduceEqDiff, strs_len]
  refine CWp.block ?_
  refine CWp.loop (CLoop.junk (t := lp12_2 (.v (.str s)) (.v (.ptr r 0)) (.v (.sl .full 1 [.sl .full 1 (strs fixedL), .sl own 1 (strs sy)])) (.v (.int .i64 2)) (.v (.int .i64 0)) (.v (.sl .full 1 (strs fixedL))) (.v (.int .i64 (fixedL.length : Int))) (.v (.int .i64 ((0 : Nat) : Int)))) (symbols_loop .full fixedL (by decide) _ _ _ sy [] _ (fixedL.length + 1) 0 M' (by omega) (by omega) (by simpa using hI) ?_) (by simp [Junked, lp12_2]))
  intro M1 hI1
  simp only [lp12_2]
  simp only [go_sem, Nat.reduceAdd, Nat.reduceLeDiff, Nat.reduceMul, Nat.reduceSub, Nat.reduceEqDiff]
  refine CWp.reg tt_ok ?_
  simp only [go_sem, Nat.reduceAdd, Nat.reduceLeDiff, Nat.reduceMul, Nat.reduceSub, Nat.reduceEqDiff]
  repeat (with_reducible refine And.intro (by first | exact True.intro | assumption | omega | (intros; omega) | (intro hg; simp only [Bool.and_eq_true, Bool.or_eq_true, decide_eq_true_eq, Bool.not_eq_true', decide_eq_false_iff_not] at hg; omega) | (simp only [decide_eq_true_eq, Bool.and_eq_true, Bool.or_eq_true, Bool.not_eq_true', decide_eq_false_iff_not]; omega) | (intros; simp_all; done) | (intros; simp_all; omega)) ?_)
  rw [← hK]
  refine CLoop.junk (t := lp12_1 (.v (.str s)) (.v (.ptr r 0)) (.v (.sl .full 1 [.sl .full 1 (strs fixedL), .sl own 1 (strs sy)])) (.v (.int .i64 2)) (.v (.int .i64 1))) ?_ (by simp [Junked, lp12_1])
  clear hK
  refine CLoop.unroll ?_
  generalize hK : CLoop none Tryd.prog tt esc12 cc12_l1 Q = K
  simp only [cc12_l1, lp12_1]
  refine CWp.seq ?_
  refine CWp.reg tt_ok ?_
  simp only [go_sem, Nat.reduceAdd, Nat.reduceLeDiff, Nat.reduceMul, Nat.reduceSub, Nat.reduceEqDiff]
  refine CWp.seq ?_
  refine CWp.cond rfl (fun _ => ?_) (fun h => by cases h)
  refine CWp.skip ?_
  simp only [go_sem, Nat.reduceAdd, Nat.reduceLeDiff, Nat.reduceMul, Nat.reduceSub, Nat.reduceEqDiff]
  refine CWp.seq ?_
  refine CWp.block ?_
  refine CWp.seq ?_
  refine CWp.reg tt_ok ?_
  have z1 : Int.toNat 1 = 1 := rfl
  simp only [go_sem, Nat.reduceAdd, Nat.reduceLeDiff, Nat.reduceMul, Nat.reduceSub, Nat.reduceEqDiff, z1]
  repeat (with_reducible refine And.intro (by first | exact True.intro | assumption | omega | (intros; omega) | (intro hg; simp only [Bool.and_eq_true, Bool.or_eq_true, decide_eq_true_eq, Bool.not_eq_true', decide_eq_false_iff_not] at hg; omega) | (simp only [decide_eq_true_eq, Bool.and_eq_true, Bool.or_eq_true, Bool.not_eq_true', decide_eq_false_iff_not]; omega) | (intros; simp_all; done) | (intros; simp_all; omega)) ?_)
  refine CWp.seq ?_
  refine CWp.reg tt_ok ?_
  simp only [go_sem, Nat.reduceAdd, Nat.reduceLeDiff, Nat.reduceMul, Nat.reduceSub, Nat.reduceEqDiff, strs_len]
  refine CWp.block ?_
  refine CWp.loop (CLoop.junk (t := lp12_2 (.v (.str s)) (.v (.ptr r 0)) (.v (.sl .full 1 [.sl .full 1 (strs fixedL), .sl own 1 (strs sy)])) (.v (.int .i64 2)) (.v (.int .i64 1)) (.v (.sl own 1 (strs sy))) (.v (.int .i64 (sy.length : Int))) (.v (.int .i64 ((0 : Nat) : Int)))) (symbols_loop own sy hlen _ _ _ sy fixedL _ (sy.length + 1) 0 M1 (by omega) (by omega) (by simpa using hI1) ?_) (by simp [Junked, lp12_2]))
  intro M2 hI2
  simp only [lp12_2]
  simp only [go_sem, Nat.reduceAdd, Nat.reduceLeDiff, Nat.reduceMul, Nat.reduceSub, Nat.reduceEqDiff]
  refine CWp.reg tt_ok ?_
  simp only [go_sem, Nat.reduceAdd, Nat.reduceLeDiff, Nat.reduceMul, Nat.reduceSub, Nat.reduceEqDiff]
  repeat (with_reducible refine And.intro (by first | exact True.intro | assumption | omega | (intros; omega) | (intro hg; simp only [Bool.and_eq_true, Bool.or_eq_true, decide_eq_true_eq, Bool.not_eq_true', decide_eq_false_iff_not] at hg; omega) | (simp only [decide_eq_true_eq, Bool.and_eq_true, Bool.or_eq_true, Bool.not_eq_true', decide_eq_false_iff_not]; omega) | (intros; simp_all; done) | (intros; simp_all; omega)) ?_)
  rw [← hK]
  refine CLoop.junk (t := lp12_1 (.v (.str s)) (.v (.ptr r 0)) (.v (.sl .full 1 [.sl .full 1 (strs fixedL), .sl own 1 (strs sy)])) (.v (.int .i64 2)) (.v (.int .i64 2))) ?_ (by simp [Junked, lp12_1])
  clear hK
  refine CLoop.unroll ?_
  generalize hK : CLoop none Tryd.prog tt esc12 cc12_l1 Q = K
  simp only [cc12_l1, lp12_1]
  refine CWp.seq ?_
  refine CWp.reg tt_ok ?_
  simp only [go_sem, Nat.reduceAdd, Nat.reduceLeDiff, Nat.reduceMul, Nat.reduceSub, Nat.reduceEqDiff]
  refine CWp.seq ?_
  refine CWp.cond rfl (fun h => by cases h) (fun _ => ?_)
  exact CWp.junk (t := lp12_3 (.v (.str s)) (.v (.ptr r 0)) .junk .junk) (CWp.exit (hQ M2 hI2)) (by simp [Junked, lp12_3])
end

theorem oneM_word (s : List UInt8) (at_ : Nat) (sy : List (List UInt8)) (h : beginsB (byteI s at_) = true) : oneM s at_ sy = wordM s at_ sy := by
  simp only [oneM, wordM, h, cond_true]
theorem oneM_num (s : List UInt8) (at_ : Nat) (sy : List (List UInt8)) (h : beginsB (byteI s at_) = false) (h2 : digitB (byteI s at_) = true) : oneM s at_ sy = numM s at_ := by
  simp only [oneM, numM, h, h2, cond_true, cond_false]
theorem oneM_quo (s : List UInt8) (at_ : Nat) (sy : List (List UInt8)) (h : beginsB (byteI s at_) = false) (h2 : digitB (byteI s at_) = false) (h3 : decide (byteI s at_ = 34) = true) : oneM s at_ sy = quoM s at_ := by
  simp only [oneM, quoM, h, h2, h3, cond_true, cond_false]

theorem symM_short (x : List UInt8) (h : symM x = true) (hb : beginsB (byteI x 0) = false) : x.length ≤ 8 := by
  unfold symM at h
  cases h1 : decide (x = []) with
  | true => rw [h1] at h; cases h
  | false =>
    rw [h1, hb] at h
    simp only [cond_false] at h
    cases h2 : badFrom x (x.length + 1) 0 with
    | true => rw [h2] at h; cases h
    | false =>
      rw [h2] at h
      simp only [cond_false] at h
      cases h3 : (fixedL.any fun f => decide (f = x) && !decide (x = [43])) with
      | true => rw [h3] at h; cases h
      | false => rw [h3] at h; simpa using h
theorem symM_ne (x : List UInt8) (h : symM x = true) : x ≠ [] := by
  rintro rfl
  simp [symM] at h
theorem match_first (s : List UInt8) (at_ : Nat) (x : List UInt8) (hx : x ≠ []) (h : matchB s at_ x = true) : byteI s at_ = byteI x 0 := by
  unfold matchB at h
  simp only [Bool.and_eq_true, decide_eq_true_eq] at h
  obtain ⟨h1, h2⟩ := h
  cases x with
  | nil => exact absurd rfl hx
  | cons a x =>
    simp only [List.length_cons] at h1 h2
    have h3 : ((s.take (at_ + (x.length + 1))).drop at_)[0]? = some a := by rw [h2]; rfl
    rw [List.getElem?_drop, List.getElem?_take_of_lt (by omega)] at h3
    simp only [Nat.add_zero] at h3
    unfold byteI
    rw [List.getD_eq_getElem?_getD, h3]
    rfl
theorem len8 (s : List UInt8) (at_ : Nat) (sy : List (List UInt8)) (hb : beginsB (byteI s at_) = false) (hsy : sy.any (fun x => !symM x) = false) : ∀ x ∈ fixedL ++ sy, matchB s at_ x = true → x.length ≤ 8 := by
  intro x hx hm
  rcases List.mem_append.1 hx with hx | hx
  · have : ∀ x ∈ fixedL, x.length ≤ 8 := by decide
    exact this x hx
  · have hs : symM x = true := by
      have := List.any_eq_false.1 hsy x hx
      simpa using this
    refine symM_short x hs ?_
    rw [← match_first s at_ x (symM_ne x hs) hm]; exact hb
theorem oneM_sym (s : List UInt8) (at_ : Nat) (sy : List (List UInt8)) (h : beginsB (byteI s at_) = false) (h2 : digitB (byteI s at_) = false) (h3 : decide (byteI s at_ = 34) = false) (hsy : sy.any (fun x => !symM x) = false) : oneM s at_ sy = symR s at_ (fixedL ++ sy) := by
  simp only [oneM, symR, h, h2, h3, cond_false, symF_long s at_ _ (len8 s at_ sy h hsy)]

theorem SI.sc {M M' : Mem} {r km gv sm : Nat} {s : List UInt8} {i : Nat} {sy : List (List UInt8)} (h : SI M M' r km gv sm s i sy (fixedL ++ sy)) : SC M' r km gv sm s i sy :=
  ⟨h.cell, h.kw, h.gvn, by rw [h.smn, addT_app]⟩

/-- The token at an offset, by whichever of the four. -/
theorem which {M M' : Mem} {r km gv sm : Nat} {s : List UInt8} {i : Nat} {sy : List (List UInt8)} (h : SI M M' r km gv sm s i sy (fixedL ++ sy)) (hi : i < s.length) (hlen : s.length ≤ 1000000) (hsy : sy.any (fun x => !symM x) = false) :
    (classI (byteI s i) = 0 ∧ ACalls Tryd.prog 21 [.ptr r 0] M' fun e M2 => e = .ret (tup3 (oneM s i sy)) ∧ M2 = M') ∨ (classI (byteI s i) = 1 ∧ ACalls Tryd.prog 22 [.ptr r 0] M' fun e M2 => e = .ret (tup3 (oneM s i sy)) ∧ M2 = M') ∨
    (classI (byteI s i) = 2 ∧ ACalls Tryd.prog 23 [.ptr r 0] M' fun e M2 => e = .ret (tup3 (oneM s i sy)) ∧ M2 = M') ∨ (classI (byteI s i) = 3 ∧ ACalls Tryd.prog 24 [.ptr r 0] M' fun e M2 => e = .ret (tup3 (oneM s i sy)) ∧ M2 = M') := by
  have hsc := h.sc
  cases hb : beginsB (byteI s i) with
  | true => exact .inr (.inl ⟨by simp [classI, hb], by rw [oneM_word s i sy hb]; exact word_spec hsc hi (by omega)⟩)
  | false =>
    cases hd : digitB (byteI s i) with
    | true => exact .inr (.inr (.inl ⟨by simp [classI, hb, hd], by rw [oneM_num s i sy hb hd]; exact number_spec hsc hi (by omega)⟩))
    | false =>
      cases hq : decide (byteI s i = 34) with
      | true => exact .inr (.inr (.inr ⟨by simp [classI, hb, hd, hq], by rw [oneM_quo s i sy hb hd hq]; exact quoted_spec hsc hi hlen⟩))
      | false => exact .inl ⟨by simp [classI, hb, hd, hq], by rw [oneM_sym s i sy hb hd hq hsy]; exact symS_spec hsc hi (by omega)⟩

def fnsV (r : Nat) : List TV := [.v (.fn (.func 21) [.ptr r 0] []), .v (.fn (.func 22) [.ptr r 0] []), .v (.fn (.func 23) [.ptr r 0] []), .v (.fn (.func 24) [.ptr r 0] [])]

theorem which1 {M M' : Mem} {r km gv sm : Nat} {s : List UInt8} {i : Nat} {sy : List (List UInt8)} (h : SI M M' r km gv sm s i sy (fixedL ++ sy)) (hi : i < s.length) (hlen : s.length ≤ 1000000) (hsy : sy.any (fun x => !symM x) = false) :
    ∃ k f : Nat, classI (byteI s i) = (k : Int) ∧ k < 4 ∧ (if k * 1 + 1 ≤ (fnsV r).length then (fnsV r)[k * 1]? else none) = some (.v (.fn (.func f) [.ptr r 0] [])) ∧ Has Tryd.prog f ∧ ACalls Tryd.prog f [.ptr r 0] M' fun e M2 => e = .ret (tup3 (oneM s i sy)) ∧ M2 = M' := by
  rcases which h hi hlen hsy with ⟨hk, hcall⟩ | ⟨hk, hcall⟩ | ⟨hk, hcall⟩ | ⟨hk, hcall⟩
  · exact ⟨0, 21, hk, by omega, rfl, has21, hcall⟩
  · exact ⟨1, 22, hk, by omega, rfl, has22, hcall⟩
  · exact ⟨2, 23, hk, by omega, rfl, has23, hcall⟩
  · exact ⟨3, 24, hk, by omega, rfl, has24, hcall⟩

section
variable {M : Mem} {r km gv sm : Nat} {s : List UInt8} {sy : List (List UInt8)}
theorem scanP_loop (hs : s.length ≤ 65536) (hsy : sy.any (fun x => !symM x) = false) (Q : AExit → St → Prop) : ∀ (n at_ : Nat) (acc : List Tok) (M' : Mem), s.length - at_ < n → at_ ≤ s.length → acc.length ≤ at_ → SI M M' r km gv sm s at_ sy (fixedL ++ sy) →
    ((scanL s sy n at_ acc).2.2 ≠ 0 → ∀ t rows M'', M.sub M'' → t[4]? = some (.v (.sl .full 3 [])) → t[5]? = some (.v (.int .i64 ((scanL s sy n at_ acc).2.1 : Int))) → t[6]? = some (.v (.int .i64 ((scanL s sy n at_ acc).2.2 : Int))) → Q .ret { tmps := t, loc := [some (fnsV r)], rows := rows, defs := [], M := M'' }) →
    ((scanL s sy n at_ acc).2.2 = 0 → ∀ acc' M'', M.sub M'' → (scanL s sy n at_ acc).1 = acc' ++ [(4, [], s.length)] → (scanL s sy n at_ acc).2.1 = 0 → acc'.length ≤ s.length → Q (.exit 6) { tmps := lp12_3 (.v (.str s)) (.v (.ptr r 0)) (.lptr 0 0) (.lsl 0 3 (toks acc')), loc := [some (fnsV r)], rows := [(35, 3, acc'.length)], defs := [], M := M'' }) →
    CLoop none Tryd.prog tt esc12 cc12_l3 Q { tmps := lp12_3 (.v (.str s)) (.v (.ptr r 0)) (.lptr 0 0) (.lsl 0 3 (toks acc)), loc := [some (fnsV r)], rows := [(35, 3, acc.length)], defs := [], M := M' } := by
  intro n
  induction n with
  | zero => intro at_ acc M' h0; omega
  | succ n ih =>
    intro at_ acc M' h0 h1 h2 hI hQ1 hQ2
    have hc0 := hI.cell
    refine CLoop.unroll ?_
    generalize hK : CLoop none Tryd.prog tt esc12 cc12_l3 Q = K
    simp only [cc12_l3, lp12_3]
    refine CWp.seq ?_
    refine CWp.seq ?_
    refine CWp.reg tt_ok ?_
    simp only [go_sem, Nat.reduceAdd, Nat.reduceLeDiff, Nat.reduceMul, Nat.reduceSub, Nat.reduceEqDiff, hc0]
    refine CWp.cond rfl ?_ ?_ <;> intro hc
    · have hlt : at_ < s.length := by simpa using hc
      simp only [scanL, hlt, decide_true, cond_true] at hQ1 hQ2
      obtain ⟨k, f, hk, hk4, hpick, hhas, hcall⟩ := which1 hI hlt (by omega) hsy
      have hok := oneM_ok s at_ sy hlt
      generalize oneM s at_ sy = res at *
      obtain ⟨kd, te, er⟩ := res
      refine CWp.skip ?_
      simp only [go_sem, Nat.reduceAdd, Nat.reduceLeDiff, Nat.reduceMul, Nat.reduceSub, Nat.reduceEqDiff]
      refine CWp.seq ?_
      refine CWp.block ?_
      refine CWp.seq ?_
      refine CWp.reg tt_ok ?_
      simp only [go_sem, Nat.reduceAdd, Nat.reduceLeDiff, Nat.reduceMul, Nat.reduceSub, Nat.reduceEqDiff, hc0]
      repeat (with_reducible refine And.intro (by first | exact True.intro | assumption | omega | (intros; omega) | (intro hg; simp only [Bool.and_eq_true, Bool.or_eq_true, decide_eq_true_eq, Bool.not_eq_true', decide_eq_false_iff_not] at hg; omega) | (simp only [decide_eq_true_eq, Bool.and_eq_true, Bool.or_eq_true, Bool.not_eq_true', decide_eq_false_iff_not]; omega) | (intros; simp_all; done) | (intros; simp_all; omega)) ?_)
      refine COps.pure has26 rfl rfl (by simp) (fun _ => class_spec _) (evalC_sound tt_ok _ _ ?_)
      have hb : (((s.getD at_ 0).toNat : Nat) : Int) = byteI s at_ := rfl
      rw [hb]
      rw [hk]
      simp only [go_sem, Nat.reduceAdd, Nat.reduceLeDiff, Nat.reduceMul, Nat.reduceSub, Nat.reduceEqDiff, hpick]
      repeat (with_reducible refine And.intro (by first | exact True.intro | assumption | omega | (intros; omega) | (intro hg; simp only [Bool.and_eq_true, Bool.or_eq_true, decide_eq_true_eq, Bool.not_eq_true', decide_eq_false_iff_not] at hg; omega) | (simp only [decide_eq_true_eq, Bool.and_eq_true, Bool.or_eq_true, Bool.not_eq_true', decide_eq_false_iff_not]; omega) | (intros; simp_all; done) | (intros; simp_all; omega)) ?_)
      refine COps.call hhas rfl (by simp) (hcall.mono ?_)
      rintro x M2 ⟨rfl, rfl⟩
      refine evalC_sound tt_ok _ _ ?_
      simp only [tup3]
      simp only [go_sem, Nat.reduceAdd, Nat.reduceLeDiff, Nat.reduceMul, Nat.reduceSub, Nat.reduceEqDiff]
      refine CWp.seq ?_
      refine CWp.seq ?_
      refine CWp.reg tt_ok ?_
      simp only [go_sem, Nat.reduceAdd, Nat.reduceLeDiff, Nat.reduceMul, Nat.reduceSub, Nat.reduceEqDiff]
      have k1 : decide ((er : Int) = 0) = decide (er = 0) := decide_eq_decide.2 (by omega)
      simp only [k1]
      refine CWp.cond rfl ?_ ?_ <;> intro he
      · simp only [Bool.not_eq_true'] at he
        simp only [he, cond_false] at hQ1 hQ2
        repeat (first | refine CWp.seq ?_ | refine CWp.block ?_ | (refine CWp.ret ?_; try simp only [go_sem, Nat.reduceAdd, Nat.reduceLeDiff, Nat.reduceMul, Nat.reduceSub, Nat.reduceEqDiff]) | (refine CWp.skip ?_; try simp only [go_sem, Nat.reduceAdd, Nat.reduceLeDiff, Nat.reduceMul, Nat.reduceSub, Nat.reduceEqDiff]) | (refine CWp.reg tt_ok ?_; simp only [go_sem, Nat.reduceAdd, Nat.reduceLeDiff, Nat.reduceMul, Nat.reduceSub, Nat.reduceEqDiff]))
        exact hQ1 (by simpa using he) _ _ _ hI.sub rfl rfl rfl
      · have he0 : er = 0 := by simpa using he
        subst he0
        obtain ⟨ht1, ht2⟩ := hok rfl
        simp only [decide_true, cond_true] at hQ1 hQ2
        have hta : at_ < te := ht1
        have htb : te ≤ s.length := ht2
        have hkk := skipM_le s (s.length + 1) te htb
        refine CWp.skip ?_
        simp only [go_sem, Nat.reduceAdd, Nat.reduceLeDiff, Nat.reduceMul, Nat.reduceSub, Nat.reduceEqDiff]
        refine CWp.seq ?_
        refine CWp.dreg mixed tt_ok dr12_0 ?_
        repeat (first | with_reducible refine And.intro (by first | exact True.intro | assumption | omega | (intros; omega) | (intro hg; simp only [Bool.and_eq_true, Bool.or_eq_true, decide_eq_true_eq, Bool.not_eq_true', decide_eq_false_iff_not] at hg; omega) | (simp only [decide_eq_true_eq, Bool.and_eq_true, Bool.or_eq_true, Bool.not_eq_true', decide_eq_false_iff_not]; omega) | (intros; simp_all; done) | (intros; simp_all; omega)) ?_ | (with_reducible refine evalD_step ?_; simp only [qval, factOf, pev, St.get, St.put, rd, lp, gval, icmp, scmp, bcmp, arith, quorem, nlB, isNil, bound, fillA, rdL, pickT, pickL, extL, TV.ext, TV.sc, AV.cells, am_one_bool, am_one_int, am_one_str, am_one_nilp, am_one_ptr, am_one_eptr, am_one_sl, am_one_map, am_one_nilmap, am_one_fn, am_one_nilfn, am_one_iface, am_one_niliface, am_one_raw, am_one_agg, am_one_tup, am_one_junk, InR, findS, List.getElem?_cons_succ, List.getElem?_cons_zero, Option.getD_some, Option.getD_none, List.set_cons_succ, List.set_cons_zero, List.map_cons, List.map_nil, List.length_cons, List.length_nil, List.take_succ_cons, List.take_zero, List.drop_succ_cons, List.drop_zero, List.getElem?_nil, and_true, true_and, implies_true, forall_const, Bool.true_and, Bool.and_true, Bool.true_eq_false, Bool.false_eq_true, Option.map_some, Option.map_none, cond_true, cond_false, Bool.not_true, Bool.not_false, if_true, if_false, ite_true, ite_false, decide_true, decide_false, am_cond_false, am_cond_true, am_beq_true, am_beq_false, am_imp_self, am_imp_imp, am_not_imp, am_and_imp, am_and_imp', am_imp_and, am_mem_one, am_mem_cons, am_mem_nil, am_nat_add, Int.toNat_natCast, Nat.le_refl, Nat.reduceAdd, Nat.reduceLeDiff, Nat.reduceMul, Nat.reduceSub, Nat.reduceEqDiff, hc0]))
        simp only [go_sem, Nat.reduceAdd, Nat.reduceLeDiff, Nat.reduceMul, Nat.reduceSub, Nat.reduceEqDiff]
        refine And.intro ⟨by rw [toks_len], by omega, by rw [toks_len]; omega, by rw [toks_len]; omega⟩ (And.intro (by repeat' (first | exact True.intro | refine And.intro ?_ ?_)) ?_)
        refine CWp.reg tt_ok ?_
        simp only [go_sem, Nat.reduceAdd, Nat.reduceLeDiff, Nat.reduceMul, Nat.reduceSub, Nat.reduceEqDiff, hc0]
        repeat (with_reducible refine And.intro (by first | exact True.intro | assumption | omega | (intros; omega) | (intro hg; simp only [Bool.and_eq_true, Bool.or_eq_true, decide_eq_true_eq, Bool.not_eq_true', decide_eq_false_iff_not] at hg; omega) | (simp only [decide_eq_true_eq, Bool.and_eq_true, Bool.or_eq_true, Bool.not_eq_true', decide_eq_false_iff_not]; omega) | (intros; simp_all; done) | (intros; simp_all; omega)) ?_)
        refine CWp.reg tt_ok ?_
        simp only [go_sem, Nat.reduceAdd, Nat.reduceLeDiff, Nat.reduceMul, Nat.reduceSub, Nat.reduceEqDiff]
        refine COps.call has25 rfl (by simp) ((skipP_spec (hI.at_ te).sc htb (by omega)).mono ?_)
        rintro x M3 ⟨rfl, rfl⟩
        refine evalC_sound tt_ok _ _ ?_
        simp only [go_sem, Nat.reduceAdd, Nat.reduceLeDiff, Nat.reduceMul, Nat.reduceSub, Nat.reduceEqDiff]
        have e1 : toks acc ++ [AV.agg [AV.int IntKind.i64 (kd : Int), AV.str (List.drop at_ (List.take te s)), AV.int IntKind.i64 (at_ : Int)]] = toks (acc ++ [(kd, slice s at_ te, at_)]) := by simp [toks, tokA, slice]
        rw [e1]
        have e2 : (toks acc).length + 1 = (acc ++ [(kd, slice s at_ te, at_)]).length := by simp [toks_len]
        rw [e2]
        rw [← hK]
        exact CLoop.junk (t := lp12_3 (.v (.str s)) (.v (.ptr r 0)) (.lptr 0 0) (.lsl 0 3 (toks (acc ++ [(kd, slice s at_ te, at_)])))) (ih _ _ _ (by omega) (by omega) (by simp; omega) ((hI.at_ te).at_ _) hQ1 hQ2) (by simp [Junked, lp12_3])
    · have hge : ¬ at_ < s.length := by simpa using hc
      have hate : at_ = s.length := by omega
      subst hate
      simp only [scanL, hge, decide_false, cond_false] at hQ2
      exact CWp.junk (t := lp12_3 (.v (.str s)) (.v (.ptr r 0)) (.lptr 0 0) (.lsl 0 3 (toks acc))) (CWp.exit (hQ2 True.intro acc M' hI.sub rfl True.intro (by omega))) (by simp [Junked, lp12_3])
end
end Go.Proofs.LxA
set_option linter.unusedVariables false
set_option linter.unusedSimpArgs false
set_option maxRecDepth 100000
namespace Go.Proofs.LxA
open Go Go.Am Go.Proofs Go.RowKit
set_option linter.unusedSectionVars false

theorem set_none {M : Mem} {k k' : Nat} {o : AObj} (h : M.set (.b k) o (.b k') = none) : k' ≠ k ∧ M (.b k') = none := by
  by_cases e : k' = k
  · subst e; rw [Mem.set_same] at h; cases h
  · rw [Mem.set_b e] at h; exact ⟨e, h⟩
theorem SI.start {M : Mem} {r km gv sm : Nat} {s : List UInt8} (hkm : M (.b km) = none) (hgv : M.set (.b km) (.map (addT [] kwL)) (.b gv) = none)
    (hsm : (M.set (.b km) (.map (addT [] kwL))).set (.b gv) (.map []) (.b sm) = none) (hr : ((M.set (.b km) (.map (addT [] kwL))).set (.b gv) (.map [])).set (.b sm) (.map []) (.b r) = none) :
    SI M ((((M.set (.b km) (.map (addT [] kwL))).set (.b gv) (.map [])).set (.b sm) (.map [])).set (.b r) (.cells [.str s, .int .i64 0, .map km, .map gv, .map sm])) r km gv sm s 0 [] [] := by
  obtain ⟨r1, hr⟩ := set_none hr
  obtain ⟨r2, hr⟩ := set_none hr
  obtain ⟨r3, hr⟩ := set_none hr
  obtain ⟨s1, hsm⟩ := set_none hsm
  obtain ⟨s2, hsm⟩ := set_none hsm
  obtain ⟨g1, hgv⟩ := set_none hgv
  refine ⟨Mem.set_same _ _ _, ?_, ?_, ?_, ?_, Ne.symm s1, Ne.symm g1, Ne.symm s2, hr, hgv, hsm⟩
  · rw [Mem.set_b (Ne.symm r3), Mem.set_b (Ne.symm s2), Mem.set_b (Ne.symm g1), Mem.set_same]
  · rw [Mem.set_b (Ne.symm r2), Mem.set_b (Ne.symm s1), Mem.set_same]; rfl
  · rw [Mem.set_b (Ne.symm r1), Mem.set_same]; rfl
  · exact ((((Mem.sub.refl M).set_new hkm).set_new hgv).set_new hsm).set_new hr

/-- `Scan` of the program. -/
theorem scanP_spec (own : Own) (s : List UInt8) (sy : List (List UInt8)) (hs : s.length ≤ 1000000) (hx : ∀ x ∈ sy, x.length ≤ 1000000) (hlen : sy.length ≤ 1000000) :
    Pure Tryd.prog 12 [.str s, .sl own 1 (strs sy)] (scanA (scanM s sy)) := fun M => by
  refine enter12 _ _ ?_
  simp only [cc12]
  refine CWp.seq ?_
  refine CWp.reg tt_ok ?_
  simp only [go_sem, Nat.reduceAdd, Nat.reduceLeDiff, Nat.reduceMul, Nat.reduceSub, Nat.reduceEqDiff]
  refine CWp.seq ?_
  refine CWp.reg tt_ok ?_
  simp only [go_sem, Nat.reduceAdd, Nat.reduceLeDiff, Nat.reduceMul, Nat.reduceSub, Nat.reduceEqDiff]
  refine COps.call has19 rfl (by simp) ((keywords_spec M).mono ?_)
  rintro x M1 ⟨km, hkm, rfl, rfl⟩
  refine evalC_sound tt_ok _ _ ?_
  simp only [go_sem, Nat.reduceAdd, Nat.reduceLeDiff, Nat.reduceMul, Nat.reduceSub, Nat.reduceEqDiff]
  intro gv hgv sm hsm
  intro r hr
  have hI := SI.start (s := s) hkm hgv hsm hr
  generalize ((((M.set (.b km) (.map (addT [] kwL))).set (.b gv) (.map [])).set (.b sm) (.map [])).set (.b r) (.cells [.str s, .int .i64 0, .map km, .map gv, .map sm])) = M1 at *
  refine CWp.seq ?_
  refine CWp.seq ?_
  refine CWp.reg tt_ok ?_
  simp only [go_sem, Nat.reduceAdd, Nat.reduceLeDiff, Nat.reduceMul, Nat.reduceSub, Nat.reduceEqDiff, strs_len]
  refine CWp.block ?_
  refine CWp.loop (CLoop.junk (t := lp12_0 (.v (.str s)) (.v (.sl own 1 (strs sy))) (.v (.ptr r 0)) (.v (.sl own 1 (strs sy))) (.v (.int .i64 (sy.length : Int))) (.v (.int .i64 ((0 : Nat) : Int)))) (given_loop (M := M) own sy hx hlen _ (sy.length + 1) 0 M1 (by omega) (by omega) (by simpa using hI) ?_ ?_) (by simp [Junked, lp12_0]))
  · intro h1 t M2 hsub ht4 ht5 ht6
    rw [List.drop_zero] at h1
    simp only [go_sem, Nat.reduceAdd, Nat.reduceLeDiff, Nat.reduceMul, Nat.reduceSub, Nat.reduceEqDiff]
    have e : scanM s sy = ([], 0, 1) := by simp only [scanM, h1, cond_true]
    exact Fin.ret3 (M' := M) (.inl rfl) Tryd.results12 rfl (by rw [ht4]; rfl) (by rw [ht5]; rfl) (by rw [ht6]; rfl) hsub ⟨by rw [e]; rfl, rfl⟩
  · intro h1 M2 hI2
    rw [List.drop_zero] at h1
    simp only [go_sem, lp12_0]
    refine CWp.seq ?_
    refine CWp.seq ?_
    refine CWp.reg tt_ok ?_
    simp only [go_sem, Nat.reduceAdd, Nat.reduceLeDiff, Nat.reduceMul, Nat.reduceSub, Nat.reduceEqDiff]
    refine COps.pure has20 rfl rfl (by simp) (fun _ => fixedP_spec) (evalC_sound tt_ok _ _ ?_)
    simp only [go_sem, Nat.reduceAdd, Nat.reduceLeDiff, Nat.reduceMul, Nat.reduceSub, Nat.reduceEqDiff]
    repeat (with_reducible refine And.intro (by first | exact True.intro | assumption | omega | (intros; omega) | (intro hg; simp only [Bool.and_eq_true, Bool.or_eq_true, decide_eq_true_eq, Bool.not_eq_true', decide_eq_false_iff_not] at hg; omega) | (simp only [decide_eq_true_eq, Bool.and_eq_true, Bool.or_eq_true, Bool.not_eq_true', decide_eq_false_iff_not]; omega) | (intros; simp_all; done) | (intros; simp_all; omega)) ?_)
    refine CWp.block ?_
    refine CWp.loop (CLoop.junk (t := lp12_1 (.v (.str s)) (.v (.ptr r 0)) (.v (.sl .full 1 [.sl .full 1 (strs fixedL), .sl own 1 (strs sy)])) (.v (.int .i64 2)) (.v (.int .i64 0))) (both_loop (M := M) own sy hlen M2 _ hI2 ?_) (by simp [Junked, lp12_1]))
    intro M3 hI3
    simp only [go_sem, lp12_3]
    refine CWp.seq ?_
    refine CWp.seq ?_
    refine CWp.reg tt_ok ?_
    simp only [go_sem, Nat.reduceAdd, Nat.reduceLeDiff, Nat.reduceMul, Nat.reduceSub, Nat.reduceEqDiff]
    have k1 : decide ((65536 : Int) < (s.length : Int)) = decide (s.length > 65536) := decide_eq_decide.2 (by omega)
    simp only [k1]
    refine CWp.cond rfl ?_ ?_ <;> intro h2
    · repeat (first | refine CWp.seq ?_ | refine CWp.block ?_ | (refine CWp.ret ?_; try simp only [go_sem, Nat.reduceAdd, Nat.reduceLeDiff, Nat.reduceMul, Nat.reduceSub, Nat.reduceEqDiff]) | (refine CWp.skip ?_; try simp only [go_sem, Nat.reduceAdd, Nat.reduceLeDiff, Nat.reduceMul, Nat.reduceSub, Nat.reduceEqDiff]) | (refine CWp.reg tt_ok ?_; simp only [go_sem, Nat.reduceAdd, Nat.reduceLeDiff, Nat.reduceMul, Nat.reduceSub, Nat.reduceEqDiff]))
      have e : scanM s sy = ([], 0, 5) := by simp only [scanM, h1, h2, cond_true, cond_false]
      exact Fin.ret3 (M' := M) (.inl rfl) Tryd.results12 rfl rfl rfl rfl hI3.sub ⟨by rw [e]; rfl, rfl⟩
    · have hs2 : s.length ≤ 65536 := by simpa using h2
      refine CWp.skip ?_
      simp only [go_sem, Nat.reduceAdd, Nat.reduceLeDiff, Nat.reduceMul, Nat.reduceSub, Nat.reduceEqDiff]
      refine CWp.seq ?_
      refine CWp.reg tt_ok ?_
      simp only [go_sem, Nat.reduceAdd, Nat.reduceLeDiff, Nat.reduceMul, Nat.reduceSub, Nat.reduceEqDiff]
      repeat (with_reducible refine And.intro (by first | exact True.intro | assumption | omega | (intros; omega) | (intro hg; simp only [Bool.and_eq_true, Bool.or_eq_true, decide_eq_true_eq, Bool.not_eq_true', decide_eq_false_iff_not] at hg; omega) | (simp only [decide_eq_true_eq, Bool.and_eq_true, Bool.or_eq_true, Bool.not_eq_true', decide_eq_false_iff_not]; omega) | (intros; simp_all; done) | (intros; simp_all; omega)) ?_)
      refine CWp.seq ?_
      refine CWp.reg tt_ok ?_
      simp only [go_sem, Nat.reduceAdd, Nat.reduceLeDiff, Nat.reduceMul, Nat.reduceSub, Nat.reduceEqDiff]
      refine CWp.seq ?_
      refine CWp.seq ?_
      refine CWp.reg tt_ok ?_
      simp only [go_sem, Nat.reduceAdd, Nat.reduceLeDiff, Nat.reduceMul, Nat.reduceSub, Nat.reduceEqDiff]
      refine COps.call has25 rfl (by simp) ((skipP_spec hI3.sc (by omega) hs).mono ?_)
      rintro x M4 ⟨rfl, rfl⟩
      refine evalC_sound tt_ok _ _ ?_
      simp only [go_sem, Nat.reduceAdd, Nat.reduceLeDiff, Nat.reduceMul, Nat.reduceSub, Nat.reduceEqDiff]
      have hI4 := hI3.at_ (skipM s (s.length + 1) 0)
      generalize atM M3 r km gv sm s (skipM s (s.length + 1) 0) = M4 at *
      have hk := skipM_le s (s.length + 1) 0 (by omega)
      refine CWp.block ?_
      refine CWp.loop ?_
      refine CLoop.own (i := 15) (sz := 3) 35 rfl ?_
      have e : scanM s sy = scanL s sy (s.length + 1) (skipM s (s.length + 1) 0) [] := by simp only [scanM, h1, h2, cond_false]
      refine CLoop.junk (t := lp12_3 (.v (.str s)) (.v (.ptr r 0)) (.lptr 0 0) (.lsl 0 3 (toks []))) (scanP_loop (M := M) hs2 h1 _ (s.length + 1) _ [] M4 (by omega) (by omega) (by simp) hI4 ?_ ?_) (by simp [Junked, lp12_3, toks])
      · intro h3 t rows M5 hsub ht4 ht5 ht6
        simp only [go_sem, Nat.reduceAdd, Nat.reduceLeDiff, Nat.reduceMul, Nat.reduceSub, Nat.reduceEqDiff]
        rw [← e] at h3 ht5 ht6
        have e2 : scanA (scanM s sy) = .tup [.sl .full 3 [], .int .i64 ((scanM s sy).2.1 : Int), .int .i64 ((scanM s sy).2.2 : Int)] := by
          have hnil : (scanM s sy).1 = [] := by rw [e] at h3 ⊢; exact scanL_err s sy _ _ _ h3
          unfold scanA
          rw [hnil]
          have : ownE (scanM s sy).2.2 = .full := by unfold ownE; rw [decide_eq_false h3]; rfl
          rw [this]; rfl
        exact Fin.ret3 (M' := M) (.inl rfl) Tryd.results12 rfl (by rw [ht4]; rfl) (by rw [ht5]; rfl) (by rw [ht6]; rfl) hsub ⟨by rw [e2], rfl⟩
      · intro h3 acc' M5 hsub ha hb hc
        rw [← e] at h3 ha hb
        simp only [go_sem, lp12_3]
        repeat (first | refine CWp.seq ?_ | refine CWp.block ?_ | (refine CWp.ret ?_; try simp only [go_sem, Nat.reduceAdd, Nat.reduceLeDiff, Nat.reduceMul, Nat.reduceSub, Nat.reduceEqDiff]) | (refine CWp.skip ?_; try simp only [go_sem, Nat.reduceAdd, Nat.reduceLeDiff, Nat.reduceMul, Nat.reduceSub, Nat.reduceEqDiff]) | (refine CWp.reg tt_ok ?_; simp only [go_sem, Nat.reduceAdd, Nat.reduceLeDiff, Nat.reduceMul, Nat.reduceSub, Nat.reduceEqDiff]))
        simp only [toks_len]
        refine ⟨by simp; omega, ?_⟩
        repeat (first | refine CWp.seq ?_ | refine CWp.block ?_ | (refine CWp.ret ?_; try simp only [go_sem, Nat.reduceAdd, Nat.reduceLeDiff, Nat.reduceMul, Nat.reduceSub, Nat.reduceEqDiff]) | (refine CWp.skip ?_; try simp only [go_sem, Nat.reduceAdd, Nat.reduceLeDiff, Nat.reduceMul, Nat.reduceSub, Nat.reduceEqDiff]) | (refine CWp.reg tt_ok ?_; simp only [go_sem, Nat.reduceAdd, Nat.reduceLeDiff, Nat.reduceMul, Nat.reduceSub, Nat.reduceEqDiff]))
        have e2 : scanA (scanM s sy) = .tup [.sl .no 3 (toks acc' ++ [.agg [.int .i64 4, .str [], .int .i64 (s.length : Int)]]), .int .i64 0, .int .i64 0] := by
          unfold scanA
          rw [h3, ha, hb]
          simp [toks, tokA, ownE]
        exact Fin.ret3 (M' := M) (.inl rfl) Tryd.results12 rfl rfl rfl rfl hsub ⟨by rw [e2], rfl⟩
end Go.Proofs.LxA
