import Derived.Test.YticifcoffgoajaaDoorLx7
import Derived.Test.YticifcoffgoajaaDoorLxPF
set_option linter.unusedVariables false
set_option linter.unusedSimpArgs false
set_option maxRecDepth 100000
namespace Go.Proofs.LxA
open Go Go.Am Go.Proofs Go.RowKit
set_option linter.unusedSectionVars false

theorem loc_app {α : Type} (L : List α) (x : α) : (L ++ [x])[L.length]? = some x := by simp
theorem loc_set {α : Type} (L : List α) (x y : α) : (L ++ [x]).set L.length y = L ++ [y] := by simp

theorem gap_cons (s : List UInt8) (a b : Nat) (h : a < b) (hb : b ≤ s.length) : (s.take b).drop a = s.getD a 0 :: (s.take b).drop (a + 1) := by
  have h1 : a < (s.take b).length := by rw [List.length_take]; omega
  rw [List.drop_eq_getElem_cons h1, List.getElem_take, List.getD_eq_getElem?_getD, List.getElem?_eq_getElem (by omega)]
  rfl
theorem gap_dash (s : List UInt8) (a b : Nat) (hb : b ≤ s.length) : dash1 ((s.take b).drop (a + 1)) = (decide (((a : Int) + 1) < (b : Int)) && decide (((s.getD (a + 1) 0).toNat : Int) = 45)) := by
  by_cases h : a + 1 < b
  · rw [gap_cons s (a + 1) b h hb]
    have e : decide (((s.getD (a + 1) 0).toNat : Int) = 45) = decide (s.getD (a + 1) 0 = 45) := dI _ 45
    have e2 : decide (((a : Int) + 1) < (b : Int)) = true := decide_eq_true (by omega)
    rw [e, e2]; rfl
  · rw [List.drop_eq_nil_of_le (by rw [List.length_take]; omega)]
    have e2 : decide (((a : Int) + 1) < (b : Int)) = false := decide_eq_false (by omega)
    rw [e2]; rfl

theorem gap_loop (x5 x10 : TV) (s : List UInt8) (hs : s.length ≤ 1000000) (te m : Nat) (hte : te ≤ s.length) (L : List (Option (List TV))) (v0 v1 : TV) (hL : L[m]? = some (some [v0, v1, .v (.int .i64 (te : Int))])) (bf : Bool) (M : Mem) (Q : AExit → St → Prop)
    (hQ : Q (.exit 2) { tmps := lp5_1 (.v (.str s)) x5 (.v (.int .i64 (te : Int))) (.v (.bool bf)) x10 (.lptr m 0), loc := L, rows := [], defs := [], M := M }) : ∀ (n i : Nat) (b : Bool), te - i < n → i ≤ te → gapL b ((s.take te).drop i) = some bf →
    CLoop none Tryd.prog tt esc5 cc5_l1 Q { tmps := lp5_1 (.v (.str s)) x5 (.v (.int .i64 (i : Int))) (.v (.bool b)) x10 (.lptr m 0), loc := L, rows := [], defs := [], M := M } := by
  intro n
  induction n with
  | zero => intro i b h0; omega
  | succ n ih =>
    intro i b h0 h1 hg
    refine CLoop.unroll ?_
    generalize hK : CLoop none Tryd.prog tt esc5 cc5_l1 Q = K
    simp only [cc5_l1, lp5_1]
    refine CWp.seq ?_
    refine CWp.seq ?_
    refine CWp.reg tt_ok ?_
    simp only [go_sem, Nat.reduceAdd, Nat.reduceLeDiff, Nat.reduceMul, Nat.reduceSub, Nat.reduceEqDiff, hL]
    refine CWp.cond rfl ?_ ?_ <;> intro hc
    · have hi : i < te := by simpa using hc
      rw [gap_cons s i te hi hte] at hg
      have hd := gap_dash s i te hte
      simp only [gapL, hd] at hg
      have e10 : decide (((s.getD i 0).toNat : Int) = 10) = decide (s.getD i 0 = 10) := dI _ 10
      have e45 : decide (((s.getD i 0).toNat : Int) = 45) = decide (s.getD i 0 = 45) := dI _ 45
      have e32 : decide (((s.getD i 0).toNat : Int) = 32) = decide (s.getD i 0 = 32) := dI _ 32
      have e9 : decide (((s.getD i 0).toNat : Int) = 9) = decide (s.getD i 0 = 9) := dI _ 9
      have e13 : decide (((s.getD i 0).toNat : Int) = 13) = decide (s.getD i 0 = 13) := dI _ 13
      have tn : ((i : Int) + 1).toNat = i + 1 := by omega
      refine CWp.skip ?_
      simp only [go_sem, Nat.reduceAdd, Nat.reduceLeDiff, Nat.reduceMul, Nat.reduceSub, Nat.reduceEqDiff]
      refine CWp.seq ?_
      refine CWp.block ?_
      refine CWp.seq ?_
      refine CWp.reg tt_ok ?_
      simp only [go_sem, Nat.reduceAdd, Nat.reduceLeDiff, Nat.reduceMul, Nat.reduceSub, Nat.reduceEqDiff]
      repeat (with_reducible refine And.intro (by first | exact True.intro | assumption | omega | (intros; omega) | (intro hg; simp only [Bool.and_eq_true, Bool.or_eq_true, decide_eq_true_eq, Bool.not_eq_true', decide_eq_false_iff_not] at hg; omega) | (simp only [decide_eq_true_eq, Bool.and_eq_true, Bool.or_eq_true, Bool.not_eq_true', decide_eq_false_iff_not]; omega) | (intros; simp_all; done) | (intros; simp_all; omega)) ?_)
      refine CWp.seq ?_
      refine CWp.seq ?_
      refine CWp.reg tt_ok ?_
      simp only [go_sem, Nat.reduceAdd, Nat.reduceLeDiff, Nat.reduceMul, Nat.reduceSub, Nat.reduceEqDiff, e10]
      refine CWp.cond rfl ?_ ?_ <;> intro hc2
      · rw [hc2] at hg
        simp only [cond_true] at hg
        refine CWp.seq ?_
        refine CWp.reg tt_ok ?_
        simp only [go_sem, Nat.reduceAdd, Nat.reduceLeDiff, Nat.reduceMul, Nat.reduceSub, Nat.reduceEqDiff]
        refine CWp.exit ?_
        simp only [go_sem, Nat.reduceAdd, Nat.reduceLeDiff, Nat.reduceMul, Nat.reduceSub, Nat.reduceEqDiff]
        refine CWp.reg tt_ok ?_
        simp only [go_sem, Nat.reduceAdd, Nat.reduceLeDiff, Nat.reduceMul, Nat.reduceSub, Nat.reduceEqDiff]
        repeat (with_reducible refine And.intro (by first | exact True.intro | assumption | omega | (intros; omega) | (intro hg; simp only [Bool.and_eq_true, Bool.or_eq_true, decide_eq_true_eq, Bool.not_eq_true', decide_eq_false_iff_not] at hg; omega) | (simp only [decide_eq_true_eq, Bool.and_eq_true, Bool.or_eq_true, Bool.not_eq_true', decide_eq_false_iff_not]; omega) | (intros; simp_all; done) | (intros; simp_all; omega)) ?_)
        rw [← hK]
        exact CLoop.junk (t := lp5_1 (.v (.str s)) x5 (.v (.int .i64 ((i + 1 : Nat) : Int))) (.v (.bool false)) x10 (.lptr m 0)) (ih (i + 1) false (by omega) (by omega) hg) (by simp [Junked, lp5_1])
      · rw [hc2] at hg
        simp only [cond_false] at hg
        refine CWp.skip ?_
        simp only [go_sem, Nat.reduceAdd, Nat.reduceLeDiff, Nat.reduceMul, Nat.reduceSub, Nat.reduceEqDiff]
        refine CWp.seq ?_
        refine CWp.seq ?_
        refine CWp.reg tt_ok ?_
        simp only [go_sem, Nat.reduceAdd, Nat.reduceLeDiff, Nat.reduceMul, Nat.reduceSub, Nat.reduceEqDiff, hL, e45, tn]
        repeat (with_reducible refine And.intro (by first | exact True.intro | assumption | omega | (intros; omega) | (intro hg; simp only [Bool.and_eq_true, Bool.or_eq_true, decide_eq_true_eq, Bool.not_eq_true', decide_eq_false_iff_not] at hg; omega) | (simp only [decide_eq_true_eq, Bool.and_eq_true, Bool.or_eq_true, Bool.not_eq_true', decide_eq_false_iff_not]; omega) | (intros; simp_all; done) | (intros; simp_all; omega)) ?_)
        generalize hA : decide (s.getD i 0 = 45) = A at *
        generalize hB : decide ((i : Int) + 1 < (te : Int)) = B at *
        generalize hC : decide (((s.getD (i + 1) 0).toNat : Int) = 45) = C at *
        refine CWp.cond rfl ?_ ?_ <;> intro hc3
        · have hb : b = false ∧ A = true ∧ B = true ∧ C = true := by
            revert hc3
            cases b <;> cases A <;> cases B <;> cases C <;> simp
          obtain ⟨rfl, rfl, rfl, rfl⟩ := hb
          simp only [Bool.and_self, Bool.or_true, Bool.not_true, Bool.false_and, cond_false] at hg
          refine CWp.reg tt_ok ?_
          simp only [go_sem, Nat.reduceAdd, Nat.reduceLeDiff, Nat.reduceMul, Nat.reduceSub, Nat.reduceEqDiff]
          refine CWp.seq ?_
          refine CWp.reg tt_ok ?_
          simp only [go_sem, Nat.reduceAdd, Nat.reduceLeDiff, Nat.reduceMul, Nat.reduceSub, Nat.reduceEqDiff]
          refine CWp.cond rfl (fun h => by cases h) (fun _ => ?_)
          refine CWp.skip ?_
          simp only [go_sem, Nat.reduceAdd, Nat.reduceLeDiff, Nat.reduceMul, Nat.reduceSub, Nat.reduceEqDiff]
          refine CWp.reg tt_ok ?_
          simp only [go_sem, Nat.reduceAdd, Nat.reduceLeDiff, Nat.reduceMul, Nat.reduceSub, Nat.reduceEqDiff]
          repeat (with_reducible refine And.intro (by first | exact True.intro | assumption | omega | (intros; omega) | (intro hg; simp only [Bool.and_eq_true, Bool.or_eq_true, decide_eq_true_eq, Bool.not_eq_true', decide_eq_false_iff_not] at hg; omega) | (simp only [decide_eq_true_eq, Bool.and_eq_true, Bool.or_eq_true, Bool.not_eq_true', decide_eq_false_iff_not]; omega) | (intros; simp_all; done) | (intros; simp_all; omega)) ?_)
          rw [← hK]
          exact CLoop.junk (t := lp5_1 (.v (.str s)) x5 (.v (.int .i64 ((i + 1 : Nat) : Int))) (.v (.bool true)) x10 (.lptr m 0)) (ih (i + 1) true (by omega) (by omega) hg) (by simp [Junked, lp5_1])
        · have hb : (b || A && (B && C)) = b := by
            revert hc3
            cases b <;> cases A <;> cases B <;> cases C <;> simp
          rw [hb] at hg
          refine CWp.skip ?_
          simp only [go_sem, Nat.reduceAdd, Nat.reduceLeDiff, Nat.reduceMul, Nat.reduceSub, Nat.reduceEqDiff]
          refine CWp.seq ?_
          refine CWp.reg tt_ok ?_
          simp only [go_sem, Nat.reduceAdd, Nat.reduceLeDiff, Nat.reduceMul, Nat.reduceSub, Nat.reduceEqDiff, e32, e9, e13]
          have hv : (((!b && !decide (s.getD i 0 = 32)) && !decide (s.getD i 0 = 9)) && !decide (s.getD i 0 = 13)) = false ∧ gapL b ((s.take te).drop (i + 1)) = some bf := by
            revert hg
            cases b <;> cases decide (s.getD i 0 = 32) <;> cases decide (s.getD i 0 = 9) <;> cases decide (s.getD i 0 = 13) <;> simp
          refine CWp.cond rfl (fun h => by rw [hv.1] at h; cases h) (fun _ => ?_)
          refine CWp.skip ?_
          simp only [go_sem, Nat.reduceAdd, Nat.reduceLeDiff, Nat.reduceMul, Nat.reduceSub, Nat.reduceEqDiff]
          refine CWp.reg tt_ok ?_
          simp only [go_sem, Nat.reduceAdd, Nat.reduceLeDiff, Nat.reduceMul, Nat.reduceSub, Nat.reduceEqDiff]
          repeat (with_reducible refine And.intro (by first | exact True.intro | assumption | omega | (intros; omega) | (intro hg; simp only [Bool.and_eq_true, Bool.or_eq_true, decide_eq_true_eq, Bool.not_eq_true', decide_eq_false_iff_not] at hg; omega) | (simp only [decide_eq_true_eq, Bool.and_eq_true, Bool.or_eq_true, Bool.not_eq_true', decide_eq_false_iff_not]; omega) | (intros; simp_all; done) | (intros; simp_all; omega)) ?_)
          rw [← hK]
          exact CLoop.junk (t := lp5_1 (.v (.str s)) x5 (.v (.int .i64 ((i + 1 : Nat) : Int))) (.v (.bool b)) x10 (.lptr m 0)) (ih (i + 1) b (by omega) (by omega) hv.2) (by simp [Junked, lp5_1])
    · have hi : i = te := by simp at hc; omega
      subst hi
      rw [List.drop_eq_nil_of_le (by rw [List.length_take]; omega)] at hg
      have hg : b = bf := by simpa [gapL] using hg
      subst hg
      exact CWp.junk (t := lp5_1 (.v (.str s)) x5 (.v (.int .i64 (i : Int))) (.v (.bool b)) x10 (.lptr m 0)) (CWp.exit hQ) (by simp [Junked, lp5_1])

theorem cov_loop (own : Own) (s : List UInt8) (hs : s.length ≤ 1000) (sy : List (List UInt8)) (ts : List Tok) (hlen : ts.length ≤ 1000000) (M : Mem) (Q : AExit → St → Prop)
    (hQ : ∀ L, Q (.exit 0) { tmps := lp5_0 (.v (.str s)) (.v (.sl own 3 (toks ts))) .junk .junk .junk, loc := L, rows := [], defs := [], M := M }) : ∀ (n i at_ : Nat) (b : Bool) (L : List (Option (List TV))), ts.length - i < n → i ≤ ts.length →
    (i < ts.length → b = false ∧ at_ ≤ s.length ∧ Scans sy (at_ + skipL false (s.drop at_)) (s.drop (at_ + skipL false (s.drop at_))) (ts.drop i)) →
    CLoop none Tryd.prog tt esc5 cc5_l0 Q { tmps := lp5_0 (.v (.str s)) (.v (.sl own 3 (toks ts))) (.v (.int .i64 (at_ : Int))) (.v (.bool b)) (.v (.int .i64 (i : Int))), loc := L, rows := [], defs := [], M := M } := by
  intro n
  induction n with
  | zero => intro i at_ b L h0; omega
  | succ n ih =>
    intro i at_ b L h0 h1 hI
    refine CLoop.unroll ?_
    generalize hK : CLoop none Tryd.prog tt esc5 cc5_l0 Q = K
    simp only [cc5_l0, lp5_0]
    refine CWp.seq ?_
    refine CWp.seq ?_
    refine CWp.reg tt_ok ?_
    simp only [go_sem, Nat.reduceAdd, Nat.reduceLeDiff, Nat.reduceMul, Nat.reduceSub, Nat.reduceEqDiff, toks_len]
    refine CWp.cond rfl ?_ ?_ <;> intro hc
    · have hi : i < ts.length := by simpa using hc
      obtain ⟨rfl, hat, hS⟩ := hI hi
      have hskle := skipL_le false (s.drop at_)
      rw [List.length_drop] at hskle
      generalize hoff : at_ + skipL false (s.drop at_) = off at *
      have hol : off ≤ s.length := by omega
      obtain ⟨t, rest, hts, hcov⟩ := cov_of hS rfl hol
      have hti : ts[i]? = some t := by
        have := congrArg (fun l => l[0]?) hts
        simpa using this
      have hrest : ts.drop (i + 1) = rest := by
        have := congrArg (fun l => l.drop 1) hts
        simpa using this
      have hlast : rest = [] ↔ i + 1 = ts.length := by
        rw [← hrest]
        constructor
        · intro e
          have := congrArg List.length e
          simp at this; omega
        · intro e; exact List.drop_eq_nil_of_le (by omega)
      have htk := toks_at ts i t hti
      have hx : (s.take off).drop at_ ++ s.drop off = s.drop at_ := by
        have h1 : (s.take off).drop at_ = (s.drop at_).take (off - at_) := by rw [List.drop_take]
        rw [h1, show s.drop off = (s.drop at_).drop (off - at_) by rw [List.drop_drop]; congr 1; omega, List.take_append_drop]
      obtain ⟨bf, hg1, hg2⟩ := gap_ok false ((s.take off).drop at_) (s.drop off) (by rw [hx, List.length_drop, List.length_take]; omega)
      obtain ⟨k, txt, ta⟩ := t
      have hta : ta = off := hcov.at_
      subst hta
      have hle : ta + txt.length ≤ s.length := hcov.le
      have hcut : (s.take (ta + txt.length)).drop ta = txt := hcov.cut
      have hk4 : decide ((k : Int) = 4) = decide (i + 1 = ts.length) := decide_eq_decide.2 (by have h1 : k = 4 ↔ rest = [] := hcov.last; rw [hlast] at h1; omega)
      have hi4 : decide ((i : Int) = (ts.length : Int) - 1) = decide (i + 1 = ts.length) := decide_eq_decide.2 (by omega)
      have hv4 : decide (txt = []) = decide (i + 1 = ts.length) := decide_eq_decide.2 (by have h1 : k = 4 ↔ rest = [] := hcov.last; have h2 : txt = [] ↔ k = 4 := hcov.void; rw [h2, h1, hlast])
      refine CWp.skip ?_
      simp only [go_sem, Nat.reduceAdd, Nat.reduceLeDiff, Nat.reduceMul, Nat.reduceSub, Nat.reduceEqDiff]
      refine CWp.seq ?_
      refine CWp.block ?_
      refine CWp.seq ?_
      refine CWp.reg tt_ok ?_
      simp only [go_sem, Nat.reduceAdd, Nat.reduceLeDiff, Nat.reduceMul, Nat.reduceSub, Nat.reduceEqDiff, htk, tokA, toks_len, loc_app, loc_set]
      repeat (with_reducible refine And.intro (by first | exact True.intro | assumption | omega | (intros; omega) | (intro hg; simp only [Bool.and_eq_true, Bool.or_eq_true, decide_eq_true_eq, Bool.not_eq_true', decide_eq_false_iff_not] at hg; omega) | (simp only [decide_eq_true_eq, Bool.and_eq_true, Bool.or_eq_true, Bool.not_eq_true', decide_eq_false_iff_not]; omega) | (intros; simp_all; done) | (intros; simp_all; omega)) ?_)
      refine CWp.seq ?_
      refine CWp.seq ?_
      have tn : ((ta : Int) + (txt.length : Int)).toNat = ta + txt.length := by omega
      refine CWp.dreg mixed tt_ok dr5_0 ?_
      repeat (first | with_reducible refine And.intro (by first | exact True.intro | assumption | omega | (intros; omega) | (intro hg; simp only [Bool.and_eq_true, Bool.or_eq_true, decide_eq_true_eq, Bool.not_eq_true', decide_eq_false_iff_not] at hg; omega) | (simp only [decide_eq_true_eq, Bool.and_eq_true, Bool.or_eq_true, Bool.not_eq_true', decide_eq_false_iff_not]; omega) | (intros; simp_all; done) | (intros; simp_all; omega)) ?_ | (with_reducible refine evalD_step ?_; simp only [qval, factOf, pev, St.get, St.put, rd, lp, gval, icmp, scmp, bcmp, arith, quorem, nlB, isNil, bound, fillA, rdL, pickT, pickL, extL, TV.ext, TV.sc, AV.cells, am_one_bool, am_one_int, am_one_str, am_one_nilp, am_one_ptr, am_one_eptr, am_one_sl, am_one_map, am_one_nilmap, am_one_fn, am_one_nilfn, am_one_iface, am_one_niliface, am_one_raw, am_one_agg, am_one_tup, am_one_junk, InR, findS, List.getElem?_cons_succ, List.getElem?_cons_zero, Option.getD_some, Option.getD_none, List.set_cons_succ, List.set_cons_zero, List.map_cons, List.map_nil, List.length_cons, List.length_nil, List.take_succ_cons, List.take_zero, List.drop_succ_cons, List.drop_zero, List.getElem?_nil, and_true, true_and, implies_true, forall_const, Bool.true_and, Bool.and_true, Bool.true_eq_false, Bool.false_eq_true, Option.map_some, Option.map_none, cond_true, cond_false, Bool.not_true, Bool.not_false, if_true, if_false, ite_true, ite_false, decide_true, decide_false, am_cond_false, am_cond_true, am_beq_true, am_beq_false, am_imp_self, am_imp_imp, am_not_imp, am_and_imp, am_and_imp', am_imp_and, am_mem_one, am_mem_cons, am_mem_nil, am_nat_add, Int.toNat_natCast, Nat.le_refl, Nat.reduceAdd, Nat.reduceLeDiff, Nat.reduceMul, Nat.reduceSub, Nat.reduceEqDiff, loc_app, loc_set, tn, hcut]))
      simp only [go_sem, Nat.reduceAdd, Nat.reduceLeDiff, Nat.reduceMul, Nat.reduceSub, Nat.reduceEqDiff]
      have hz1 : decide ((ta : Int) < (at_ : Int)) = false := decide_eq_false (by omega)
      have hz2 : decide ((s.length : Int) < (ta : Int) + (txt.length : Int)) = false := decide_eq_false (by omega)
      refine CWp.cond rfl (fun h => absurd h (by rw [hz1, hz2]; simp)) (fun _ => ?_)
      refine CWp.skip ?_
      simp only [go_sem, Nat.reduceAdd, Nat.reduceLeDiff, Nat.reduceMul, Nat.reduceSub, Nat.reduceEqDiff]
      refine CWp.seq ?_
      refine CWp.seq ?_
      refine CWp.reg tt_ok ?_
      simp only [go_sem, Nat.reduceAdd, Nat.reduceLeDiff, Nat.reduceMul, Nat.reduceSub, Nat.reduceEqDiff, loc_app, toks_len, hk4, hi4, hv4]
      repeat (with_reducible refine And.intro (by first | exact True.intro | assumption | omega | (intros; omega) | (intro hg; simp only [Bool.and_eq_true, Bool.or_eq_true, decide_eq_true_eq, Bool.not_eq_true', decide_eq_false_iff_not] at hg; omega) | (simp only [decide_eq_true_eq, Bool.and_eq_true, Bool.or_eq_true, Bool.not_eq_true', decide_eq_false_iff_not]; omega) | (intros; simp_all; done) | (intros; simp_all; omega)) ?_)
      refine CWp.cond rfl (fun h => absurd h (by simp)) (fun _ => ?_)
      refine CWp.skip ?_
      simp only [go_sem, Nat.reduceAdd, Nat.reduceLeDiff, Nat.reduceMul, Nat.reduceSub, Nat.reduceEqDiff]
      refine CWp.seq ?_
      refine CWp.block ?_
      refine CWp.loop (CLoop.junk (t := lp5_1 (.v (.str s)) (.v (.sl own 3 (toks ts))) (.v (.int .i64 (at_ : Int))) (.v (.bool false)) (.v (.int .i64 (i : Int))) (.lptr L.length 0)) (gap_loop _ _ s (by omega) ta L.length hol _ _ _ (loc_app L _) bf M _ ?_ (ta + 1) at_ false (by omega) (by omega) hg1) (by simp [Junked, lp5_1]))
      simp only [go_sem, lp5_1]
      refine CWp.seq ?_
      refine CWp.seq ?_
      refine CWp.reg tt_ok ?_
      simp only [go_sem, Nat.reduceAdd, Nat.reduceLeDiff, Nat.reduceMul, Nat.reduceSub, Nat.reduceEqDiff, loc_app, hk4]
      have hz3 : (bf && !decide (i + 1 = ts.length)) = false := by
        cases hb : bf with
        | false => rfl
        | true =>
          have h1 : k = 4 := hcov.fin (hg2 hb)
          have h2 : k = 4 ↔ rest = [] := hcov.last
          have h3 := hlast.1 (h2.1 h1)
          simp [h3]
      refine CWp.cond rfl (fun h => absurd h (by rw [hz3]; simp)) (fun _ => ?_)
      refine CWp.skip ?_
      simp only [go_sem, Nat.reduceAdd, Nat.reduceLeDiff, Nat.reduceMul, Nat.reduceSub, Nat.reduceEqDiff]
      refine CWp.reg tt_ok ?_
      simp only [go_sem, Nat.reduceAdd, Nat.reduceLeDiff, Nat.reduceMul, Nat.reduceSub, Nat.reduceEqDiff, loc_app]
      repeat (with_reducible refine And.intro (by first | exact True.intro | assumption | omega | (intros; omega) | (intro hg; simp only [Bool.and_eq_true, Bool.or_eq_true, decide_eq_true_eq, Bool.not_eq_true', decide_eq_false_iff_not] at hg; omega) | (simp only [decide_eq_true_eq, Bool.and_eq_true, Bool.or_eq_true, Bool.not_eq_true', decide_eq_false_iff_not]; omega) | (intros; simp_all; done) | (intros; simp_all; omega)) ?_)
      refine CWp.reg tt_ok ?_
      simp only [go_sem, Nat.reduceAdd, Nat.reduceLeDiff, Nat.reduceMul, Nat.reduceSub, Nat.reduceEqDiff]
      repeat (with_reducible refine And.intro (by first | exact True.intro | assumption | omega | (intros; omega) | (intro hg; simp only [Bool.and_eq_true, Bool.or_eq_true, decide_eq_true_eq, Bool.not_eq_true', decide_eq_false_iff_not] at hg; omega) | (simp only [decide_eq_true_eq, Bool.and_eq_true, Bool.or_eq_true, Bool.not_eq_true', decide_eq_false_iff_not]; omega) | (intros; simp_all; done) | (intros; simp_all; omega)) ?_)
      rw [← hK]
      refine CLoop.junk (t := lp5_0 (.v (.str s)) (.v (.sl own 3 (toks ts))) (.v (.int .i64 ((ta + txt.length : Nat) : Int))) (.v (.bool bf)) (.v (.int .i64 ((i + 1 : Nat) : Int)))) (ih (i + 1) (ta + txt.length) bf _ (by omega) (by omega) ?_) (by simp [Junked, lp5_0])
      intro hlt
      have hne : rest ≠ [] := fun e => by have := hlast.1 e; omega
      refine ⟨?_, hle, ?_⟩
      · cases hb : bf with
        | false => rfl
        | true =>
          have h1 : k = 4 := hcov.fin (hg2 hb)
          have h2 : k = 4 ↔ rest = [] := hcov.last
          exact absurd (h2.1 h1) hne
      · rw [hrest]
        exact hcov.next hne
    · have hi : i = ts.length := by simp at hc; omega
      subst hi
      exact CWp.junk (t := lp5_0 (.v (.str s)) (.v (.sl own 3 (toks ts))) .junk .junk .junk) (CWp.exit (hQ L)) (by simp [Junked, lp5_0])
end Go.Proofs.LxA
