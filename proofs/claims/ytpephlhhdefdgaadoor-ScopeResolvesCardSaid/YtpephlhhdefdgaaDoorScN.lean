import Derived.Test.YtpephlhhdefdgaaDoorScM
set_option linter.unusedVariables false
set_option linter.unusedSimpArgs false
set_option maxRecDepth 100000
namespace Go.Proofs.ScA
open Go Go.Am Go.Proofs Go.RowKit
set_option linter.unusedSectionVars false

def zI : One := ⟨.int .i64 0, rfl⟩
def zS : One := ⟨.str [], rfl⟩
def zL (n : Nat) : One := ⟨.sl .full n [], rfl⟩
def zeroD (nm : List UInt8) : DA := { kind := 0, name := nm, c2 := zI, c3 := zI, c4 := zI, c5 := zS, c6 := zL 2, c7 := zL 5, c8 := zI, c9 := zI, c10 := zS, c11 := zL 2, c12 := zL 5, c13 := zI, oc := .full, ctors := [], c15 := zI, c16 := zI, c17 := zI, c18 := zS, c19 := zL 2, c20 := zL 5, c21 := zL 5, ofn := .full, funs := [] }
def empS (o : Own) (env : List DA) : SA := { o0 := o, env := env, c1 := zL 2, o2 := .full, classes := [], o3 := .full, insts := [], c4 := zL 4, o5 := .full, ns := [], o6 := .full, opens := [] }

theorem set_w_b {M : Mem} {r t : Nat} {o : AObj} : (M.set (.w t) o) (.b r) = M (.b r) := Mem.set_other _ _ _ _ (by simp)
theorem mem4 (M : Mem) (t r : Nat) (a b c d : AObj) : (((M.set (.w t) a).set (.b r) b).set (.w t) c).set (.b r) d = (M.set (.w t) c).set (.b r) d := by
  rw [Mem.set_comm _ (.b r) (.w t) b c (by simp), Mem.set_set, Mem.set_set]

theorem state_loop (own : Own) (l : List (List UInt8)) (hl : l.length ≤ 1000) (t r : Nat) (x2 : TV) (L : List (Option (List TV))) (M : Mem) (Q : AExit → St → Prop) : ∀ (n i : Nat), l.length - i < n → i ≤ l.length →
    Q (.exit 0) { tmps := lp17_0 x2 (.v (.ptr r 0)) (.v (.sl own 1 (strs l))) (.v (.int .i64 (l.length : Int))) (.v (.int .i64 (l.length : Int))), loc := L, rows := [], defs := [], M := (M.set (.w t) (.row 46 23 l.length)).set (.b r) (.cells (stC (empS (.srow t) (l.map zeroD)))) } →
    CLoop none Tryd.prog tt esc17 cc17_l0 Q { tmps := lp17_0 x2 (.v (.ptr r 0)) (.v (.sl own 1 (strs l))) (.v (.int .i64 (l.length : Int))) (.v (.int .i64 (i : Int))), loc := L, rows := [], defs := [], M := (M.set (.w t) (.row 46 23 i)).set (.b r) (.cells (stC (empS (.srow t) ((l.take i).map zeroD)))) } := by
  intro n
  induction n with
  | zero => intro i h0 h1 hQ; omega
  | succ n ih =>
    intro i h0 h1 hQ
    refine CLoop.unroll ?_
    generalize hK : CLoop none Tryd.prog tt esc17 cc17_l0 Q = K
    simp only [cc17_l0, lp17_0]
    repeat (first | refine CWp.seq ?_ | refine CWp.block ?_ | (refine CWp.ret ?_; try simp only [go_sem, Nat.reduceAdd, Nat.reduceLeDiff, Nat.reduceMul, Nat.reduceSub, Nat.reduceEqDiff]) | (refine CWp.skip ?_; try simp only [go_sem, Nat.reduceAdd, Nat.reduceLeDiff, Nat.reduceMul, Nat.reduceSub, Nat.reduceEqDiff]) | (refine CWp.reg tt_ok ?_; simp only [go_sem, Nat.reduceAdd, Nat.reduceLeDiff, Nat.reduceMul, Nat.reduceSub, Nat.reduceEqDiff]))
    refine CWp.cond rfl ?_ ?_ <;> intro hc
    · have hi : i < l.length := by simpa using hc
      have hx := strs_at l i l[i] (List.getElem?_eq_getElem hi)
      have hlen : (((l.take i).map zeroD).map declA).length = i := by simp; omega
      refine CWp.skip ?_
      simp only [go_sem, Nat.reduceAdd, Nat.reduceLeDiff, Nat.reduceMul, Nat.reduceSub, Nat.reduceEqDiff]
      refine CWp.seq ?_
      refine CWp.block ?_
      refine CWp.seq ?_
      refine CWp.reg tt_ok ?_
      simp only [go_sem, Nat.reduceAdd, Nat.reduceLeDiff, Nat.reduceMul, Nat.reduceSub, Nat.reduceEqDiff, hx, strs_len]
      repeat (with_reducible refine And.intro (by first | exact True.intro | assumption | omega | (intros; omega) | (intro hg; simp only [Bool.and_eq_true, Bool.or_eq_true, decide_eq_true_eq, Bool.not_eq_true', decide_eq_false_iff_not] at hg; omega) | (simp only [decide_eq_true_eq, Bool.and_eq_true, Bool.or_eq_true, Bool.not_eq_true', decide_eq_false_iff_not]; omega) | (intros; simp_all; done) | (intros; simp_all; omega)) ?_)
      refine CWp.reg tt_ok ?_
      simp only [go_sem, Nat.reduceAdd, Nat.reduceLeDiff, Nat.reduceMul, Nat.reduceSub, Nat.reduceEqDiff, Mem.set_same, Mem.set_w, set_w_b, stC, empS, hlen]
      repeat (with_reducible refine And.intro (by first | exact True.intro | assumption | omega | (intros; omega) | (intro hg; simp only [Bool.and_eq_true, Bool.or_eq_true, decide_eq_true_eq, Bool.not_eq_true', decide_eq_false_iff_not] at hg; omega) | (simp only [decide_eq_true_eq, Bool.and_eq_true, Bool.or_eq_true, Bool.not_eq_true', decide_eq_false_iff_not]; omega) | (intros; simp_all; done) | (intros; simp_all; omega)) ?_)
      repeat (first | refine CWp.seq ?_ | refine CWp.block ?_ | (refine CWp.ret ?_; try simp only [go_sem, Nat.reduceAdd, Nat.reduceLeDiff, Nat.reduceMul, Nat.reduceSub, Nat.reduceEqDiff]) | (refine CWp.skip ?_; try simp only [go_sem, Nat.reduceAdd, Nat.reduceLeDiff, Nat.reduceMul, Nat.reduceSub, Nat.reduceEqDiff]) | (refine CWp.reg tt_ok ?_; simp only [go_sem, Nat.reduceAdd, Nat.reduceLeDiff, Nat.reduceMul, Nat.reduceSub, Nat.reduceEqDiff]))
      repeat (with_reducible refine And.intro (by first | exact True.intro | assumption | omega | (intros; omega) | (intro hg; simp only [Bool.and_eq_true, Bool.or_eq_true, decide_eq_true_eq, Bool.not_eq_true', decide_eq_false_iff_not] at hg; omega) | (simp only [decide_eq_true_eq, Bool.and_eq_true, Bool.or_eq_true, Bool.not_eq_true', decide_eq_false_iff_not]; omega) | (intros; simp_all; done) | (intros; simp_all; omega)) ?_)
      rw [← hK, mem4]
      have hnext : List.map declA (List.map zeroD (List.take i l)) ++ [declA (zeroD l[i])] = List.map declA (List.map zeroD (List.take (i + 1) l)) := by
        rw [List.take_add_one, List.getElem?_eq_getElem hi]
        simp only [Option.toList_some, List.map_append, List.map_cons, List.map_nil]
      have hih := ih (i + 1) (by omega) (by omega) hQ
      simp only [stC, empS] at hih
      rw [← hnext] at hih
      exact CLoop.junk (t := lp17_0 x2 (.v (.ptr r 0)) (.v (.sl own 1 (strs l))) (.v (.int .i64 (l.length : Int))) (.v (.int .i64 ((i + 1 : Nat) : Int)))) hih (by simp [Junked, lp17_0])
    · have hi : i = l.length := by simp at hc; omega
      subst hi
      rw [List.take_length]
      exact CWp.junk (t := lp17_0 x2 (.v (.ptr r 0)) (.v (.sl own 1 (strs l))) (.v (.int .i64 (l.length : Int))) (.v (.int .i64 (l.length : Int)))) (CWp.exit hQ) (by simp [Junked, lp17_0])

theorem state_spec (own : Own) (l : List (List UInt8)) (hl : l.length ≤ 1000) (M : Mem) : ACalls Tryd.prog 17 [.sl own 1 (strs l)] M fun e M' => ∃ t, e = .ret (stA (empS (.srow t) (l.map zeroD))) ∧ M' = M := by
  refine enter17 _ ?_
  simp only [cc17]
  refine CWp.seq ?_
  refine CWp.reg tt_ok ?_
  simp only [go_sem, Nat.reduceAdd, Nat.reduceLeDiff, Nat.reduceMul, Nat.reduceSub, Nat.reduceEqDiff]
  refine CWp.seq ?_
  refine CWp.reg tt_ok ?_
  simp only [go_sem, Nat.reduceAdd, Nat.reduceLeDiff, Nat.reduceMul, Nat.reduceSub, Nat.reduceEqDiff]
  intro r hr
  refine CWp.ownM (r := r) (k := 0) (sz := 23) 46 (Mem.set_same _ _ _) rfl ?_
  intro t ht
  have ht : M (.w t) = none := by
    have h2 := ht
    simp only at h2
    exact (Mem.set_none h2).2
  have hm : ((M.set (.b r) (.cells [.sl .full 23 [], .sl .full 2 [], .sl .full 1 [], .sl .full 1 [], .sl .full 4 [], .sl .full 1 [], .sl .full 1 []])).set (.w t) (.row 46 23 0)).set (.b r) (.cells (stC (empS (.srow t) (([] : List (List UInt8)).map zeroD)))) = (M.set (.w t) (.row 46 23 0)).set (.b r) (.cells (stC (empS (.srow t) (([] : List (List UInt8)).map zeroD)))) := by
    rw [Mem.set_comm _ (.b r) (.w t) _ _ (by simp), Mem.set_set]
  refine CWp.seq ?_
  refine CWp.seq ?_
  refine CWp.reg tt_ok ?_
  simp only [go_sem, Nat.reduceAdd, Nat.reduceLeDiff, Nat.reduceMul, Nat.reduceSub, Nat.reduceEqDiff, strs_len]
  refine CWp.block ?_
  have hl0 := state_loop own l hl t r (.lptr 0 0) [some [.v (.sl .full 23 []), .v (.sl .full 2 []), .v (.sl .full 1 []), .v (.sl .full 1 []), .v (.sl .full 4 []), .v (.sl .full 1 []), .v (.sl .full 1 [])]] M
  refine CWp.loop (CLoop.junk (t := lp17_0 (.lptr 0 0) (.v (.ptr r 0)) (.v (.sl own 1 (strs l))) (.v (.int .i64 (l.length : Int))) (.v (.int .i64 ((0 : Nat) : Int)))) (hm ▸ hl0 _ (l.length + 1) 0 (by omega) (by omega) ?_) (by simp [Junked, lp17_0]))
  simp only [go_sem, Nat.reduceAdd, Nat.reduceLeDiff, Nat.reduceMul, Nat.reduceSub, Nat.reduceEqDiff, lp17_0]
  refine CWp.seq ?_
  refine CWp.reg tt_ok ?_
  simp only [go_sem, Nat.reduceAdd, Nat.reduceLeDiff, Nat.reduceMul, Nat.reduceSub, Nat.reduceEqDiff, Mem.set_same, stC, empS]
  refine CWp.ret ?_
  refine Fin.cell1 (M' := M) (.inl rfl) Tryd.results17 tok27 rfl rfl rfl rfl rfl ?_ ⟨t, rfl, rfl⟩
  exact ((Mem.sub.refl M).set_new ht).set_new hr

theorem in_spec (s : SA) (o o' : Own) (l op : List (List UInt8)) (r : Nat) (M : Mem) (hM : M (.b r) = some (.cells (stC s))) :
    ACalls Tryd.prog 18 [.sl o 1 (strs l), .sl o' 1 (strs op), .ptr r 0] M fun e M' => e = .ret (stA { s with o5 := o, ns := l, o6 := o', opens := op }) ∧ M' = M := by
  refine enter18 _ _ _ ?_
  simp only [cc18]
  refine CWp.seq ?_
  refine CWp.reg tt_ok ?_
  simp only [go_sem, Nat.reduceAdd, Nat.reduceLeDiff, Nat.reduceMul, Nat.reduceSub, Nat.reduceEqDiff]
  refine CWp.seq ?_
  refine CWp.reg tt_ok ?_
  simp only [go_sem, Nat.reduceAdd, Nat.reduceLeDiff, Nat.reduceMul, Nat.reduceSub, Nat.reduceEqDiff, hM, stC]
  refine CWp.seq ?_
  refine CWp.reg tt_ok ?_
  simp only [go_sem, Nat.reduceAdd, Nat.reduceLeDiff, Nat.reduceMul, Nat.reduceSub, Nat.reduceEqDiff]
  refine CWp.seq ?_
  refine CWp.reg tt_ok ?_
  simp only [go_sem, Nat.reduceAdd, Nat.reduceLeDiff, Nat.reduceMul, Nat.reduceSub, Nat.reduceEqDiff]
  refine CWp.ret ?_
  refine Fin.cell1 (M' := M) (.inl rfl) Tryd.results18 tok27 rfl rfl rfl rfl rfl (Mem.sub.refl _) ⟨rfl, rfl⟩
end Go.Proofs.ScA
