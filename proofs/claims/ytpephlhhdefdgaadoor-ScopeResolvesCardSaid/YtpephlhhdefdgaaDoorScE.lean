import Derived.Test.YtpephlhhdefdgaaDoorScD
set_option linter.unusedVariables false
set_option linter.unusedSimpArgs false
set_option maxRecDepth 100000
namespace Go.Proofs.ScA
open Go Go.Am Go.Proofs Go.RowKit
set_option linter.unusedSectionVars false

/-- A cell of which nothing more is known. -/
structure One where
  v : AV
  h : v.one = true
theorem One.one (o : One) : o.v.one = true := o.h
attribute [go_sem] One.one

structure CA where
  name : List UInt8
  c1 : One
  c2 : One
  c3 : One
  c4 : One
  c5 : One
def ctorC (c : CA) : List AV := [.str c.name, c.c1.v, c.c2.v, c.c3.v, c.c4.v, c.c5.v]
def ctorA (c : CA) : AV := .agg (ctorC c)
structure FA where
  name : List UInt8
  c1 : One
  c2 : One
  c3 : One
  c4 : One
  c5 : One
  c6 : One
  c7 : One
  c8 : One
  c9 : One
  c10 : One
  c11 : One
  c12 : One
  c13 : One
  c14 : One
def funC (c : FA) : List AV := [.str c.name, c.c1.v, c.c2.v, c.c3.v, c.c4.v, c.c5.v, c.c6.v, c.c7.v, c.c8.v, c.c9.v, c.c10.v, c.c11.v, c.c12.v, c.c13.v, c.c14.v]
def funA (c : FA) : AV := .agg (funC c)
structure DA where
  kind : Int
  name : List UInt8
  c2 : One
  c3 : One
  c4 : One
  c5 : One
  c6 : One
  c7 : One
  c8 : One
  c9 : One
  c10 : One
  c11 : One
  c12 : One
  c13 : One
  oc : Own
  ctors : List CA
  c15 : One
  c16 : One
  c17 : One
  c18 : One
  c19 : One
  c20 : One
  c21 : One
  ofn : Own
  funs : List FA
def declC (d : DA) : List AV := [.int .i64 d.kind, .str d.name, d.c2.v, d.c3.v, d.c4.v, d.c5.v, d.c6.v, d.c7.v, d.c8.v, d.c9.v, d.c10.v, d.c11.v, d.c12.v, d.c13.v, .sl d.oc 6 (d.ctors.map ctorA), d.c15.v, d.c16.v, d.c17.v, d.c18.v, d.c19.v, d.c20.v, d.c21.v, .sl d.ofn 15 (d.funs.map funA)]
def declA (d : DA) : AV := .agg (declC d)

/-- A declaration's size is bounded. -/
def DA.small (d : DA) : Prop := d.name.length ≤ 1000 ∧ d.ctors.length ≤ 1000 ∧ d.funs.length ≤ 1000 ∧ (∀ c ∈ d.ctors, c.name.length ≤ 1000) ∧ ∀ f ∈ d.funs, f.name.length ≤ 1000

def namesM (d : DA) : List (List UInt8) :=
  bif (decide (d.kind = 0) || decide (d.kind = 1)) || decide (d.kind = 2) then [d.name]
  else bif decide (d.kind = 3) then d.name :: d.ctors.map CA.name ++ [d.name ++ [46, 114, 101, 99]]
  else bif decide (d.kind = 4) then d.funs.map FA.name else []

theorem loc_app {α : Type} (L : List α) (x : α) : (L ++ [x])[L.length]? = some x := by simp
theorem loc_set {α : Type} (L : List α) (x y : α) : (L ++ [x]).set L.length y = L ++ [y] := by simp
theorem loc_0 {α : Type} {L : List α} {x y : α} (h : L[0]? = some y) : (L ++ [x])[0]? = some y := by
  cases L with
  | nil => simp at h
  | cons a L => simpa using h
theorem map_at {α : Type} (f : α → AV) (l : List α) (i : Nat) (h : i < l.length) : (l.map f)[i]? = some (f l[i]) := by simp [h]

theorem names_loop0 (d : DA) (hd : d.small) (M : Mem) (Q : AExit → St → Prop) (pre : List (List UInt8)) (hpre : pre.length ≤ 1000) : ∀ (n i : Nat) (L : List (Option (List TV))), d.ctors.length - i < n → i ≤ d.ctors.length → L[0]? = some (some ((declC d).map .v)) →
    (∀ L' : List (Option (List TV)), L'[0]? = some (some ((declC d).map .v)) → Q (.exit 1) { tmps := lp30_0 (.lptr 0 0) (.lsl 0 1 (strs (pre ++ d.ctors.map CA.name))) (.v (.sl d.oc 6 (d.ctors.map ctorA))) (.v (.int .i64 (d.ctors.length : Int))) (.v (.int .i64 (d.ctors.length : Int))), loc := L', rows := [(9, 1, pre.length + d.ctors.length)], defs := [], M := M }) →
    CLoop none Tryd.prog tt esc30 cc30_l0 Q { tmps := lp30_0 (.lptr 0 0) (.lsl 0 1 (strs (pre ++ (d.ctors.take i).map CA.name))) (.v (.sl d.oc 6 (d.ctors.map ctorA))) (.v (.int .i64 (d.ctors.length : Int))) (.v (.int .i64 (i : Int))), loc := L, rows := [(9, 1, pre.length + i)], defs := [], M := M } := by
  intro n
  induction n with
  | zero => intro i L h0 h1 hL hQ; omega
  | succ n ih =>
    intro i L h0 h1 hL hQ
    refine CLoop.unroll ?_
    generalize hK : CLoop none Tryd.prog tt esc30 cc30_l0 Q = K
    simp only [cc30_l0, lp30_0]
    repeat (first | refine CWp.seq ?_ | refine CWp.block ?_ | (refine CWp.ret ?_; try simp only [go_sem, Nat.reduceAdd, Nat.reduceLeDiff, Nat.reduceMul, Nat.reduceSub, Nat.reduceEqDiff]) | (refine CWp.skip ?_; try simp only [go_sem, Nat.reduceAdd, Nat.reduceLeDiff, Nat.reduceMul, Nat.reduceSub, Nat.reduceEqDiff]) | (refine CWp.reg tt_ok ?_; simp only [go_sem, Nat.reduceAdd, Nat.reduceLeDiff, Nat.reduceMul, Nat.reduceSub, Nat.reduceEqDiff]))
    refine CWp.cond rfl ?_ ?_ <;> intro hc
    · have hi : i < d.ctors.length := by simpa using hc
      have hx := map_at ctorA d.ctors i hi
      have hlen : (d.ctors.map ctorA).length = d.ctors.length := by simp
      have hb := hd.2.2.2.1 d.ctors[i] (List.getElem_mem hi)
      have hcl := hd.2.1
      refine CWp.skip ?_
      simp only [go_sem, Nat.reduceAdd, Nat.reduceLeDiff, Nat.reduceMul, Nat.reduceSub, Nat.reduceEqDiff]
      refine CWp.seq ?_
      refine CWp.block ?_
      refine CWp.seq ?_
      refine CWp.reg tt_ok ?_
      simp only [go_sem, Nat.reduceAdd, Nat.reduceLeDiff, Nat.reduceMul, Nat.reduceSub, Nat.reduceEqDiff, hx, hlen, ctorA, ctorC, loc_app, loc_set]
      repeat (with_reducible refine And.intro (by first | exact True.intro | assumption | omega | (intros; omega) | (intro hg; simp only [Bool.and_eq_true, Bool.or_eq_true, decide_eq_true_eq, Bool.not_eq_true', decide_eq_false_iff_not] at hg; omega) | (simp only [decide_eq_true_eq, Bool.and_eq_true, Bool.or_eq_true, Bool.not_eq_true', decide_eq_false_iff_not]; omega) | (intros; simp_all; done) | (intros; simp_all; omega)) ?_)
      have hle : (strs (pre ++ List.map CA.name (List.take i d.ctors))).length = pre.length + i := by
        rw [strs_len, List.length_append, List.length_map, List.length_take, Nat.min_eq_left (by omega)]
      have hnext : strs (pre ++ List.map CA.name (List.take i d.ctors)) ++ [AV.str d.ctors[i].name] = strs (pre ++ List.map CA.name (List.take (i + 1) d.ctors)) := by
        rw [List.take_add_one, List.getElem?_eq_getElem hi]
        simp only [Option.toList_some, List.map_append, List.map_cons, List.map_nil, strs_append, ← List.append_assoc]
        rfl
      refine CWp.reg tt_ok ?_
      simp only [go_sem, Nat.reduceAdd, Nat.reduceLeDiff, Nat.reduceMul, Nat.reduceSub, Nat.reduceEqDiff, loc_app, loc_set, hle]
      refine ⟨by simp; omega, ?_⟩
      repeat (first | refine CWp.seq ?_ | refine CWp.block ?_ | (refine CWp.ret ?_; try simp only [go_sem, Nat.reduceAdd, Nat.reduceLeDiff, Nat.reduceMul, Nat.reduceSub, Nat.reduceEqDiff]) | (refine CWp.skip ?_; try simp only [go_sem, Nat.reduceAdd, Nat.reduceLeDiff, Nat.reduceMul, Nat.reduceSub, Nat.reduceEqDiff]) | (refine CWp.reg tt_ok ?_; simp only [go_sem, Nat.reduceAdd, Nat.reduceLeDiff, Nat.reduceMul, Nat.reduceSub, Nat.reduceEqDiff]))
      repeat (with_reducible refine And.intro (by first | exact True.intro | assumption | omega | (intros; omega) | (intro hg; simp only [Bool.and_eq_true, Bool.or_eq_true, decide_eq_true_eq, Bool.not_eq_true', decide_eq_false_iff_not] at hg; omega) | (simp only [decide_eq_true_eq, Bool.and_eq_true, Bool.or_eq_true, Bool.not_eq_true', decide_eq_false_iff_not]; omega) | (intros; simp_all; done) | (intros; simp_all; omega)) ?_)
      rw [← hK, hnext]
      exact CLoop.junk (t := lp30_0 (.lptr 0 0) (.lsl 0 1 (strs (pre ++ (d.ctors.take (i + 1)).map CA.name))) (.v (.sl d.oc 6 (d.ctors.map ctorA))) (.v (.int .i64 (d.ctors.length : Int))) (.v (.int .i64 ((i + 1 : Nat) : Int)))) (ih (i + 1) _ (by omega) (by omega) (loc_0 hL) hQ) (by simp [Junked, lp30_0])
    · have hi : i = d.ctors.length := by simp at hc; omega
      subst hi
      exact CWp.junk (t := lp30_0 (.lptr 0 0) (.lsl 0 1 (strs (pre ++ d.ctors.map CA.name))) (.v (.sl d.oc 6 (d.ctors.map ctorA))) (.v (.int .i64 (d.ctors.length : Int))) (.v (.int .i64 (d.ctors.length : Int)))) (CWp.exit (hQ L hL)) (by simp [Junked, lp30_0])

theorem names_loop1 (d : DA) (hd : d.small) (M : Mem) (Q : AExit → St → Prop) : ∀ (n i : Nat) (L : List (Option (List TV))), d.funs.length - i < n → i ≤ d.funs.length →
    (∀ L' : List (Option (List TV)), Q (.exit 3) { tmps := lp30_1 (.lsl 0 1 (strs (d.funs.map FA.name))) (.v (.sl d.ofn 15 (d.funs.map funA))) (.v (.int .i64 (d.funs.length : Int))) (.v (.int .i64 (d.funs.length : Int))), loc := L', rows := [(9, 1, d.funs.length)], defs := [], M := M }) →
    CLoop none Tryd.prog tt esc30 cc30_l1 Q { tmps := lp30_1 (.lsl 0 1 (strs ((d.funs.take i).map FA.name))) (.v (.sl d.ofn 15 (d.funs.map funA))) (.v (.int .i64 (d.funs.length : Int))) (.v (.int .i64 (i : Int))), loc := L, rows := [(9, 1, i)], defs := [], M := M } := by
  intro n
  induction n with
  | zero => intro i L h0 h1 hQ; omega
  | succ n ih =>
    intro i L h0 h1 hQ
    refine CLoop.unroll ?_
    generalize hK : CLoop none Tryd.prog tt esc30 cc30_l1 Q = K
    simp only [cc30_l1, lp30_1]
    repeat (first | refine CWp.seq ?_ | refine CWp.block ?_ | (refine CWp.ret ?_; try simp only [go_sem, Nat.reduceAdd, Nat.reduceLeDiff, Nat.reduceMul, Nat.reduceSub, Nat.reduceEqDiff]) | (refine CWp.skip ?_; try simp only [go_sem, Nat.reduceAdd, Nat.reduceLeDiff, Nat.reduceMul, Nat.reduceSub, Nat.reduceEqDiff]) | (refine CWp.reg tt_ok ?_; simp only [go_sem, Nat.reduceAdd, Nat.reduceLeDiff, Nat.reduceMul, Nat.reduceSub, Nat.reduceEqDiff]))
    refine CWp.cond rfl ?_ ?_ <;> intro hc
    · have hi : i < d.funs.length := by simpa using hc
      have hx := map_at funA d.funs i hi
      have hlen : (d.funs.map funA).length = d.funs.length := by simp
      have hb := hd.2.2.2.2 d.funs[i] (List.getElem_mem hi)
      have hcl := hd.2.2.1
      refine CWp.skip ?_
      simp only [go_sem, Nat.reduceAdd, Nat.reduceLeDiff, Nat.reduceMul, Nat.reduceSub, Nat.reduceEqDiff]
      refine CWp.seq ?_
      refine CWp.block ?_
      refine CWp.seq ?_
      refine CWp.reg tt_ok ?_
      simp only [go_sem, Nat.reduceAdd, Nat.reduceLeDiff, Nat.reduceMul, Nat.reduceSub, Nat.reduceEqDiff, hx, hlen, funA, funC, loc_app, loc_set]
      repeat (with_reducible refine And.intro (by first | exact True.intro | assumption | omega | (intros; omega) | (intro hg; simp only [Bool.and_eq_true, Bool.or_eq_true, decide_eq_true_eq, Bool.not_eq_true', decide_eq_false_iff_not] at hg; omega) | (simp only [decide_eq_true_eq, Bool.and_eq_true, Bool.or_eq_true, Bool.not_eq_true', decide_eq_false_iff_not]; omega) | (intros; simp_all; done) | (intros; simp_all; omega)) ?_)
      have hle : (strs (List.map FA.name (List.take i d.funs))).length = i := by
        rw [strs_len, List.length_map, List.length_take, Nat.min_eq_left (by omega)]
      have hnext : strs (List.map FA.name (List.take i d.funs)) ++ [AV.str d.funs[i].name] = strs (List.map FA.name (List.take (i + 1) d.funs)) := by
        rw [List.take_add_one, List.getElem?_eq_getElem hi]
        simp only [Option.toList_some, List.map_append, List.map_cons, List.map_nil, strs_append, ← List.append_assoc]
        rfl
      refine CWp.reg tt_ok ?_
      simp only [go_sem, Nat.reduceAdd, Nat.reduceLeDiff, Nat.reduceMul, Nat.reduceSub, Nat.reduceEqDiff, loc_app, loc_set, hle]
      refine ⟨by simp; omega, ?_⟩
      repeat (first | refine CWp.seq ?_ | refine CWp.block ?_ | (refine CWp.ret ?_; try simp only [go_sem, Nat.reduceAdd, Nat.reduceLeDiff, Nat.reduceMul, Nat.reduceSub, Nat.reduceEqDiff]) | (refine CWp.skip ?_; try simp only [go_sem, Nat.reduceAdd, Nat.reduceLeDiff, Nat.reduceMul, Nat.reduceSub, Nat.reduceEqDiff]) | (refine CWp.reg tt_ok ?_; simp only [go_sem, Nat.reduceAdd, Nat.reduceLeDiff, Nat.reduceMul, Nat.reduceSub, Nat.reduceEqDiff]))
      repeat (with_reducible refine And.intro (by first | exact True.intro | assumption | omega | (intros; omega) | (intro hg; simp only [Bool.and_eq_true, Bool.or_eq_true, decide_eq_true_eq, Bool.not_eq_true', decide_eq_false_iff_not] at hg; omega) | (simp only [decide_eq_true_eq, Bool.and_eq_true, Bool.or_eq_true, Bool.not_eq_true', decide_eq_false_iff_not]; omega) | (intros; simp_all; done) | (intros; simp_all; omega)) ?_)
      rw [← hK, hnext]
      exact CLoop.junk (t := lp30_1 (.lsl 0 1 (strs ((d.funs.take (i + 1)).map FA.name))) (.v (.sl d.ofn 15 (d.funs.map funA))) (.v (.int .i64 (d.funs.length : Int))) (.v (.int .i64 ((i + 1 : Nat) : Int)))) (ih (i + 1) _ (by omega) (by omega) hQ) (by simp [Junked, lp30_1])
    · have hi : i = d.funs.length := by simp at hc; omega
      subst hi
      refine CWp.junk (t := lp30_1 (.lsl 0 1 (strs (d.funs.map FA.name))) (.v (.sl d.ofn 15 (d.funs.map funA))) (.v (.int .i64 (d.funs.length : Int))) (.v (.int .i64 (d.funs.length : Int)))) (CWp.exit (hQ L)) (by simp [Junked, lp30_1])

theorem names_spec (d : DA) (hd : d.small) (M : Mem) : ACalls Tryd.prog 30 [declA d] M fun e M' => (∃ own, e = .ret (.sl own 1 (strs (namesM d)))) ∧ M' = M := by
  refine enter30 _ ?_
  simp only [cc30]
  refine CWp.seq ?_
  refine CWp.reg tt_ok ?_
  simp only [go_sem, Nat.reduceAdd, Nat.reduceLeDiff, Nat.reduceMul, Nat.reduceSub, Nat.reduceEqDiff, declA, declC]
  refine CWp.seq ?_
  refine CWp.reg tt_ok ?_
  simp only [go_sem, Nat.reduceAdd, Nat.reduceLeDiff, Nat.reduceMul, Nat.reduceSub, Nat.reduceEqDiff]
  refine CWp.own (i := 3) (sz := 1) 9 rfl ?_
  simp only [go_sem, Nat.reduceAdd, Nat.reduceLeDiff, Nat.reduceMul, Nat.reduceSub, Nat.reduceEqDiff]
  repeat (first | refine CWp.seq ?_ | refine CWp.block ?_ | (refine CWp.ret ?_; try simp only [go_sem, Nat.reduceAdd, Nat.reduceLeDiff, Nat.reduceMul, Nat.reduceSub, Nat.reduceEqDiff]) | (refine CWp.skip ?_; try simp only [go_sem, Nat.reduceAdd, Nat.reduceLeDiff, Nat.reduceMul, Nat.reduceSub, Nat.reduceEqDiff]) | (refine CWp.reg tt_ok ?_; simp only [go_sem, Nat.reduceAdd, Nat.reduceLeDiff, Nat.reduceMul, Nat.reduceSub, Nat.reduceEqDiff]))
  have hn := hd.1
  have one : ∀ b : Bool, b = true → ((decide (d.kind = 0) || decide (d.kind = 1)) || decide (d.kind = 2)) = true → namesM d = [d.name] := by
    intro b hb h; simp only [namesM, h, cond_true]
  have fin1 : (((decide (d.kind = 0) || decide (d.kind = 1)) || decide (d.kind = 2)) = true) → ∀ (t : List TV) (L : List (Option (List TV))) r, ((t[2]?).getD TV.junk).ext = some (.sl .no 1 (strs [d.name])) → Am.Fin Tryd.prog Tryd.f30 (fun e M' => (∃ own, e = .ret (.sl own 1 (strs (namesM d)))) ∧ M' = M) .ret { tmps := t, loc := L, rows := r, defs := [], M := M } := by
    intro h t L r ht
    refine Fin.ret1 (.inl rfl) rfl rfl ht (Mem.sub.refl _) ⟨⟨.no, ?_⟩, rfl⟩
    simp only [namesM, h, cond_true]
  refine CWp.cond rfl ?_ ?_ <;> intro h0
  · repeat (first | refine CWp.seq ?_ | refine CWp.block ?_ | (refine CWp.ret ?_; try simp only [go_sem, Nat.reduceAdd, Nat.reduceLeDiff, Nat.reduceMul, Nat.reduceSub, Nat.reduceEqDiff]) | (refine CWp.skip ?_; try simp only [go_sem, Nat.reduceAdd, Nat.reduceLeDiff, Nat.reduceMul, Nat.reduceSub, Nat.reduceEqDiff]) | (refine CWp.reg tt_ok ?_; simp only [go_sem, Nat.reduceAdd, Nat.reduceLeDiff, Nat.reduceMul, Nat.reduceSub, Nat.reduceEqDiff]))
    refine CWp.cond rfl ?_ ?_ <;> intro hx
    · repeat (first | refine CWp.seq ?_ | refine CWp.block ?_ | (refine CWp.ret ?_; try simp only [go_sem, Nat.reduceAdd, Nat.reduceLeDiff, Nat.reduceMul, Nat.reduceSub, Nat.reduceEqDiff]) | (refine CWp.skip ?_; try simp only [go_sem, Nat.reduceAdd, Nat.reduceLeDiff, Nat.reduceMul, Nat.reduceSub, Nat.reduceEqDiff]) | (refine CWp.reg tt_ok ?_; simp only [go_sem, Nat.reduceAdd, Nat.reduceLeDiff, Nat.reduceMul, Nat.reduceSub, Nat.reduceEqDiff]))
      refine ⟨by simp, ?_⟩
      repeat (first | refine CWp.seq ?_ | refine CWp.block ?_ | (refine CWp.ret ?_; try simp only [go_sem, Nat.reduceAdd, Nat.reduceLeDiff, Nat.reduceMul, Nat.reduceSub, Nat.reduceEqDiff]) | (refine CWp.skip ?_; try simp only [go_sem, Nat.reduceAdd, Nat.reduceLeDiff, Nat.reduceMul, Nat.reduceSub, Nat.reduceEqDiff]) | (refine CWp.reg tt_ok ?_; simp only [go_sem, Nat.reduceAdd, Nat.reduceLeDiff, Nat.reduceMul, Nat.reduceSub, Nat.reduceEqDiff]))
      exact fin1 (by simp [h0]) _ _ _ rfl
    · rw [h0] at hx; cases hx
  · repeat (first | refine CWp.seq ?_ | refine CWp.block ?_ | (refine CWp.ret ?_; try simp only [go_sem, Nat.reduceAdd, Nat.reduceLeDiff, Nat.reduceMul, Nat.reduceSub, Nat.reduceEqDiff]) | (refine CWp.skip ?_; try simp only [go_sem, Nat.reduceAdd, Nat.reduceLeDiff, Nat.reduceMul, Nat.reduceSub, Nat.reduceEqDiff]) | (refine CWp.reg tt_ok ?_; simp only [go_sem, Nat.reduceAdd, Nat.reduceLeDiff, Nat.reduceMul, Nat.reduceSub, Nat.reduceEqDiff]))
    refine CWp.cond rfl ?_ ?_ <;> intro h1
    · repeat (first | refine CWp.seq ?_ | refine CWp.block ?_ | (refine CWp.ret ?_; try simp only [go_sem, Nat.reduceAdd, Nat.reduceLeDiff, Nat.reduceMul, Nat.reduceSub, Nat.reduceEqDiff]) | (refine CWp.skip ?_; try simp only [go_sem, Nat.reduceAdd, Nat.reduceLeDiff, Nat.reduceMul, Nat.reduceSub, Nat.reduceEqDiff]) | (refine CWp.reg tt_ok ?_; simp only [go_sem, Nat.reduceAdd, Nat.reduceLeDiff, Nat.reduceMul, Nat.reduceSub, Nat.reduceEqDiff]))
      refine CWp.cond rfl ?_ ?_ <;> intro hx
      · repeat (first | refine CWp.seq ?_ | refine CWp.block ?_ | (refine CWp.ret ?_; try simp only [go_sem, Nat.reduceAdd, Nat.reduceLeDiff, Nat.reduceMul, Nat.reduceSub, Nat.reduceEqDiff]) | (refine CWp.skip ?_; try simp only [go_sem, Nat.reduceAdd, Nat.reduceLeDiff, Nat.reduceMul, Nat.reduceSub, Nat.reduceEqDiff]) | (refine CWp.reg tt_ok ?_; simp only [go_sem, Nat.reduceAdd, Nat.reduceLeDiff, Nat.reduceMul, Nat.reduceSub, Nat.reduceEqDiff]))
        refine ⟨by simp, ?_⟩
        repeat (first | refine CWp.seq ?_ | refine CWp.block ?_ | (refine CWp.ret ?_; try simp only [go_sem, Nat.reduceAdd, Nat.reduceLeDiff, Nat.reduceMul, Nat.reduceSub, Nat.reduceEqDiff]) | (refine CWp.skip ?_; try simp only [go_sem, Nat.reduceAdd, Nat.reduceLeDiff, Nat.reduceMul, Nat.reduceSub, Nat.reduceEqDiff]) | (refine CWp.reg tt_ok ?_; simp only [go_sem, Nat.reduceAdd, Nat.reduceLeDiff, Nat.reduceMul, Nat.reduceSub, Nat.reduceEqDiff]))
        exact fin1 (by simp [h1]) _ _ _ rfl
      · rw [h1] at hx; cases hx
    · repeat (first | refine CWp.seq ?_ | refine CWp.block ?_ | (refine CWp.ret ?_; try simp only [go_sem, Nat.reduceAdd, Nat.reduceLeDiff, Nat.reduceMul, Nat.reduceSub, Nat.reduceEqDiff]) | (refine CWp.skip ?_; try simp only [go_sem, Nat.reduceAdd, Nat.reduceLeDiff, Nat.reduceMul, Nat.reduceSub, Nat.reduceEqDiff]) | (refine CWp.reg tt_ok ?_; simp only [go_sem, Nat.reduceAdd, Nat.reduceLeDiff, Nat.reduceMul, Nat.reduceSub, Nat.reduceEqDiff]))
      refine CWp.cond rfl ?_ ?_ <;> intro h2
      · repeat (first | refine CWp.seq ?_ | refine CWp.block ?_ | (refine CWp.ret ?_; try simp only [go_sem, Nat.reduceAdd, Nat.reduceLeDiff, Nat.reduceMul, Nat.reduceSub, Nat.reduceEqDiff]) | (refine CWp.skip ?_; try simp only [go_sem, Nat.reduceAdd, Nat.reduceLeDiff, Nat.reduceMul, Nat.reduceSub, Nat.reduceEqDiff]) | (refine CWp.reg tt_ok ?_; simp only [go_sem, Nat.reduceAdd, Nat.reduceLeDiff, Nat.reduceMul, Nat.reduceSub, Nat.reduceEqDiff]))
        refine ⟨by simp, ?_⟩
        repeat (first | refine CWp.seq ?_ | refine CWp.block ?_ | (refine CWp.ret ?_; try simp only [go_sem, Nat.reduceAdd, Nat.reduceLeDiff, Nat.reduceMul, Nat.reduceSub, Nat.reduceEqDiff]) | (refine CWp.skip ?_; try simp only [go_sem, Nat.reduceAdd, Nat.reduceLeDiff, Nat.reduceMul, Nat.reduceSub, Nat.reduceEqDiff]) | (refine CWp.reg tt_ok ?_; simp only [go_sem, Nat.reduceAdd, Nat.reduceLeDiff, Nat.reduceMul, Nat.reduceSub, Nat.reduceEqDiff]))
        exact fin1 (by simp [h2]) _ _ _ rfl
      · repeat (first | refine CWp.seq ?_ | refine CWp.block ?_ | (refine CWp.ret ?_; try simp only [go_sem, Nat.reduceAdd, Nat.reduceLeDiff, Nat.reduceMul, Nat.reduceSub, Nat.reduceEqDiff]) | (refine CWp.skip ?_; try simp only [go_sem, Nat.reduceAdd, Nat.reduceLeDiff, Nat.reduceMul, Nat.reduceSub, Nat.reduceEqDiff]) | (refine CWp.reg tt_ok ?_; simp only [go_sem, Nat.reduceAdd, Nat.reduceLeDiff, Nat.reduceMul, Nat.reduceSub, Nat.reduceEqDiff]))
        refine CWp.cond rfl ?_ ?_ <;> intro h3
        · repeat (first | refine CWp.seq ?_ | refine CWp.block ?_ | (refine CWp.ret ?_; try simp only [go_sem, Nat.reduceAdd, Nat.reduceLeDiff, Nat.reduceMul, Nat.reduceSub, Nat.reduceEqDiff]) | (refine CWp.skip ?_; try simp only [go_sem, Nat.reduceAdd, Nat.reduceLeDiff, Nat.reduceMul, Nat.reduceSub, Nat.reduceEqDiff]) | (refine CWp.reg tt_ok ?_; simp only [go_sem, Nat.reduceAdd, Nat.reduceLeDiff, Nat.reduceMul, Nat.reduceSub, Nat.reduceEqDiff]))
          refine ⟨by simp, ?_⟩
          repeat (first | refine CWp.seq ?_ | refine CWp.block ?_ | (refine CWp.ret ?_; try simp only [go_sem, Nat.reduceAdd, Nat.reduceLeDiff, Nat.reduceMul, Nat.reduceSub, Nat.reduceEqDiff]) | (refine CWp.skip ?_; try simp only [go_sem, Nat.reduceAdd, Nat.reduceLeDiff, Nat.reduceMul, Nat.reduceSub, Nat.reduceEqDiff]) | (refine CWp.reg tt_ok ?_; simp only [go_sem, Nat.reduceAdd, Nat.reduceLeDiff, Nat.reduceMul, Nat.reduceSub, Nat.reduceEqDiff]))
          have hcl : (d.ctors.map ctorA).length = d.ctors.length := by simp
          simp only [hcl]
          refine CWp.loop (CLoop.junk (t := lp30_0 (.lptr 0 0) (.lsl 0 1 (strs ([d.name] ++ (d.ctors.take 0).map CA.name))) (.v (.sl d.oc 6 (d.ctors.map ctorA))) (.v (.int .i64 (d.ctors.length : Int))) (.v (.int .i64 ((0 : Nat) : Int)))) (names_loop0 d hd M _ [d.name] (by simp) (d.ctors.length + 1) 0 _ (by omega) (by omega) rfl ?_) (by simp [Junked, lp30_0, strs]))
          intro L' hL'
          simp only [declC, List.map_cons, List.map_nil] at hL'
          have hlen : (strs ([d.name] ++ List.map CA.name d.ctors)).length = d.ctors.length + 1 := by simp [strs]
          have hcl2 := hd.2.1
          simp only [go_sem, Nat.reduceAdd, Nat.reduceLeDiff, Nat.reduceMul, Nat.reduceSub, Nat.reduceEqDiff, lp30_0]
          repeat (first | refine CWp.seq ?_ | refine CWp.block ?_ | (refine CWp.ret ?_; try simp only [go_sem, Nat.reduceAdd, Nat.reduceLeDiff, Nat.reduceMul, Nat.reduceSub, Nat.reduceEqDiff]) | (refine CWp.skip ?_; try simp only [go_sem, Nat.reduceAdd, Nat.reduceLeDiff, Nat.reduceMul, Nat.reduceSub, Nat.reduceEqDiff]) | (refine CWp.reg tt_ok ?_; simp only [go_sem, Nat.reduceAdd, Nat.reduceLeDiff, Nat.reduceMul, Nat.reduceSub, Nat.reduceEqDiff]))
          simp only [go_sem, Nat.reduceAdd, Nat.reduceLeDiff, Nat.reduceMul, Nat.reduceSub, Nat.reduceEqDiff, hL', hlen]
          repeat (with_reducible refine And.intro (by first | exact True.intro | assumption | omega | (intros; omega) | (intro hg; simp only [Bool.and_eq_true, Bool.or_eq_true, decide_eq_true_eq, Bool.not_eq_true', decide_eq_false_iff_not] at hg; omega) | (simp only [decide_eq_true_eq, Bool.and_eq_true, Bool.or_eq_true, Bool.not_eq_true', decide_eq_false_iff_not]; omega) | (intros; simp_all; done) | (intros; simp_all; omega)) ?_)
          repeat (first | refine CWp.seq ?_ | refine CWp.block ?_ | (refine CWp.ret ?_; try simp only [go_sem, Nat.reduceAdd, Nat.reduceLeDiff, Nat.reduceMul, Nat.reduceSub, Nat.reduceEqDiff]) | (refine CWp.skip ?_; try simp only [go_sem, Nat.reduceAdd, Nat.reduceLeDiff, Nat.reduceMul, Nat.reduceSub, Nat.reduceEqDiff]) | (refine CWp.reg tt_ok ?_; simp only [go_sem, Nat.reduceAdd, Nat.reduceLeDiff, Nat.reduceMul, Nat.reduceSub, Nat.reduceEqDiff]))
          refine Fin.ret1 (.inl rfl) rfl rfl rfl (Mem.sub.refl _) ⟨⟨.no, ?_⟩, rfl⟩
          have e : namesM d = d.name :: d.ctors.map CA.name ++ [d.name ++ [46, 114, 101, 99]] := by
            simp only [namesM, h0, h1, h2, h3, Bool.or_self, cond_false, cond_true]
          rw [e, strs_append]
          rfl
        · repeat (first | refine CWp.seq ?_ | refine CWp.block ?_ | (refine CWp.ret ?_; try simp only [go_sem, Nat.reduceAdd, Nat.reduceLeDiff, Nat.reduceMul, Nat.reduceSub, Nat.reduceEqDiff]) | (refine CWp.skip ?_; try simp only [go_sem, Nat.reduceAdd, Nat.reduceLeDiff, Nat.reduceMul, Nat.reduceSub, Nat.reduceEqDiff]) | (refine CWp.reg tt_ok ?_; simp only [go_sem, Nat.reduceAdd, Nat.reduceLeDiff, Nat.reduceMul, Nat.reduceSub, Nat.reduceEqDiff]))
          refine CWp.cond rfl ?_ ?_ <;> intro h4
          · repeat (first | refine CWp.seq ?_ | refine CWp.block ?_ | (refine CWp.ret ?_; try simp only [go_sem, Nat.reduceAdd, Nat.reduceLeDiff, Nat.reduceMul, Nat.reduceSub, Nat.reduceEqDiff]) | (refine CWp.skip ?_; try simp only [go_sem, Nat.reduceAdd, Nat.reduceLeDiff, Nat.reduceMul, Nat.reduceSub, Nat.reduceEqDiff]) | (refine CWp.reg tt_ok ?_; simp only [go_sem, Nat.reduceAdd, Nat.reduceLeDiff, Nat.reduceMul, Nat.reduceSub, Nat.reduceEqDiff]))
            have hcl : (d.funs.map funA).length = d.funs.length := by simp
            simp only [hcl]
            refine CWp.loop (CLoop.junk (t := lp30_1 (.lsl 0 1 (strs ((d.funs.take 0).map FA.name))) (.v (.sl d.ofn 15 (d.funs.map funA))) (.v (.int .i64 (d.funs.length : Int))) (.v (.int .i64 ((0 : Nat) : Int)))) (names_loop1 d hd M _ (d.funs.length + 1) 0 _ (by omega) (by omega) ?_) (by simp [Junked, lp30_1, strs]))
            intro L'
            simp only [go_sem, Nat.reduceAdd, Nat.reduceLeDiff, Nat.reduceMul, Nat.reduceSub, Nat.reduceEqDiff, lp30_1]
            repeat (first | refine CWp.seq ?_ | refine CWp.block ?_ | (refine CWp.ret ?_; try simp only [go_sem, Nat.reduceAdd, Nat.reduceLeDiff, Nat.reduceMul, Nat.reduceSub, Nat.reduceEqDiff]) | (refine CWp.skip ?_; try simp only [go_sem, Nat.reduceAdd, Nat.reduceLeDiff, Nat.reduceMul, Nat.reduceSub, Nat.reduceEqDiff]) | (refine CWp.reg tt_ok ?_; simp only [go_sem, Nat.reduceAdd, Nat.reduceLeDiff, Nat.reduceMul, Nat.reduceSub, Nat.reduceEqDiff]))
            refine Fin.ret1 (.inl rfl) rfl rfl rfl (Mem.sub.refl _) ⟨⟨.no, ?_⟩, rfl⟩
            have e : namesM d = d.funs.map FA.name := by
              simp only [namesM, h0, h1, h2, h3, h4, Bool.or_self, cond_false, cond_true]
            rw [e]
          · repeat (first | refine CWp.seq ?_ | refine CWp.block ?_ | (refine CWp.ret ?_; try simp only [go_sem, Nat.reduceAdd, Nat.reduceLeDiff, Nat.reduceMul, Nat.reduceSub, Nat.reduceEqDiff]) | (refine CWp.skip ?_; try simp only [go_sem, Nat.reduceAdd, Nat.reduceLeDiff, Nat.reduceMul, Nat.reduceSub, Nat.reduceEqDiff]) | (refine CWp.reg tt_ok ?_; simp only [go_sem, Nat.reduceAdd, Nat.reduceLeDiff, Nat.reduceMul, Nat.reduceSub, Nat.reduceEqDiff]))
            refine Fin.ret1 (.inl rfl) rfl rfl rfl (Mem.sub.refl _) ⟨⟨.no, ?_⟩, rfl⟩
            have e : namesM d = [] := by
              simp only [namesM, h0, h1, h2, h3, h4, Bool.or_self, cond_false]
            rw [e]; rfl
end Go.Proofs.ScA
