import Derived.Test.YtpephlhhdefdgaaDoorScJ
set_option linter.unusedVariables false
set_option linter.unusedSimpArgs false
set_option maxRecDepth 100000
namespace Go.Proofs.ScA
open Go Go.Am Go.Proofs Go.RowKit
set_option linter.unusedSectionVars false

/-! Pieces between points. -/
def tails : List UInt8 → List (List UInt8)
  | [] => []
  | c :: r => bif decide (c = 46) then r :: tails r else tails r
def ends : List (List UInt8) → List (List UInt8)
  | [] => []
  | x :: r => Lib.join (x :: r) [46] :: ends r
def consHead (c : UInt8) : List (List UInt8) → List (List UInt8)
  | [] => [[c]]
  | h :: t => (c :: h) :: t
def pieces : List UInt8 → List (List UInt8)
  | [] => [[]]
  | c :: r => bif decide (c = 46) then [] :: pieces r else consHead c (pieces r)
theorem pieces_ne (l : List UInt8) : ∃ h t, pieces l = h :: t := by
  cases l with
  | nil => exact ⟨[], [], rfl⟩
  | cons c r =>
    simp only [pieces]
    cases decide (c = 46) with
    | true => exact ⟨_, _, rfl⟩
    | false =>
      simp only [cond_false]
      cases pieces r with
      | nil => exact ⟨_, _, rfl⟩
      | cons h t => exact ⟨_, _, rfl⟩
theorem ends_pieces : ∀ l, ends (pieces l) = l :: tails l
  | [] => by simp [pieces, ends, tails, Lib.join, List.intercalate]
  | c :: r => by
    have ih := ends_pieces r
    obtain ⟨h, t, hp⟩ := pieces_ne r
    simp only [pieces, tails]
    by_cases hc : c = 46
    · subst hc
      simp only [decide_true, cond_true, ends]
      rw [ih]
      have hj : Lib.join (pieces r) [46] = r := by
        rw [hp] at ih ⊢
        simp only [ends, List.cons.injEq] at ih
        exact ih.1
      congr 1
      rw [hp] at hj ⊢
      rw [Lib.join_cons]
      rw [Lib.join_cons] at hj
      simp [Lib.joinTail]
      simpa [Lib.joinTail] using hj
    · simp only [decide_eq_false hc, cond_false]
      rw [hp] at ih ⊢
      simp only [ends, List.cons.injEq] at ih
      simp only [consHead, ends]
      rw [← ih.2]
      congr 1
      rw [Lib.join_cons]
      have h2 := ih.1
      rw [Lib.join_cons] at h2
      rw [List.cons_append, h2]
theorem splitK_cons_ne (c : UInt8) (hc : c ≠ 46) (r : List UInt8) : ∀ k, Lib.splitK [46] 0 k (c :: r) = consHead c (Lib.splitK [46] 0 k r) := by
  intro k
  cases k with
  | zero => rfl
  | succ k =>
    have e1 : Lib.index (c :: r) [46] = if Lib.index r [46] == -1 then -1 else Lib.index r [46] + 1 := by
      have : ([46] : List UInt8).isPrefixOf (c :: r) = false := by
        show (((46 : UInt8) == c) && List.isPrefixOf [] r) = false
        have : ((46 : UInt8) == c) = false := by simpa using Ne.symm hc
        rw [this]; rfl
      have e0 : Lib.index (c :: r) [46] = if ([46] : List UInt8).isPrefixOf (c :: r) = true then 0 else if Lib.index r [46] == -1 then -1 else Lib.index r [46] + 1 := rfl
      rw [e0, this]; rfl
    simp only [Lib.splitK, e1]
    by_cases h : (Lib.index r [46] == -1) = true
    · simp [h, consHead]
    · simp only [h]
      have hge : 0 ≤ Lib.index r [46] := by
        have := Lib.indexByte_ge r 46
        rw [← Lib.index_one] at this
        have h' : Lib.index r [46] ≠ -1 := by simpa using h
        omega
      have h2 : ((Lib.index r [46] + 1) == -1) = false := by
        simp only [beq_eq_false_iff_ne]; omega
      obtain ⟨n, hn⟩ := Int.eq_ofNat_of_zero_le hge
      rw [hn] at h2 ⊢
      have h3 : (((n : Int) + 1).toNat) = n + 1 := by omega
      have h4 : ((n : Int).toNat) = n := by omega
      simp [h2, h3, h4, consHead]
theorem splitK_miss (s : List UInt8) (h : Lib.count s [46] = 0) : Lib.splitK [46] 0 (Lib.count s [46]) s = [s] := by rw [h]; rfl
theorem splitD_pieces : ∀ s, splitD s = pieces s
  | [] => rfl
  | c :: r => by
    have ih := splitD_pieces r
    unfold splitD Lib.split at ih ⊢
    simp only [pieces]
    by_cases hc : c = 46
    · subst hc
      simp only [decide_true, cond_true]
      rw [Lib.count_cons_eq, Nat.add_comm]
      have e1 : Lib.index (46 :: r) [46] = 0 := by simp [Lib.index]
      simp only [Lib.splitK, e1]
      simp only [← ih]
      simp
    · simp only [decide_eq_false hc, cond_false]
      rw [Lib.count_cons_ne _ _ _ hc, splitK_cons_ne c hc, ih]

/-! The last one at which something holds. -/
def lastHit (h : List UInt8 → Bool) : List (List UInt8) → Option (List UInt8)
  | [] => none
  | x :: r => match lastHit h r with
    | some y => some y
    | none => bif h x then some x else none
theorem lastHit_snoc (h : List UInt8 → Bool) (x : List UInt8) : ∀ l, lastHit h (l ++ [x]) = bif h x then some x else lastHit h l
  | [] => by simp only [List.nil_append, lastHit]
  | y :: l => by
    simp only [List.cons_append, lastHit, lastHit_snoc h x l]
    cases h x <;> rfl
def shortP (h : List UInt8 → Bool) (p : List (List UInt8)) : Nat → Option (List UInt8)
  | 0 => none
  | i + 1 => bif h (Lib.join (p.drop i) [46]) then some (Lib.join (p.drop i) [46]) else shortP h p i
theorem ends_at : ∀ (p : List (List UInt8)) (i : Nat) (hi : i < p.length), (ends p)[i]? = some (Lib.join (p.drop i) [46])
  | [], i, hi => by simp at hi
  | x :: r, 0, _ => rfl
  | x :: r, i + 1, hi => by
    simp only [ends, List.getElem?_cons_succ, List.drop_succ_cons]
    exact ends_at r i (by simpa using hi)
theorem ends_len : ∀ p, (ends p).length = p.length
  | [] => rfl
  | x :: r => by simp [ends, ends_len r]
theorem shortP_last (h : List UInt8 → Bool) (p : List (List UInt8)) : ∀ i, i ≤ p.length → shortP h p i = lastHit h ((ends p).take i)
  | 0, _ => rfl
  | i + 1, hi => by
    have e := ends_at p i (by omega)
    rw [List.take_add_one, e]
    simp only [Option.toList_some, lastHit_snoc, shortP]
    rw [shortP_last h p i (by omega)]
def okAt (b : Bool) (l : List UInt8) : Nat → Bool
  | 0 => b
  | j + 1 => decide (l.getD j 0 = 46)
def posG (b : Bool) (l : List UInt8) : Nat → List (List UInt8)
  | 0 => []
  | i + 1 => posG b l i ++ (bif okAt b l i then [l.drop i] else [])
theorem posG_cons (b : Bool) (c : UInt8) (r : List UInt8) : ∀ n, posG b (c :: r) (n + 1) = (bif b then [c :: r] else []) ++ posG (decide (c = 46)) r n
  | 0 => by simp [posG, okAt]
  | n + 1 => by
    rw [posG, posG_cons b c r n, posG, List.append_assoc]
    congr 2
    have : okAt b (c :: r) (n + 1) = okAt (decide (c = 46)) r n := by
      cases n <;> simp [okAt]
    rw [this]; rfl
theorem posG_all (b : Bool) : ∀ l, posG b l (l.length + 1) = (bif b then [l] else []) ++ tails l
  | [] => by simp [posG, okAt, tails]
  | c :: r => by
    rw [List.length_cons, posG_cons, posG_all]
    simp only [tails]
    cases decide (c = 46) <;> simp
def shortR (h : List UInt8 → Bool) (l : List UInt8) : Nat → Option (List UInt8)
  | 0 => none
  | i + 1 => bif decide (0 < i) && !decide (l.getD (i - 1) 0 = 46) then shortR h l i else bif h (l.drop i) then some (l.drop i) else shortR h l i
theorem shortR_last (h : List UInt8 → Bool) (l : List UInt8) : ∀ i, shortR h l i = lastHit h (posG true l i)
  | 0 => rfl
  | i + 1 => by
    have hk : (decide (0 < i) && !decide (l.getD (i - 1) 0 = 46)) = !okAt true l i := by
      cases i with
      | zero => rfl
      | succ j => simp [okAt]
    simp only [shortR, posG, hk]
    cases okAt true l i with
    | true => simp only [Bool.not_true, cond_false, cond_true, lastHit_snoc, shortR_last h l i]
    | false => simp only [Bool.not_false, cond_true, cond_false, List.append_nil, shortR_last h l i]
theorem short_same (h : List UInt8 → Bool) (h0 : h [] = false) (l : List UInt8) : shortP h (splitD l) (splitD l).length = shortR h l l.length := by
  rw [shortP_last _ _ _ (Nat.le_refl _), ← ends_len, List.take_length, splitD_pieces, ends_pieces, shortR_last]
  have e : l :: tails l = posG true l (l.length + 1) := by rw [posG_all]; rfl
  rw [e, posG]
  cases okAt true l l.length with
  | false => simp
  | true =>
    simp only [cond_true, lastHit_snoc, List.drop_length, h0, cond_false]
theorem ends_short (l : List UInt8) : ∀ x ∈ ends (splitD l), x.length ≤ l.length := by
  rw [splitD_pieces, ends_pieces]
  intro x hx
  rcases List.mem_cons.1 hx with rfl | hx
  · exact Nat.le_refl _
  · have : ∀ (l : List UInt8), ∀ x ∈ tails l, x.length ≤ l.length := by
      intro l
      induction l with
      | nil => intro x hx; cases hx
      | cons c r ih =>
        intro x hx
        simp only [tails] at hx
        cases hc : decide (c = 46) with
        | true =>
          rw [hc] at hx
          rcases List.mem_cons.1 hx with rfl | hx
          · simp
          · have := ih x hx; simp; omega
        | false =>
          rw [hc] at hx
          have := ih x hx; simp; omega
    exact this l x hx
theorem splitD_len (l : List UInt8) : (splitD l).length ≤ l.length + 1 := by
  rw [← ends_len, splitD_pieces, ends_pieces]
  have : ∀ (l : List UInt8), (tails l).length ≤ l.length := by
    intro l
    induction l with
    | nil => simp [tails]
    | cons c r ih => simp only [tails]; cases decide (c = 46) <;> simp <;> omega
  simp; exact this l

/-! The walks. -/
def hitS (s : SA) (nm e : List UInt8) : Bool := decide ((resolveM s e).2 = 0) && decide ((resolveM s e).1 = nm)
def shortestM (s : SA) (nm : List UInt8) : List UInt8 × Nat :=
  bif !declaredM s nm then ([], 9) else match shortR (hitS s nm) nm nm.length with
    | some x => (x, 0)
    | none => ([], 24)
theorem hitS_nil (s : SA) (nm : List UInt8) : hitS s nm [] = false := by
  have : resolveM s [] = ([], 29) := rfl
  unfold hitS; rw [this]; rfl

theorem shortR_loop (s : SA) (hs : s.fine) (nm : List UInt8) (hnm : nm.length ≤ 1000) (M : Mem) (Q : AExit → St → Prop) : ∀ (k : Nat), k ≤ nm.length →
    (∀ x, shortR (hitS s nm) nm k = some x → ∀ t, t[4]? = some (.v (.str x)) → t[5]? = some (.v (.int .i64 0)) → Q .ret { tmps := t, loc := [some ((stC s).map .v)], rows := [], defs := [], M := M }) →
    (shortR (hitS s nm) nm k = none → Q (.exit 0) { tmps := lp9_0 (.v (.str nm)) (.lptr 0 0) (.v (.int .i64 (-1))), loc := [some ((stC s).map .v)], rows := [], defs := [], M := M }) →
    CLoop none Tryd.prog tt esc9 cc9_l0 Q { tmps := lp9_0 (.v (.str nm)) (.lptr 0 0) (.v (.int .i64 ((k : Int) - 1))), loc := [some ((stC s).map .v)], rows := [], defs := [], M := M } := by
  intro k
  induction k with
  | zero =>
    intro h1 hQ1 hQ2
    refine CLoop.unroll ?_
    generalize hK : CLoop none Tryd.prog tt esc9 cc9_l0 Q = K
    simp only [cc9_l0, lp9_0, stC]
    repeat (first | refine CWp.seq ?_ | refine CWp.block ?_ | (refine CWp.ret ?_; try simp only [go_sem, Nat.reduceAdd, Nat.reduceLeDiff, Nat.reduceMul, Nat.reduceSub, Nat.reduceEqDiff]) | (refine CWp.skip ?_; try simp only [go_sem, Nat.reduceAdd, Nat.reduceLeDiff, Nat.reduceMul, Nat.reduceSub, Nat.reduceEqDiff]) | (refine CWp.reg tt_ok ?_; simp only [go_sem, Nat.reduceAdd, Nat.reduceLeDiff, Nat.reduceMul, Nat.reduceSub, Nat.reduceEqDiff]))
    refine CWp.cond rfl ?_ ?_ <;> intro hc
    · simp at hc
    · exact CWp.junk (t := lp9_0 (.v (.str nm)) (.lptr 0 0) (.v (.int .i64 (-1)))) (CWp.exit (hQ2 rfl)) (by simp [Junked, lp9_0])
  | succ k ih =>
    intro h1 hQ1 hQ2
    refine CLoop.unroll ?_
    generalize hK : CLoop none Tryd.prog tt esc9 cc9_l0 Q = K
    simp only [cc9_l0, lp9_0, stC]
    repeat (first | refine CWp.seq ?_ | refine CWp.block ?_ | (refine CWp.ret ?_; try simp only [go_sem, Nat.reduceAdd, Nat.reduceLeDiff, Nat.reduceMul, Nat.reduceSub, Nat.reduceEqDiff]) | (refine CWp.skip ?_; try simp only [go_sem, Nat.reduceAdd, Nat.reduceLeDiff, Nat.reduceMul, Nat.reduceSub, Nat.reduceEqDiff]) | (refine CWp.reg tt_ok ?_; simp only [go_sem, Nat.reduceAdd, Nat.reduceLeDiff, Nat.reduceMul, Nat.reduceSub, Nat.reduceEqDiff]))
    refine CWp.cond rfl ?_ ?_ <;> intro hc
    · have ek : (((k + 1 : Nat) : Int) - 1) = (k : Int) := by omega
      simp only [ek]
      simp only [shortR] at hQ1 hQ2
      have next : ∀ t, (∀ x, shortR (hitS s nm) nm k = some x → ∀ t, t[4]? = some (.v (.str x)) → t[5]? = some (.v (.int .i64 0)) → Q .ret { tmps := t, loc := [some ((stC s).map .v)], rows := [], defs := [], M := M }) →
          (shortR (hitS s nm) nm k = none → Q (.exit 0) { tmps := lp9_0 (.v (.str nm)) (.lptr 0 0) (.v (.int .i64 (-1))), loc := [some ((stC s).map .v)], rows := [], defs := [], M := M }) →
          Junked t (lp9_0 (.v (.str nm)) (.lptr 0 0) (.v (.int .i64 ((k : Int) - 1)))) → K { tmps := t, loc := [some ((stC s).map .v)], rows := [], defs := [], M := M } := by
        intro t q1 q2 hj
        rw [← hK]
        exact CLoop.junk (ih (by omega) q1 q2) hj
      simp only [stC] at next hQ1 hQ2
      refine CWp.skip ?_
      simp only [go_sem, Nat.reduceAdd, Nat.reduceLeDiff, Nat.reduceMul, Nat.reduceSub, Nat.reduceEqDiff]
      refine CWp.seq ?_
      refine CWp.block ?_
      refine CWp.seq ?_
      refine CWp.seq ?_
      refine CWp.reg tt_ok ?_
      simp only [go_sem, Nat.reduceAdd, Nat.reduceLeDiff, Nat.reduceMul, Nat.reduceSub, Nat.reduceEqDiff]
      repeat (with_reducible refine And.intro (by first | exact True.intro | assumption | omega | (intros; omega) | (intro hg; simp only [Bool.and_eq_true, Bool.or_eq_true, decide_eq_true_eq, Bool.not_eq_true', decide_eq_false_iff_not] at hg; omega) | (simp only [decide_eq_true_eq, Bool.and_eq_true, Bool.or_eq_true, Bool.not_eq_true', decide_eq_false_iff_not]; omega) | (intros; simp_all; done) | (intros; simp_all; omega)) ?_)
      have kk : (decide (0 < (k : Int)) && !decide ((((nm.getD ((k : Int) - 1).toNat 0).toNat : Nat) : Int) = 46)) = (decide (0 < k) && !decide (nm.getD (k - 1) 0 = 46)) := by
        have e1 : ((k : Int) - 1).toNat = k - 1 := by omega
        have e2 : decide ((0 : Int) < (k : Int)) = decide (0 < k) := decide_eq_decide.2 (by omega)
        rw [e1, e2]
        congr 2
        refine decide_eq_decide.2 ⟨fun h => ?_, fun h => by rw [h]; rfl⟩
        have : (nm.getD (k - 1) 0).toNat = (46 : UInt8).toNat := by
          have : (46 : UInt8).toNat = 46 := rfl
          omega
        exact UInt8.toNat_inj.1 this
      simp only [kk]
      refine CWp.cond rfl ?_ ?_ <;> intro hc2
      · rw [hc2] at hQ1 hQ2
        simp only [cond_true] at hQ1 hQ2
        refine CWp.exit ?_
        simp only [go_sem, Nat.reduceAdd, Nat.reduceLeDiff, Nat.reduceMul, Nat.reduceSub, Nat.reduceEqDiff]
        repeat (first | refine CWp.seq ?_ | refine CWp.block ?_ | (refine CWp.ret ?_; try simp only [go_sem, Nat.reduceAdd, Nat.reduceLeDiff, Nat.reduceMul, Nat.reduceSub, Nat.reduceEqDiff]) | (refine CWp.skip ?_; try simp only [go_sem, Nat.reduceAdd, Nat.reduceLeDiff, Nat.reduceMul, Nat.reduceSub, Nat.reduceEqDiff]) | (refine CWp.reg tt_ok ?_; simp only [go_sem, Nat.reduceAdd, Nat.reduceLeDiff, Nat.reduceMul, Nat.reduceSub, Nat.reduceEqDiff]))
        repeat (with_reducible refine And.intro (by first | exact True.intro | assumption | omega | (intros; omega) | (intro hg; simp only [Bool.and_eq_true, Bool.or_eq_true, decide_eq_true_eq, Bool.not_eq_true', decide_eq_false_iff_not] at hg; omega) | (simp only [decide_eq_true_eq, Bool.and_eq_true, Bool.or_eq_true, Bool.not_eq_true', decide_eq_false_iff_not]; omega) | (intros; simp_all; done) | (intros; simp_all; omega)) ?_)
        exact next _ hQ1 hQ2 (by simp [Junked, lp9_0])
      · rw [hc2] at hQ1 hQ2
        simp only [cond_false] at hQ1 hQ2
        refine CWp.skip ?_
        simp only [go_sem, Nat.reduceAdd, Nat.reduceLeDiff, Nat.reduceMul, Nat.reduceSub, Nat.reduceEqDiff]
        refine CWp.seq ?_
        refine CWp.dreg mixed tt_ok dr9_0 ?_
        repeat (first | with_reducible refine And.intro (by first | exact True.intro | assumption | omega | (intros; omega) | (intro hg; simp only [Bool.and_eq_true, Bool.or_eq_true, decide_eq_true_eq, Bool.not_eq_true', decide_eq_false_iff_not] at hg; omega) | (simp only [decide_eq_true_eq, Bool.and_eq_true, Bool.or_eq_true, Bool.not_eq_true', decide_eq_false_iff_not]; omega) | (intros; simp_all; done) | (intros; simp_all; omega)) ?_ | (with_reducible refine evalD_step ?_; simp only [qval, factOf, pev, St.get, St.put, rd, lp, gval, icmp, scmp, bcmp, arith, quorem, nlB, isNil, bound, fillA, rdL, pickT, pickL, extL, TV.ext, TV.sc, AV.cells, am_one_bool, am_one_int, am_one_str, am_one_nilp, am_one_ptr, am_one_eptr, am_one_sl, am_one_map, am_one_nilmap, am_one_fn, am_one_nilfn, am_one_iface, am_one_niliface, am_one_raw, am_one_agg, am_one_tup, am_one_junk, InR, findS, List.getElem?_cons_succ, List.getElem?_cons_zero, Option.getD_some, Option.getD_none, List.set_cons_succ, List.set_cons_zero, List.map_cons, List.map_nil, List.length_cons, List.length_nil, List.take_succ_cons, List.take_zero, List.drop_succ_cons, List.drop_zero, List.getElem?_nil, and_true, true_and, implies_true, forall_const, Bool.true_and, Bool.and_true, Bool.true_eq_false, Bool.false_eq_true, Option.map_some, Option.map_none, cond_true, cond_false, Bool.not_true, Bool.not_false, if_true, if_false, ite_true, ite_false, decide_true, decide_false, am_cond_false, am_cond_true, am_beq_true, am_beq_false, am_imp_self, am_imp_imp, am_not_imp, am_and_imp, am_and_imp', am_imp_and, am_mem_one, am_mem_cons, am_mem_nil, am_nat_add, Int.toNat_natCast, Nat.le_refl, Nat.reduceAdd, Nat.reduceLeDiff, Nat.reduceMul, Nat.reduceSub, Nat.reduceEqDiff, Nat.le_refl]))
        have hdl : (nm.drop k).length ≤ 1000 := by simp; omega
        have hr := resolveR_spec s hs (nm.drop k) hdl
        simp only [stA, stC] at hr
        have e0 : List.drop (k : Int).toNat (List.take nm.length nm) = nm.drop k := by rw [List.take_length]; rfl
        simp only [e0, Int.toNat_natCast, List.take_length]
        refine evalD_call (DOps.pure tt_ok has7 rfl rfl rfl (by simp) (fun _ => hr) (by simp [facts, memB]) (evalD_sound tt_ok _ _ _ ?_))
        simp only [resA]
        repeat (first | with_reducible refine And.intro (by first | exact True.intro | assumption | omega | (intros; omega) | (intro hg; simp only [Bool.and_eq_true, Bool.or_eq_true, decide_eq_true_eq, Bool.not_eq_true', decide_eq_false_iff_not] at hg; omega) | (simp only [decide_eq_true_eq, Bool.and_eq_true, Bool.or_eq_true, Bool.not_eq_true', decide_eq_false_iff_not]; omega) | (intros; simp_all; done) | (intros; simp_all; omega)) ?_ | (with_reducible refine evalD_step ?_; simp only [qval, factOf, pev, St.get, St.put, rd, lp, gval, icmp, scmp, bcmp, arith, quorem, nlB, isNil, bound, fillA, rdL, pickT, pickL, extL, TV.ext, TV.sc, AV.cells, am_one_bool, am_one_int, am_one_str, am_one_nilp, am_one_ptr, am_one_eptr, am_one_sl, am_one_map, am_one_nilmap, am_one_fn, am_one_nilfn, am_one_iface, am_one_niliface, am_one_raw, am_one_agg, am_one_tup, am_one_junk, InR, findS, List.getElem?_cons_succ, List.getElem?_cons_zero, Option.getD_some, Option.getD_none, List.set_cons_succ, List.set_cons_zero, List.map_cons, List.map_nil, List.length_cons, List.length_nil, List.take_succ_cons, List.take_zero, List.drop_succ_cons, List.drop_zero, List.getElem?_nil, and_true, true_and, implies_true, forall_const, Bool.true_and, Bool.and_true, Bool.true_eq_false, Bool.false_eq_true, Option.map_some, Option.map_none, cond_true, cond_false, Bool.not_true, Bool.not_false, if_true, if_false, ite_true, ite_false, decide_true, decide_false, am_cond_false, am_cond_true, am_beq_true, am_beq_false, am_imp_self, am_imp_imp, am_not_imp, am_and_imp, am_and_imp', am_imp_and, am_mem_one, am_mem_cons, am_mem_nil, am_nat_add, Int.toNat_natCast, Nat.le_refl, Nat.reduceAdd, Nat.reduceLeDiff, Nat.reduceMul, Nat.reduceSub, Nat.reduceEqDiff, Nat.le_refl]))
        simp only [go_sem, Nat.reduceAdd, Nat.reduceLeDiff, Nat.reduceMul, Nat.reduceSub, Nat.reduceEqDiff]
        repeat (first | refine CWp.seq ?_ | refine CWp.block ?_ | (refine CWp.ret ?_; try simp only [go_sem, Nat.reduceAdd, Nat.reduceLeDiff, Nat.reduceMul, Nat.reduceSub, Nat.reduceEqDiff]) | (refine CWp.skip ?_; try simp only [go_sem, Nat.reduceAdd, Nat.reduceLeDiff, Nat.reduceMul, Nat.reduceSub, Nat.reduceEqDiff]) | (refine CWp.reg tt_ok ?_; simp only [go_sem, Nat.reduceAdd, Nat.reduceLeDiff, Nat.reduceMul, Nat.reduceSub, Nat.reduceEqDiff]))
        repeat (with_reducible refine And.intro (by first | exact True.intro | assumption | omega | (intros; omega) | (intro hg; simp only [Bool.and_eq_true, Bool.or_eq_true, decide_eq_true_eq, Bool.not_eq_true', decide_eq_false_iff_not] at hg; omega) | (simp only [decide_eq_true_eq, Bool.and_eq_true, Bool.or_eq_true, Bool.not_eq_true', decide_eq_false_iff_not]; omega) | (intros; simp_all; done) | (intros; simp_all; omega)) ?_)
        have kh : (decide (((resolveM s (nm.drop k)).2 : Int) = 0) && decide ((resolveM s (nm.drop k)).1 = nm)) = hitS s nm (nm.drop k) := by
          unfold hitS
          congr 1
          exact decide_eq_decide.2 (by omega)
        simp only [kh]
        refine CWp.cond rfl ?_ ?_ <;> intro hc3
        · rw [hc3] at hQ1
          repeat (first | refine CWp.seq ?_ | refine CWp.block ?_ | (refine CWp.ret ?_; try simp only [go_sem, Nat.reduceAdd, Nat.reduceLeDiff, Nat.reduceMul, Nat.reduceSub, Nat.reduceEqDiff]) | (refine CWp.skip ?_; try simp only [go_sem, Nat.reduceAdd, Nat.reduceLeDiff, Nat.reduceMul, Nat.reduceSub, Nat.reduceEqDiff]) | (refine CWp.reg tt_ok ?_; simp only [go_sem, Nat.reduceAdd, Nat.reduceLeDiff, Nat.reduceMul, Nat.reduceSub, Nat.reduceEqDiff]))
          repeat (with_reducible refine And.intro (by first | exact True.intro | assumption | omega | (intros; omega) | (intro hg; simp only [Bool.and_eq_true, Bool.or_eq_true, decide_eq_true_eq, Bool.not_eq_true', decide_eq_false_iff_not] at hg; omega) | (simp only [decide_eq_true_eq, Bool.and_eq_true, Bool.or_eq_true, Bool.not_eq_true', decide_eq_false_iff_not]; omega) | (intros; simp_all; done) | (intros; simp_all; omega)) ?_)
          try simp only [Int.toNat_natCast, List.take_length]
          repeat (first | refine CWp.seq ?_ | refine CWp.block ?_ | (refine CWp.ret ?_; try simp only [go_sem, Nat.reduceAdd, Nat.reduceLeDiff, Nat.reduceMul, Nat.reduceSub, Nat.reduceEqDiff]) | (refine CWp.skip ?_; try simp only [go_sem, Nat.reduceAdd, Nat.reduceLeDiff, Nat.reduceMul, Nat.reduceSub, Nat.reduceEqDiff]) | (refine CWp.reg tt_ok ?_; simp only [go_sem, Nat.reduceAdd, Nat.reduceLeDiff, Nat.reduceMul, Nat.reduceSub, Nat.reduceEqDiff]))
          exact hQ1 _ rfl _ rfl rfl
        · rw [hc3] at hQ1 hQ2
          simp only [cond_false] at hQ1 hQ2
          repeat (first | refine CWp.seq ?_ | refine CWp.block ?_ | (refine CWp.ret ?_; try simp only [go_sem, Nat.reduceAdd, Nat.reduceLeDiff, Nat.reduceMul, Nat.reduceSub, Nat.reduceEqDiff]) | (refine CWp.skip ?_; try simp only [go_sem, Nat.reduceAdd, Nat.reduceLeDiff, Nat.reduceMul, Nat.reduceSub, Nat.reduceEqDiff]) | (refine CWp.reg tt_ok ?_; simp only [go_sem, Nat.reduceAdd, Nat.reduceLeDiff, Nat.reduceMul, Nat.reduceSub, Nat.reduceEqDiff]))
          repeat (with_reducible refine And.intro (by first | exact True.intro | assumption | omega | (intros; omega) | (intro hg; simp only [Bool.and_eq_true, Bool.or_eq_true, decide_eq_true_eq, Bool.not_eq_true', decide_eq_false_iff_not] at hg; omega) | (simp only [decide_eq_true_eq, Bool.and_eq_true, Bool.or_eq_true, Bool.not_eq_true', decide_eq_false_iff_not]; omega) | (intros; simp_all; done) | (intros; simp_all; omega)) ?_)
          exact next _ hQ1 hQ2 (by simp [Junked, lp9_0])
    · first | (simp at hc; done) | (simp at hc; omega)

theorem shortestR_spec (s : SA) (hs : s.fine) (nm : List UInt8) (hnm : nm.length ≤ 1000) : Pure Tryd.prog 9 [stA s, .str nm] (resA (shortestM s nm)) := fun M => by
  refine enter9 _ _ ?_
  simp only [cc9]
  refine CWp.seq ?_
  refine CWp.reg tt_ok ?_
  simp only [go_sem, Nat.reduceAdd, Nat.reduceLeDiff, Nat.reduceMul, Nat.reduceSub, Nat.reduceEqDiff, stA, stC]
  repeat (first | refine CWp.seq ?_ | refine CWp.block ?_ | (refine CWp.ret ?_; try simp only [go_sem, Nat.reduceAdd, Nat.reduceLeDiff, Nat.reduceMul, Nat.reduceSub, Nat.reduceEqDiff]) | (refine CWp.skip ?_; try simp only [go_sem, Nat.reduceAdd, Nat.reduceLeDiff, Nat.reduceMul, Nat.reduceSub, Nat.reduceEqDiff]) | (refine CWp.reg tt_ok ?_; simp only [go_sem, Nat.reduceAdd, Nat.reduceLeDiff, Nat.reduceMul, Nat.reduceSub, Nat.reduceEqDiff]))
  have hd := declaredR_spec s hs.1 nm (by omega)
  simp only [stA, stC] at hd
  refine COps.pure has11 rfl rfl (by simp) (fun _ => hd) (evalC_sound tt_ok _ _ ?_)
  simp only [go_sem, Nat.reduceAdd, Nat.reduceLeDiff, Nat.reduceMul, Nat.reduceSub, Nat.reduceEqDiff]
  refine CWp.cond rfl ?_ ?_ <;> intro h0
  · repeat (first | refine CWp.seq ?_ | refine CWp.block ?_ | (refine CWp.ret ?_; try simp only [go_sem, Nat.reduceAdd, Nat.reduceLeDiff, Nat.reduceMul, Nat.reduceSub, Nat.reduceEqDiff]) | (refine CWp.skip ?_; try simp only [go_sem, Nat.reduceAdd, Nat.reduceLeDiff, Nat.reduceMul, Nat.reduceSub, Nat.reduceEqDiff]) | (refine CWp.reg tt_ok ?_; simp only [go_sem, Nat.reduceAdd, Nat.reduceLeDiff, Nat.reduceMul, Nat.reduceSub, Nat.reduceEqDiff]))
    refine Fin.ret2 (.inl rfl) rfl rfl rfl rfl (Mem.sub.refl _) ⟨?_, rfl⟩
    simp only [shortestM, h0, cond_true]; rfl
  · repeat (first | refine CWp.seq ?_ | refine CWp.block ?_ | (refine CWp.ret ?_; try simp only [go_sem, Nat.reduceAdd, Nat.reduceLeDiff, Nat.reduceMul, Nat.reduceSub, Nat.reduceEqDiff]) | (refine CWp.skip ?_; try simp only [go_sem, Nat.reduceAdd, Nat.reduceLeDiff, Nat.reduceMul, Nat.reduceSub, Nat.reduceEqDiff]) | (refine CWp.reg tt_ok ?_; simp only [go_sem, Nat.reduceAdd, Nat.reduceLeDiff, Nat.reduceMul, Nat.reduceSub, Nat.reduceEqDiff]))
    repeat (with_reducible refine And.intro (by first | exact True.intro | assumption | omega | (intros; omega) | (intro hg; simp only [Bool.and_eq_true, Bool.or_eq_true, decide_eq_true_eq, Bool.not_eq_true', decide_eq_false_iff_not] at hg; omega) | (simp only [decide_eq_true_eq, Bool.and_eq_true, Bool.or_eq_true, Bool.not_eq_true', decide_eq_false_iff_not]; omega) | (intros; simp_all; done) | (intros; simp_all; omega)) ?_)
    refine CWp.block ?_
    refine CWp.loop (CLoop.junk (t := lp9_0 (.v (.str nm)) (.lptr 0 0) (.v (.int .i64 ((nm.length : Int) - 1)))) (shortR_loop s hs nm hnm M _ nm.length (Nat.le_refl _) ?_ ?_) (by simp [Junked, lp9_0]))
    · intro x hx t h4 h5
      simp only [go_sem, Nat.reduceAdd, Nat.reduceLeDiff, Nat.reduceMul, Nat.reduceSub, Nat.reduceEqDiff]
      refine Fin.ret2 (.inl rfl) rfl rfl (by rw [h4]; rfl) (by rw [h5]; rfl) (Mem.sub.refl _) ⟨?_, rfl⟩
      simp only [shortestM, h0, hx, cond_false]; rfl
    · intro hx
      simp only [go_sem, Nat.reduceAdd, Nat.reduceLeDiff, Nat.reduceMul, Nat.reduceSub, Nat.reduceEqDiff, lp9_0]
      repeat (first | refine CWp.seq ?_ | refine CWp.block ?_ | (refine CWp.ret ?_; try simp only [go_sem, Nat.reduceAdd, Nat.reduceLeDiff, Nat.reduceMul, Nat.reduceSub, Nat.reduceEqDiff]) | (refine CWp.skip ?_; try simp only [go_sem, Nat.reduceAdd, Nat.reduceLeDiff, Nat.reduceMul, Nat.reduceSub, Nat.reduceEqDiff]) | (refine CWp.reg tt_ok ?_; simp only [go_sem, Nat.reduceAdd, Nat.reduceLeDiff, Nat.reduceMul, Nat.reduceSub, Nat.reduceEqDiff]))
      refine Fin.ret2 (.inl rfl) rfl rfl rfl rfl (Mem.sub.refl _) ⟨?_, rfl⟩
      simp only [shortestM, h0, hx, cond_false]; rfl

theorem ends_loop (own : Own) (p : List (List UInt8)) (hp : p.length ≤ 2000) (hj : ∀ i, (Lib.join (p.drop i) [46]).length ≤ 2000) (hit : List UInt8 → Bool) (l : Nat) (MI : Mem) (R : List UInt8 → Mem → Prop)
    (hy : ∀ i, i < p.length → AYields Tryd.prog l [.str (Lib.join (p.drop i) [46])] MI fun e M' => (e = .ret (.bool true) ∧ hit (Lib.join (p.drop i) [46]) = false ∧ M' = MI) ∨ (e = .ret (.bool false) ∧ hit (Lib.join (p.drop i) [46]) = true ∧ R (Lib.join (p.drop i) [46]) M'))
    (Q : AExit → St → Prop) : ∀ (k : Nat), k ≤ p.length →
    (∀ x, shortP hit p k = some x → ∀ t M', R x M' → Q .ret { tmps := t, loc := [], rows := [], defs := [], M := M' }) →
    (shortP hit p k = none → ∀ t, Q (.exit 0) { tmps := t, loc := [], rows := [], defs := [], M := MI }) →
    CLoop none Tryd.prog tt esc26 cc26_l0 Q { tmps := lp26_0 (.v (.sl own 1 (strs p))) (.v (.fn (.yield l) [] [])) (.v (.int .i64 ((k : Int) - 1))), loc := [], rows := [], defs := [], M := MI } := by
  intro k
  induction k with
  | zero =>
    intro h1 hQ1 hQ2
    refine CLoop.unroll ?_
    generalize hK : CLoop none Tryd.prog tt esc26 cc26_l0 Q = K
    simp only [cc26_l0, lp26_0]
    repeat (first | refine CWp.seq ?_ | refine CWp.block ?_ | (refine CWp.ret ?_; try simp only [go_sem, Nat.reduceAdd, Nat.reduceLeDiff, Nat.reduceMul, Nat.reduceSub, Nat.reduceEqDiff]) | (refine CWp.skip ?_; try simp only [go_sem, Nat.reduceAdd, Nat.reduceLeDiff, Nat.reduceMul, Nat.reduceSub, Nat.reduceEqDiff]) | (refine CWp.reg tt_ok ?_; simp only [go_sem, Nat.reduceAdd, Nat.reduceLeDiff, Nat.reduceMul, Nat.reduceSub, Nat.reduceEqDiff]))
    refine CWp.cond rfl ?_ ?_ <;> intro hc
    · simp at hc
    · exact CWp.exit (hQ2 rfl _)
  | succ k ih =>
    intro h1 hQ1 hQ2
    refine CLoop.unroll ?_
    generalize hK : CLoop none Tryd.prog tt esc26 cc26_l0 Q = K
    simp only [cc26_l0, lp26_0]
    repeat (first | refine CWp.seq ?_ | refine CWp.block ?_ | (refine CWp.ret ?_; try simp only [go_sem, Nat.reduceAdd, Nat.reduceLeDiff, Nat.reduceMul, Nat.reduceSub, Nat.reduceEqDiff]) | (refine CWp.skip ?_; try simp only [go_sem, Nat.reduceAdd, Nat.reduceLeDiff, Nat.reduceMul, Nat.reduceSub, Nat.reduceEqDiff]) | (refine CWp.reg tt_ok ?_; simp only [go_sem, Nat.reduceAdd, Nat.reduceLeDiff, Nat.reduceMul, Nat.reduceSub, Nat.reduceEqDiff]))
    refine CWp.cond rfl ?_ ?_ <;> intro hc
    · have ek : (((k + 1 : Nat) : Int) - 1) = (k : Int) := by omega
      simp only [ek]
      simp only [shortP] at hQ1 hQ2
      refine CWp.skip ?_
      simp only [go_sem, Nat.reduceAdd, Nat.reduceLeDiff, Nat.reduceMul, Nat.reduceSub, Nat.reduceEqDiff]
      refine CWp.seq ?_
      refine CWp.block ?_
      refine CWp.seq ?_
      refine CWp.reg tt_ok ?_
      simp only [go_sem, Nat.reduceAdd, Nat.reduceLeDiff, Nat.reduceMul, Nat.reduceSub, Nat.reduceEqDiff, strs_len]
      repeat (with_reducible refine And.intro (by first | exact True.intro | assumption | omega | (intros; omega) | (intro hg; simp only [Bool.and_eq_true, Bool.or_eq_true, decide_eq_true_eq, Bool.not_eq_true', decide_eq_false_iff_not] at hg; omega) | (simp only [decide_eq_true_eq, Bool.and_eq_true, Bool.or_eq_true, Bool.not_eq_true', decide_eq_false_iff_not]; omega) | (intros; simp_all; done) | (intros; simp_all; omega)) ?_)
      have et : List.drop k (List.take p.length (strs p)) = strs (p.drop k) := by
        rw [← strs_drop]
        congr 1
        rw [← strs_len p, List.take_length]
      try simp only [Int.toNat_natCast]
      simp only [et]
      have hjj := join_spec .no (p.drop k) [46] (by simp; omega) (by have := hj k; omega)
      refine COps.pure has36 rfl rfl (by simp) (fun _ => hjj) (evalC_sound tt_ok _ _ ?_)
      simp only [go_sem, Nat.reduceAdd, Nat.reduceLeDiff, Nat.reduceMul, Nat.reduceSub, Nat.reduceEqDiff]
      refine COps.yield rfl rfl (by simp) ((hy k (by omega)).mono ?_)
      rintro x M' (⟨rfl, hh, rfl⟩ | ⟨rfl, hh, hR⟩)
      · refine evalC_sound tt_ok _ _ ?_
        rw [hh] at hQ1 hQ2
        simp only [cond_false] at hQ1 hQ2
        simp only [go_sem, Nat.reduceAdd, Nat.reduceLeDiff, Nat.reduceMul, Nat.reduceSub, Nat.reduceEqDiff]
        refine CWp.cond rfl (fun h => by cases h) fun _ => ?_
        repeat (first | refine CWp.seq ?_ | refine CWp.block ?_ | (refine CWp.ret ?_; try simp only [go_sem, Nat.reduceAdd, Nat.reduceLeDiff, Nat.reduceMul, Nat.reduceSub, Nat.reduceEqDiff]) | (refine CWp.skip ?_; try simp only [go_sem, Nat.reduceAdd, Nat.reduceLeDiff, Nat.reduceMul, Nat.reduceSub, Nat.reduceEqDiff]) | (refine CWp.reg tt_ok ?_; simp only [go_sem, Nat.reduceAdd, Nat.reduceLeDiff, Nat.reduceMul, Nat.reduceSub, Nat.reduceEqDiff]))
        repeat (with_reducible refine And.intro (by first | exact True.intro | assumption | omega | (intros; omega) | (intro hg; simp only [Bool.and_eq_true, Bool.or_eq_true, decide_eq_true_eq, Bool.not_eq_true', decide_eq_false_iff_not] at hg; omega) | (simp only [decide_eq_true_eq, Bool.and_eq_true, Bool.or_eq_true, Bool.not_eq_true', decide_eq_false_iff_not]; omega) | (intros; simp_all; done) | (intros; simp_all; omega)) ?_)
        rw [← hK]
        exact CLoop.junk (t := lp26_0 (.v (.sl own 1 (strs p))) (.v (.fn (.yield l) [] [])) (.v (.int .i64 ((k : Int) - 1)))) (ih (by omega) hQ1 hQ2) (by simp [Junked, lp26_0])
      · refine evalC_sound tt_ok _ _ ?_
        rw [hh] at hQ1
        simp only [go_sem, Nat.reduceAdd, Nat.reduceLeDiff, Nat.reduceMul, Nat.reduceSub, Nat.reduceEqDiff]
        refine CWp.cond rfl (fun _ => ?_) (fun h => by cases h)
        repeat (first | refine CWp.seq ?_ | refine CWp.block ?_ | (refine CWp.ret ?_; try simp only [go_sem, Nat.reduceAdd, Nat.reduceLeDiff, Nat.reduceMul, Nat.reduceSub, Nat.reduceEqDiff]) | (refine CWp.skip ?_; try simp only [go_sem, Nat.reduceAdd, Nat.reduceLeDiff, Nat.reduceMul, Nat.reduceSub, Nat.reduceEqDiff]) | (refine CWp.reg tt_ok ?_; simp only [go_sem, Nat.reduceAdd, Nat.reduceLeDiff, Nat.reduceMul, Nat.reduceSub, Nat.reduceEqDiff]))
        exact hQ1 _ rfl _ _ hR
    · first | (simp at hc; done) | (simp at hc; omega)

theorem ends_iter (own : Own) (p : List (List UInt8)) (hp : p.length ≤ 2000) (hj : ∀ i, (Lib.join (p.drop i) [46]).length ≤ 2000) (hit : List UInt8 → Bool) (l : Nat) (MI : Mem) (R : List UInt8 → Mem → Prop)
    (hy : ∀ i, i < p.length → AYields Tryd.prog l [.str (Lib.join (p.drop i) [46])] MI fun e M' => (e = .ret (.bool true) ∧ hit (Lib.join (p.drop i) [46]) = false ∧ M' = MI) ∨ (e = .ret (.bool false) ∧ hit (Lib.join (p.drop i) [46]) = true ∧ R (Lib.join (p.drop i) [46]) M')) :
    ACalls Tryd.prog 26 [.sl own 1 (strs p), .fn (.yield l) [] []] MI fun e M' => e = .ret (.tup []) ∧ ((shortP hit p p.length = none ∧ M' = MI) ∨ ∃ x, shortP hit p p.length = some x ∧ R x M') := by
  refine enter26 _ _ ?_
  simp only [cc26]
  refine CWp.seq ?_
  refine CWp.reg tt_ok ?_
  simp only [go_sem, Nat.reduceAdd, Nat.reduceLeDiff, Nat.reduceMul, Nat.reduceSub, Nat.reduceEqDiff, strs_len]
  repeat (with_reducible refine And.intro (by first | exact True.intro | assumption | omega | (intros; omega) | (intro hg; simp only [Bool.and_eq_true, Bool.or_eq_true, decide_eq_true_eq, Bool.not_eq_true', decide_eq_false_iff_not] at hg; omega) | (simp only [decide_eq_true_eq, Bool.and_eq_true, Bool.or_eq_true, Bool.not_eq_true', decide_eq_false_iff_not]; omega) | (intros; simp_all; done) | (intros; simp_all; omega)) ?_)
  refine CWp.block ?_
  refine CWp.loop (CLoop.junk (t := lp26_0 (.v (.sl own 1 (strs p))) (.v (.fn (.yield l) [] [])) (.v (.int .i64 ((p.length : Int) - 1)))) (ends_loop own p hp hj hit l MI R hy _ p.length (Nat.le_refl _) ?_ ?_) (by simp [Junked, lp26_0]))
  · intro x hx t M' hR
    simp only [go_sem, Nat.reduceAdd, Nat.reduceLeDiff, Nat.reduceMul, Nat.reduceSub, Nat.reduceEqDiff]
    exact Fin.ret0 (.inl rfl) rfl rfl (Mem.sub.refl _) ⟨rfl, .inr ⟨x, hx, hR⟩⟩
  · intro hx t
    simp only [go_sem, Nat.reduceAdd, Nat.reduceLeDiff, Nat.reduceMul, Nat.reduceSub, Nat.reduceEqDiff]
    exact Fin.ret0 (.inr rfl) rfl rfl (Mem.sub.refl _) ⟨rfl, .inl ⟨hx, rfl⟩⟩
end Go.Proofs.ScA
