import Derived.Test.YticifcoffgoajaaDoorLxNA
import Derived.Test.YticifcoffgoajaaDoorLxPG
set_option linter.unusedVariables false
set_option linter.unusedSimpArgs false
set_option maxRecDepth 100000
namespace Go.Proofs.LxA
open Go Go.Am Go.Proofs Go.RowKit
set_option linter.unusedSectionVars false

theorem tmodN (a n : Nat) : (a : Int).tmod (n : Int) = ((a % n : Nat) : Int) := by
  rw [Int.tmod_eq_emod_of_nonneg (by omega)]; rfl
theorem letters_at (x : Nat) (hx : x < 11) : (List.take (x + 1) ([97, 98, 99, 88, 89, 90, 95, 48, 49, 57, 39] : List UInt8)).drop x = [lettersL.getD x 0] := cut_one lettersL x hx
theorem letters_mem (x : Nat) (hx : x < 11) : lettersL.getD x 0 ∈ lettersL := by
  have : lettersL.getD x 0 = lettersL[x] := by
    rw [List.getD_eq_getElem?_getD, List.getElem?_eq_getElem (show x < lettersL.length from hx)]; rfl
  rw [this]; exact List.getElem_mem _
theorem letters_six (x : Nat) (hx : x < 6) : lettersL.getD x 0 ∈ lettersL.take 6 := by
  have h : ∀ x < 6, lettersL.getD x 0 ∈ lettersL.take 6 := by decide
  exact h x hx
theorem NameLike.add {s : List UInt8} (h : NameLike s) {c : UInt8} (hc : c ∈ lettersL) : NameLike (s ++ [c]) := by
  obtain ⟨d, l, rfl, hd⟩ := h.head
  refine ⟨⟨d, l ++ [c], rfl, hd⟩, fun x hx => ?_⟩
  rcases List.mem_append.1 hx with hx | hx
  · exact h.all x hx
  · simp at hx; subst hx; exact hc

theorem name_loop2 (x2 : TV) (a b : Nat) (ha : a ≤ 255) (hb : b ≤ 255) (M : Mem) (Q : AExit → St → Prop) (hQ : ∀ s, NameLike s → s.length = a % 70 + 1 → Q (.exit 0) { tmps := lp8_0 .junk .junk x2 .junk (.v (.str s)) .junk, loc := [], rows := [], defs := [], M := M }) : ∀ (n i : Nat) (s : List UInt8), a % 70 + 1 - i < n → i ≤ a % 70 + 1 → NameLike s → s.length = i →
    CLoop none Tryd.prog tt esc8 cc8_l0 Q { tmps := lp8_0 (.v (.int .u8 (a : Int))) (.v (.int .u8 (b : Int))) x2 (.v (.str [97, 98, 99, 88, 89, 90, 95, 48, 49, 57, 39])) (.v (.str s)) (.v (.int .i64 (i : Int))), loc := [], rows := [], defs := [], M := M } := by
  intro n
  induction n with
  | zero => intro i s h0; omega
  | succ n ih =>
    intro i s h0 h1 hs hl
    have m1 : (a : Int).tmod 70 = ((a % 70 : Nat) : Int) := tmodN a 70
    have ha70 : a % 70 < 70 := Nat.mod_lt _ (by omega)
    have m2 : ((i : Int) * 7 + (b : Int)).tmod 11 = (((i * 7 + b) % 11 : Nat) : Int) := by
      have := tmodN (i * 7 + b) 11
      rw [← this]; congr 1
    have hx11 : (i * 7 + b) % 11 < 11 := Nat.mod_lt _ (by omega)
    generalize hx : (i * 7 + b) % 11 = x at *
    have tn : ((x : Int) + 1).toNat = x + 1 := by omega
    have hat : List.drop x (97 :: List.take x ([98, 99, 88, 89, 90, 95, 48, 49, 57, 39] : List UInt8)) = [lettersL.getD x 0] := letters_at x hx11
    refine CLoop.unroll ?_
    generalize hK : CLoop none Tryd.prog tt esc8 cc8_l0 Q = K
    simp only [cc8_l0, lp8_0]
    refine CWp.seq ?_
    refine CWp.seq ?_
    refine CWp.reg tt_ok ?_
    simp only [go_sem, Nat.reduceAdd, Nat.reduceLeDiff, Nat.reduceMul, Nat.reduceSub, Nat.reduceEqDiff, quorem, m1]
    repeat (with_reducible refine And.intro (by first | exact True.intro | assumption | omega | (intros; omega) | (intro hg; simp only [Bool.and_eq_true, Bool.or_eq_true, decide_eq_true_eq, Bool.not_eq_true', decide_eq_false_iff_not] at hg; omega) | (simp only [decide_eq_true_eq, Bool.and_eq_true, Bool.or_eq_true, Bool.not_eq_true', decide_eq_false_iff_not]; omega) | (intros; simp_all; done) | (intros; simp_all; omega)) ?_)
    refine CWp.cond rfl ?_ ?_ <;> intro hc
    · have hi : i < a % 70 + 1 := by have := of_decide_eq_true hc; omega
      refine CWp.skip ?_
      simp only [go_sem, Nat.reduceAdd, Nat.reduceLeDiff, Nat.reduceMul, Nat.reduceSub, Nat.reduceEqDiff]
      refine CWp.seq ?_
      refine CWp.block ?_
      refine CWp.reg tt_ok ?_
      simp only [go_sem, Nat.reduceAdd, Nat.reduceLeDiff, Nat.reduceMul, Nat.reduceSub, Nat.reduceEqDiff, quorem, m2, tn, hat]
      repeat (with_reducible refine And.intro (by first | exact True.intro | assumption | omega | (intros; omega) | (intro hg; simp only [Bool.and_eq_true, Bool.or_eq_true, decide_eq_true_eq, Bool.not_eq_true', decide_eq_false_iff_not] at hg; omega) | (simp only [decide_eq_true_eq, Bool.and_eq_true, Bool.or_eq_true, Bool.not_eq_true', decide_eq_false_iff_not]; omega) | (intros; simp_all; done) | (intros; simp_all; omega)) ?_)
      refine CWp.reg tt_ok ?_
      simp only [go_sem, Nat.reduceAdd, Nat.reduceLeDiff, Nat.reduceMul, Nat.reduceSub, Nat.reduceEqDiff]
      repeat (with_reducible refine And.intro (by first | exact True.intro | assumption | omega | (intros; omega) | (intro hg; simp only [Bool.and_eq_true, Bool.or_eq_true, decide_eq_true_eq, Bool.not_eq_true', decide_eq_false_iff_not] at hg; omega) | (simp only [decide_eq_true_eq, Bool.and_eq_true, Bool.or_eq_true, Bool.not_eq_true', decide_eq_false_iff_not]; omega) | (intros; simp_all; done) | (intros; simp_all; omega)) ?_)
      rw [← hK]
      exact CLoop.junk (t := lp8_0 (.v (.int .u8 (a : Int))) (.v (.int .u8 (b : Int))) x2 (.v (.str [97, 98, 99, 88, 89, 90, 95, 48, 49, 57, 39])) (.v (.str (s ++ [lettersL.getD x 0]))) (.v (.int .i64 ((i + 1 : Nat) : Int)))) (ih (i + 1) _ (by omega) (by omega) (hs.add (letters_mem x hx11)) (by simp [hl])) (by simp [Junked, lp8_0])
    · have hi : i = a % 70 + 1 := by have := of_decide_eq_false hc; omega
      exact CWp.junk (t := lp8_0 .junk .junk x2 .junk (.v (.str s)) .junk) (CWp.exit (hQ s hs (by omega))) (by simp [Junked, lp8_0])

theorem num_loop (d : Nat) (hd : d ≤ 255) (M : Mem) (Q : AExit → St → Prop) (hQ : Q (.exit 2) { tmps := lp8_1 .junk (.v (.str (List.replicate (d % 9 + 1) 55))) .junk, loc := [], rows := [], defs := [], M := M }) : ∀ (n i : Nat), d % 9 + 1 - i < n → i ≤ d % 9 + 1 →
    CLoop none Tryd.prog tt esc8 cc8_l1 Q { tmps := lp8_1 (.v (.int .u8 (d : Int))) (.v (.str (List.replicate i 55))) (.v (.int .i64 (i : Int))), loc := [], rows := [], defs := [], M := M } := by
  intro n
  induction n with
  | zero => intro i h0; omega
  | succ n ih =>
    intro i h0 h1
    have m1 : (d : Int).tmod 9 = ((d % 9 : Nat) : Int) := tmodN d 9
    have hd9 : d % 9 < 9 := Nat.mod_lt _ (by omega)
    refine CLoop.unroll ?_
    generalize hK : CLoop none Tryd.prog tt esc8 cc8_l1 Q = K
    simp only [cc8_l1, lp8_1]
    refine CWp.seq ?_
    refine CWp.seq ?_
    refine CWp.reg tt_ok ?_
    simp only [go_sem, Nat.reduceAdd, Nat.reduceLeDiff, Nat.reduceMul, Nat.reduceSub, Nat.reduceEqDiff, quorem, m1]
    repeat (with_reducible refine And.intro (by first | exact True.intro | assumption | omega | (intros; omega) | (intro hg; simp only [Bool.and_eq_true, Bool.or_eq_true, decide_eq_true_eq, Bool.not_eq_true', decide_eq_false_iff_not] at hg; omega) | (simp only [decide_eq_true_eq, Bool.and_eq_true, Bool.or_eq_true, Bool.not_eq_true', decide_eq_false_iff_not]; omega) | (intros; simp_all; done) | (intros; simp_all; omega)) ?_)
    refine CWp.cond rfl ?_ ?_ <;> intro hc
    · have hi : i < d % 9 + 1 := by have := of_decide_eq_true hc; omega
      have hr : List.replicate i (55 : UInt8) ++ [55] = List.replicate (i + 1) 55 := by rw [List.replicate_succ']
      have hrl : (List.replicate i (55 : UInt8)).length = i := List.length_replicate
      refine CWp.skip ?_
      simp only [go_sem, Nat.reduceAdd, Nat.reduceLeDiff, Nat.reduceMul, Nat.reduceSub, Nat.reduceEqDiff]
      refine CWp.seq ?_
      refine CWp.block ?_
      refine CWp.reg tt_ok ?_
      simp only [go_sem, Nat.reduceAdd, Nat.reduceLeDiff, Nat.reduceMul, Nat.reduceSub, Nat.reduceEqDiff, hr, hrl]
      repeat (with_reducible refine And.intro (by first | exact True.intro | assumption | omega | (intros; omega) | (intro hg; simp only [Bool.and_eq_true, Bool.or_eq_true, decide_eq_true_eq, Bool.not_eq_true', decide_eq_false_iff_not] at hg; omega) | (simp only [decide_eq_true_eq, Bool.and_eq_true, Bool.or_eq_true, Bool.not_eq_true', decide_eq_false_iff_not]; omega) | (intros; simp_all; done) | (intros; simp_all; omega)) ?_)
      refine CWp.reg tt_ok ?_
      simp only [go_sem, Nat.reduceAdd, Nat.reduceLeDiff, Nat.reduceMul, Nat.reduceSub, Nat.reduceEqDiff]
      repeat (with_reducible refine And.intro (by first | exact True.intro | assumption | omega | (intros; omega) | (intro hg; simp only [Bool.and_eq_true, Bool.or_eq_true, decide_eq_true_eq, Bool.not_eq_true', decide_eq_false_iff_not] at hg; omega) | (simp only [decide_eq_true_eq, Bool.and_eq_true, Bool.or_eq_true, Bool.not_eq_true', decide_eq_false_iff_not]; omega) | (intros; simp_all; done) | (intros; simp_all; omega)) ?_)
      rw [← hK]
      exact CLoop.junk (t := lp8_1 (.v (.int .u8 (d : Int))) (.v (.str (List.replicate (i + 1) 55))) (.v (.int .i64 ((i + 1 : Nat) : Int)))) (ih (i + 1) (by omega) (by omega)) (by simp [Junked, lp8_1, List.replicate_succ])
    · have hi : i = d % 9 + 1 := by have := of_decide_eq_false hc; omega
      subst hi
      exact CWp.junk (t := lp8_1 .junk (.v (.str (List.replicate (d % 9 + 1) 55))) .junk) (CWp.exit hQ) (by simp [Junked, lp8_1])

theorem names_law (a b d : Nat) (ha : a ≤ 255) (hb : b ≤ 255) (hd : d ≤ 255) :
    Pure Tryd.prog 8 [.int .u8 (a : Int), .int .u8 (b : Int), .int .u8 (d : Int)] (.bool true) := fun M => by
  have m6 : (b : Int).tmod 6 = ((b % 6 : Nat) : Int) := tmodN b 6
  have hb6 : b % 6 < 6 := Nat.mod_lt _ (by omega)
  generalize hx : b % 6 = x at *
  have tn : ((x : Int) + 1).toNat = x + 1 := by omega
  have hat : List.drop x (97 :: List.take x ([98, 99, 88, 89, 90, 95, 48, 49, 57, 39] : List UInt8)) = [lettersL.getD x 0] := letters_at x (by omega)
  have h0 : NameLike [lettersL.getD x 0] := ⟨⟨_, [], rfl, letters_six x hb6⟩, fun c hc => by simp only [List.mem_singleton] at hc; subst hc; exact letters_mem x (by omega)⟩
  refine enter8 _ _ _ ?_
  simp only [cc8]
  refine CWp.seq ?_
  refine CWp.reg tt_ok ?_
  simp only [go_sem, Nat.reduceAdd, Nat.reduceLeDiff, Nat.reduceMul, Nat.reduceSub, Nat.reduceEqDiff]
  refine CWp.seq ?_
  refine CWp.reg tt_ok ?_
  simp only [go_sem, Nat.reduceAdd, Nat.reduceLeDiff, Nat.reduceMul, Nat.reduceSub, Nat.reduceEqDiff]
  refine CWp.seq ?_
  refine CWp.reg tt_ok ?_
  simp only [go_sem, Nat.reduceAdd, Nat.reduceLeDiff, Nat.reduceMul, Nat.reduceSub, Nat.reduceEqDiff, quorem, m6, tn, hat]
  repeat (with_reducible refine And.intro (by first | exact True.intro | assumption | omega | (intros; omega) | (intro hg; simp only [Bool.and_eq_true, Bool.or_eq_true, decide_eq_true_eq, Bool.not_eq_true', decide_eq_false_iff_not] at hg; omega) | (simp only [decide_eq_true_eq, Bool.and_eq_true, Bool.or_eq_true, Bool.not_eq_true', decide_eq_false_iff_not]; omega) | (intros; simp_all; done) | (intros; simp_all; omega)) ?_)
  refine CWp.seq ?_
  refine CWp.seq ?_
  refine CWp.reg tt_ok ?_
  simp only [go_sem, Nat.reduceAdd, Nat.reduceLeDiff, Nat.reduceMul, Nat.reduceSub, Nat.reduceEqDiff]
  refine CWp.block ?_
  refine CWp.loop (CLoop.junk (t := lp8_0 (.v (.int .u8 (a : Int))) (.v (.int .u8 (b : Int))) (.v (.int .u8 (d : Int))) (.v (.str [97, 98, 99, 88, 89, 90, 95, 48, 49, 57, 39])) (.v (.str [lettersL.getD x 0])) (.v (.int .i64 ((1 : Nat) : Int)))) (name_loop2 _ a b ha hb M _ ?_ (a % 70 + 1) 1 _ (by omega) (by omega) h0 rfl) (by simp [Junked, lp8_0]))
  intro s hs hsl
  have ha70 : a % 70 < 70 := Nat.mod_lt _ (by omega)
  have hd9 : d % 9 < 9 := Nat.mod_lt _ (by omega)
  have pk : Pure Tryd.prog 15 [.str s] (.bool false) := by
    have := keywordP_spec s
    rwa [decide_eq_false hs.kw] at this
  have p1 := scanP_spec .full (32 :: s) [] (by simp; omega) (by simp) (by simp)
  have pn := scanP_spec .full (List.replicate (d % 9 + 1) 55) [] (by simp; omega) (by simp) (by simp)
  simp only [go_sem, lp8_0]
  refine CWp.seq ?_
  refine CWp.seq ?_
  refine CWp.reg tt_ok ?_
  simp only [go_sem, Nat.reduceAdd, Nat.reduceLeDiff, Nat.reduceMul, Nat.reduceSub, Nat.reduceEqDiff]
  refine COps.pure has15 rfl rfl (by simp) (fun _ => pk) (evalC_sound tt_ok _ _ ?_)
  simp only [go_sem, Nat.reduceAdd, Nat.reduceLeDiff, Nat.reduceMul, Nat.reduceSub, Nat.reduceEqDiff]
  refine CWp.cond rfl (fun h => by cases h) (fun _ => ?_)
  refine CWp.skip ?_
  simp only [go_sem, Nat.reduceAdd, Nat.reduceLeDiff, Nat.reduceMul, Nat.reduceSub, Nat.reduceEqDiff]
  refine CWp.seq ?_
  refine CWp.reg tt_ok ?_
  simp only [go_sem, Nat.reduceAdd, Nat.reduceLeDiff, Nat.reduceMul, Nat.reduceSub, Nat.reduceEqDiff]
  repeat (with_reducible refine And.intro (by first | exact True.intro | assumption | omega | (intros; omega) | (intro hg; simp only [Bool.and_eq_true, Bool.or_eq_true, decide_eq_true_eq, Bool.not_eq_true', decide_eq_false_iff_not] at hg; omega) | (simp only [decide_eq_true_eq, Bool.and_eq_true, Bool.or_eq_true, Bool.not_eq_true', decide_eq_false_iff_not]; omega) | (intros; simp_all; done) | (intros; simp_all; omega)) ?_)
  refine COps.pure has12 rfl rfl (by simp) (fun _ => p1) (evalC_sound tt_ok _ _ ?_)
  simp only [scanA]
  simp only [go_sem, Nat.reduceAdd, Nat.reduceLeDiff, Nat.reduceMul, Nat.reduceSub, Nat.reduceEqDiff]
  refine CWp.seq ?_
  refine CWp.seq ?_
  refine CWp.reg tt_ok ?_
  simp only [go_sem, Nat.reduceAdd, Nat.reduceLeDiff, Nat.reduceMul, Nat.reduceSub, Nat.reduceEqDiff]
  have hk : decide ((64 : Int) < (s.length : Int)) = decide (64 < s.length) := decide_eq_decide.2 (by omega)
  simp only [hk]
  refine CWp.mono (Q := fun x st' => x = .normal ∧ ∃ t, Junked t (lp8_1 (.v (.int .u8 (d : Int))) .junk .junk) ∧ st' = { tmps := t, loc := [], rows := [], defs := [], M := M }) ?_ ?_
  · refine CWp.cond rfl ?_ ?_ <;> intro hc
    · have hlong := name_long hs (of_decide_eq_true hc) (by omega)
      rw [hlong]
      refine CWp.seq ?_
      refine CWp.reg tt_ok ?_
      have hl0 : (toks []).length = 0 := rfl
      simp only [go_sem, Nat.reduceAdd, Nat.reduceLeDiff, Nat.reduceMul, Nat.reduceSub, Nat.reduceEqDiff, hl0]
      refine CWp.cond rfl (fun h => absurd h (by simp)) (fun _ => ?_)
      refine CWp.skip ?_
      exact ⟨rfl, _, by simp [Junked, lp8_1], rfl⟩
    · have hle : s.length ≤ 64 := by have := of_decide_eq_false hc; omega
      have hshort := name_short hs hle
      rw [hshort]
      refine CWp.seq ?_
      refine CWp.reg tt_ok ?_
      have hl2 : (toks [(0, s, 1), (4, [], 1 + s.length)]).length = 2 := rfl
      have ht0 : (toks [(0, s, 1), (4, [], 1 + s.length)])[0]? = some (tokA (0, s, 1)) := rfl
      have z0 : Int.toNat 0 = 0 := rfl
      simp only [go_sem, Nat.reduceAdd, Nat.reduceLeDiff, Nat.reduceMul, Nat.reduceSub, Nat.reduceEqDiff, hl2, ht0, tokA, z0]
      repeat (with_reducible refine And.intro (by first | exact True.intro | assumption | omega | (intros; omega) | (intro hg; simp only [Bool.and_eq_true, Bool.or_eq_true, decide_eq_true_eq, Bool.not_eq_true', decide_eq_false_iff_not] at hg; omega) | (simp only [decide_eq_true_eq, Bool.and_eq_true, Bool.or_eq_true, Bool.not_eq_true', decide_eq_false_iff_not]; omega) | (intros; simp_all; done) | (intros; simp_all; omega)) ?_)
      refine COps.oth (x := .v (.bool false)) rfl (fun _ => oth8_val rfl ?_ rfl ?_) (evalC_sound tt_ok _ _ ?_)
      · simp
      · simp
      simp only [go_sem, Nat.reduceAdd, Nat.reduceLeDiff, Nat.reduceMul, Nat.reduceSub, Nat.reduceEqDiff]
      refine CWp.cond rfl (fun h => absurd h (by simp)) (fun _ => ?_)
      refine CWp.skip ?_
      exact ⟨rfl, _, by simp [Junked, lp8_1], rfl⟩
  · rintro x st' ⟨rfl, t, hj, rfl⟩
    simp only [thenA]
    refine CWp.junk (t := lp8_1 (.v (.int .u8 (d : Int))) .junk .junk) ?_ hj
    simp only [lp8_1]
    refine CWp.seq ?_
    refine CWp.reg tt_ok ?_
    simp only [go_sem, Nat.reduceAdd, Nat.reduceLeDiff, Nat.reduceMul, Nat.reduceSub, Nat.reduceEqDiff]
    refine CWp.seq ?_
    refine CWp.seq ?_
    refine CWp.reg tt_ok ?_
    simp only [go_sem, Nat.reduceAdd, Nat.reduceLeDiff, Nat.reduceMul, Nat.reduceSub, Nat.reduceEqDiff]
    refine CWp.block ?_
    refine CWp.loop (CLoop.junk (t := lp8_1 (.v (.int .u8 (d : Int))) (.v (.str (List.replicate 0 55))) (.v (.int .i64 ((0 : Nat) : Int)))) (num_loop d hd M _ ?_ (d % 9 + 2) 0 (by omega) (by omega)) (by simp [Junked, lp8_1]))
    simp only [go_sem, lp8_1]
    refine CWp.seq ?_
    refine CWp.reg tt_ok ?_
    simp only [go_sem, Nat.reduceAdd, Nat.reduceLeDiff, Nat.reduceMul, Nat.reduceSub, Nat.reduceEqDiff]
    refine COps.pure has12 rfl rfl (by simp) (fun _ => pn) (evalC_sound tt_ok _ _ ?_)
    simp only [scanA]
    simp only [go_sem, Nat.reduceAdd, Nat.reduceLeDiff, Nat.reduceMul, Nat.reduceSub, Nat.reduceEqDiff]
    have hrl : (List.replicate (d % 9 + 1) (55 : UInt8)).length = d % 9 + 1 := List.length_replicate
    refine CWp.seq ?_
    refine CWp.seq ?_
    refine CWp.reg tt_ok ?_
    simp only [go_sem, Nat.reduceAdd, Nat.reduceLeDiff, Nat.reduceMul, Nat.reduceSub, Nat.reduceEqDiff, hrl]
    have hk2 : decide ((6 : Int) < (((List.replicate (d % 9) (55 : UInt8)).length + 1 : Nat) : Int)) = decide (6 < d % 9 + 1) := decide_eq_decide.2 (by rw [List.length_replicate]; omega)
    simp only [hk2]
    refine CWp.cond rfl ?_ ?_ <;> intro hc
    · have hlong : scanM (55 :: List.replicate (d % 9) 55) [] = ([], 0, 5) := num_long (d % 9) (of_decide_eq_true hc) (by omega)
      rw [hlong]
      refine CWp.seq ?_
      refine CWp.reg tt_ok ?_
      simp only [go_sem, Nat.reduceAdd, Nat.reduceLeDiff, Nat.reduceMul, Nat.reduceSub, Nat.reduceEqDiff]
      refine COps.pure has11 rfl rfl (by simp) (fun _ => awake_spec) (evalC_sound tt_ok _ _ ?_)
      simp only [go_sem, Nat.reduceAdd, Nat.reduceLeDiff, Nat.reduceMul, Nat.reduceSub, Nat.reduceEqDiff]
      repeat (first | refine CWp.seq ?_ | refine CWp.block ?_ | (refine CWp.ret ?_; try simp only [go_sem, Nat.reduceAdd, Nat.reduceLeDiff, Nat.reduceMul, Nat.reduceSub, Nat.reduceEqDiff]) | (refine CWp.skip ?_; try simp only [go_sem, Nat.reduceAdd, Nat.reduceLeDiff, Nat.reduceMul, Nat.reduceSub, Nat.reduceEqDiff]) | (refine CWp.reg tt_ok ?_; simp only [go_sem, Nat.reduceAdd, Nat.reduceLeDiff, Nat.reduceMul, Nat.reduceSub, Nat.reduceEqDiff]))
      exact Fin.ret1 (.inl rfl) rfl rfl rfl (Mem.sub.refl _) ⟨by simp, rfl⟩
    · have hle : d % 9 + 1 ≤ 6 := by have := of_decide_eq_false hc; omega
      have hshort : scanM (55 :: List.replicate (d % 9) 55) [] = ([(1, 55 :: List.replicate (d % 9) 55, 0), (4, [], d % 9 + 1)], 0, 0) := num_short (d % 9) hle
      rw [hshort]
      have hl2 : (toks [(1, 55 :: List.replicate (d % 9) 55, 0), (4, [], d % 9 + 1)]).length = 2 := rfl
      have ht0 : (toks [(1, 55 :: List.replicate (d % 9) 55, 0), (4, [], d % 9 + 1)])[0]? = some (tokA (1, 55 :: List.replicate (d % 9) 55, 0)) := rfl
      have z0 : Int.toNat 0 = 0 := rfl
      refine CWp.skip ?_
      simp only [go_sem, Nat.reduceAdd, Nat.reduceLeDiff, Nat.reduceMul, Nat.reduceSub, Nat.reduceEqDiff]
      refine CWp.seq ?_
      refine CWp.reg tt_ok ?_
      simp only [go_sem, Nat.reduceAdd, Nat.reduceLeDiff, Nat.reduceMul, Nat.reduceSub, Nat.reduceEqDiff]
      refine COps.pure has11 rfl rfl (by simp) (fun _ => awake_spec) (evalC_sound tt_ok _ _ ?_)
      simp only [go_sem, Nat.reduceAdd, Nat.reduceLeDiff, Nat.reduceMul, Nat.reduceSub, Nat.reduceEqDiff, hl2, ht0, tokA, z0]
      repeat (with_reducible refine And.intro (by first | exact True.intro | assumption | omega | (intros; omega) | (intro hg; simp only [Bool.and_eq_true, Bool.or_eq_true, decide_eq_true_eq, Bool.not_eq_true', decide_eq_false_iff_not] at hg; omega) | (simp only [decide_eq_true_eq, Bool.and_eq_true, Bool.or_eq_true, Bool.not_eq_true', decide_eq_false_iff_not]; omega) | (intros; simp_all; done) | (intros; simp_all; omega)) ?_)
      repeat (first | refine CWp.seq ?_ | refine CWp.block ?_ | (refine CWp.ret ?_; try simp only [go_sem, Nat.reduceAdd, Nat.reduceLeDiff, Nat.reduceMul, Nat.reduceSub, Nat.reduceEqDiff]) | (refine CWp.skip ?_; try simp only [go_sem, Nat.reduceAdd, Nat.reduceLeDiff, Nat.reduceMul, Nat.reduceSub, Nat.reduceEqDiff]) | (refine CWp.reg tt_ok ?_; simp only [go_sem, Nat.reduceAdd, Nat.reduceLeDiff, Nat.reduceMul, Nat.reduceSub, Nat.reduceEqDiff]))
      exact Fin.ret1 (.inl rfl) rfl rfl rfl (Mem.sub.refl _) ⟨by simp, rfl⟩
end Go.Proofs.LxA
