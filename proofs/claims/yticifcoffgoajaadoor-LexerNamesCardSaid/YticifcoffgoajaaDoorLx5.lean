import Derived.Test.YticifcoffgoajaaDoorLx3
import Derived.Shelf.Small.Strs
import Derived.Laws.RangeAny
import Derived.Laws.RangeString
import Derived.Laws.Strings3
import Derived.Deep.LoopGhost
import Derived.Lib.OthersKept
import Derived.WalkMore
import Derived.Outline
import Derived.LoopN
import Derived.Deep.QuietTactic
import Derived.BigQuiet
import Derived.Shelf.Strings.IndexAny
import Derived.Test.YticifcoffgoajaaDoorLx4
set_option linter.unusedVariables false
set_option linter.unusedSimpArgs false
set_option maxRecDepth 100000
namespace Go.Proofs.LxA
open Go Go.Proofs Go.RowKit
set_option linter.unusedSectionVars false

theorem enc_two (r : Int) (h0 : 128 ≤ r) (h1 : r ≤ 2047) : ∃ x y : UInt8, Utf8.encode r = ⟨#[x, y]⟩ ∧ 128 ≤ y.toNat := by
  have hv : Utf8.valid r = true := by simp [Utf8.valid]; omega
  refine ⟨UInt8.ofNat (0xC0 + r.toNat / 64), UInt8.ofNat (0x80 + r.toNat % 64), ?_, ?_⟩
  · unfold Utf8.encode
    simp only [hv, if_true]
    rw [if_neg (by omega), if_pos (by omega)]
  · simp; omega

set_option maxHeartbeats 2000000 in
theorem indexRune_sp (r : Int) (h0 : 128 ≤ r) (h1 : r ≤ 255) (w : World) :
    Calls Tryd.prog 51 #[.string ⟨#[32, 9, 13, 10]⟩, .int .i32 r] w fun e w' => e = .returned (.int .i64 (-1)) ∧ ∃ n, w' = w.drewN n := by
  obtain ⟨x, y, he, hy⟩ := enc_two r h0 (by omega)
  have h00 : (0 : Int) ≤ r := by omega
  have hib : Lib.indexByte [13, 10] y < 0 := by
    have n1 : ((13 : UInt8) == y) = false := beq_eq_false_iff_ne.2 (by intro h; subst h; simp at hy)
    have n2 : ((10 : UInt8) == y) = false := beq_eq_false_iff_ne.2 (by intro h; subst h; simp at hy)
    simp [Lib.indexByte, n1, n2]
  have d1 : decide (r < 128) = false := decide_eq_false (by omega)
  have d2 : (r == 65533) = false := beq_eq_false_iff_ne.2 (by omega)
  have d3 : decide (r < 55296) = true := decide_eq_true (by omega)
  have hcv : ∀ w : World, (Conv.intToString r).run Tryd.prog w = .ok (.string ⟨#[x, y]⟩) w := fun w => by simp [Conv.intToString, he]
  have g1 : (((⟨#[32, 9, 13, 10]⟩ : ByteArray)[1]'(by decide)).toNat : Int) = 9 := rfl
  have g2 : (((⟨#[x, y]⟩ : ByteArray)[1]'(Nat.lt_succ_self 1)).toNat : Int) = (y.toNat : Int) := rfl
  have g4 : IntKind.wrap .i64 2 = 2 := by decide
  have g3 : ((9 : Int) != (y.toNat : Int)) = true := by
    rw [bne_iff_ne]; omega
  have e60 : ∀ args w, (callFunc 60 args).run Tryd.prog w = .ok (.enter 60 args) w := enters_of Tryd.func60 (by kernel_rfl) rfl
  go_enter Tryd.func51, Tryd.ntmps51
  go_wp2
  go_step3
  go_wp2
  refine wp_loop_once ?_
  go_wp2
  go_step3
  go_wp2
  go_quiet (fail)
  go_wp2
  go_quiet (first | exact ((Tryd.strings_IndexByte _ _ _).mono fun _ _ h => ⟨h.1, _, h.2⟩) | fail)
  go_wp2
  · simp (config := { zetaDelta := true }) only [Exit.noGoto_ret, Exit.inBlock, Exit.then, Exit.noGoto]
    go_ret
    exact ⟨rfl, _, rfl⟩

set_option maxHeartbeats 2000000 in
theorem indexRune_q2 (r : Int) (h0 : 128 ≤ r) (h1 : r ≤ 2047) (w : World) :
    Calls Tryd.prog 51 #[.string ⟨#[34, 10]⟩, .int .i32 r] w fun e w' => e = .returned (.int .i64 (-1)) ∧ ∃ n, w' = w.drewN n := by
  obtain ⟨x, y, he, hy⟩ := enc_two r h0 (by omega)
  have h00 : (0 : Int) ≤ r := by omega
  have hib : Lib.indexByte [] y < 0 := by simp [Lib.indexByte]
  have d1 : decide (r < 128) = false := decide_eq_false (by omega)
  have d2 : (r == 65533) = false := beq_eq_false_iff_ne.2 (by omega)
  have d3 : decide (r < 55296) = true := decide_eq_true (by omega)
  have hcv : ∀ w : World, (Conv.intToString r).run Tryd.prog w = .ok (.string ⟨#[x, y]⟩) w := fun w => by simp [Conv.intToString, he]
  have g1 : (((⟨#[34, 10]⟩ : ByteArray)[1]'(by decide)).toNat : Int) = 10 := rfl
  have g2 : (((⟨#[x, y]⟩ : ByteArray)[1]'(Nat.lt_succ_self 1)).toNat : Int) = (y.toNat : Int) := rfl
  have g4 : IntKind.wrap .i64 2 = 2 := by decide
  have g3 : ((10 : Int) != (y.toNat : Int)) = true := by
    rw [bne_iff_ne]; omega
  have e60 : ∀ args w, (callFunc 60 args).run Tryd.prog w = .ok (.enter 60 args) w := enters_of Tryd.func60 (by kernel_rfl) rfl
  go_enter Tryd.func51, Tryd.ntmps51
  go_wp2
  go_step3
  go_wp2
  refine wp_loop_once ?_
  go_wp2
  go_step3
  go_wp2
  go_quiet (fail)
  go_wp2
  go_quiet (first | exact ((Tryd.strings_IndexByte _ _ _).mono fun _ _ h => ⟨h.1, _, h.2⟩) | fail)
  go_wp2
  · simp (config := { zetaDelta := true }) only [Exit.noGoto_ret, Exit.inBlock, Exit.then, Exit.noGoto]
    go_ret
    exact ⟨rfl, _, rfl⟩

theorem enc_three (r : Int) (h0 : 2048 ≤ r) (h1 : r ≤ 65535) (hv : r < 55296 ∨ 57343 < r) : ∃ x y z : UInt8, Utf8.encode r = ⟨#[x, y, z]⟩ := by
  have hv : Utf8.valid r = true := by simp [Utf8.valid]; omega
  refine ⟨UInt8.ofNat (0xE0 + r.toNat / 4096), UInt8.ofNat (0x80 + r.toNat / 64 % 64), UInt8.ofNat (0x80 + r.toNat % 64), ?_⟩
  unfold Utf8.encode
  simp only [hv, if_true]
  rw [if_neg (by omega), if_neg (by omega), if_pos (by omega)]
theorem enc_four (r : Int) (h0 : 65536 ≤ r) (h1 : r ≤ 1114111) : ∃ x y z t : UInt8, Utf8.encode r = ⟨#[x, y, z, t]⟩ := by
  have hv : Utf8.valid r = true := by simp [Utf8.valid]; omega
  refine ⟨UInt8.ofNat (0xF0 + r.toNat / 262144), UInt8.ofNat (0x80 + r.toNat / 4096 % 64), UInt8.ofNat (0x80 + r.toNat / 64 % 64), UInt8.ofNat (0x80 + r.toNat % 64), ?_⟩
  unfold Utf8.encode
  simp only [hv, if_true]
  rw [if_neg (by omega), if_neg (by omega), if_neg (by omega)]

set_option maxHeartbeats 2000000 in
theorem indexRune_q3a (r : Int) (h0 : 2048 ≤ r) (h1 : r < 55296) (w : World) :
    Calls Tryd.prog 51 #[.string ⟨#[34, 10]⟩, .int .i32 r] w fun e w' => e = .returned (.int .i64 (-1)) ∧ ∃ n, w' = w.drewN n := by
  obtain ⟨x, y, z, he⟩ := enc_three r h0 (by omega) (.inl h1)
  have h00 : (0 : Int) ≤ r := by omega
  have d1 : decide (r < 128) = false := decide_eq_false (by omega)
  have d2 : (r == 65533) = false := beq_eq_false_iff_ne.2 (by omega)
  have d3 : decide (r < 55296) = true := decide_eq_true (by omega)
  have hcv : ∀ w : World, (Conv.intToString r).run Tryd.prog w = .ok (.string ⟨#[x, y, z]⟩) w := fun w => by simp [Conv.intToString, he]
  go_enter Tryd.func51, Tryd.ntmps51
  go_wp2
  go_step3
  go_wp2
  refine wp_loop_once ?_
  go_wp2
  simp (config := { zetaDelta := true }) only [Exit.noGoto_ret, Exit.inBlock, Exit.then, Exit.noGoto]
  go_ret
  exact ⟨rfl, 0, rfl⟩
set_option maxHeartbeats 2000000 in
theorem indexRune_q3b (r : Int) (h0 : 57343 < r) (h1 : r ≤ 65535) (hne : r ≠ 65533) (w : World) :
    Calls Tryd.prog 51 #[.string ⟨#[34, 10]⟩, .int .i32 r] w fun e w' => e = .returned (.int .i64 (-1)) ∧ ∃ n, w' = w.drewN n := by
  obtain ⟨x, y, z, he⟩ := enc_three r (by omega) h1 (.inr h0)
  have h00 : (0 : Int) ≤ r := by omega
  have d1 : decide (r < 128) = false := decide_eq_false (by omega)
  have d2 : (r == 65533) = false := beq_eq_false_iff_ne.2 (by omega)
  have d3 : decide (r < 55296) = false := decide_eq_false (by omega)
  have d4 : decide (57343 < r) = true := decide_eq_true (by omega)
  have d5 : decide (r ≤ 1114111) = true := decide_eq_true (by omega)
  have hcv : ∀ w : World, (Conv.intToString r).run Tryd.prog w = .ok (.string ⟨#[x, y, z]⟩) w := fun w => by simp [Conv.intToString, he]
  go_enter Tryd.func51, Tryd.ntmps51
  go_wp2
  go_step3
  go_wp2
  refine wp_loop_once ?_
  go_wp2
  simp (config := { zetaDelta := true }) only [Exit.noGoto_ret, Exit.inBlock, Exit.then, Exit.noGoto]
  go_ret
  exact ⟨rfl, 0, rfl⟩
set_option maxHeartbeats 2000000 in
theorem indexRune_q4 (r : Int) (h0 : 65536 ≤ r) (h1 : r ≤ 1114111) (w : World) :
    Calls Tryd.prog 51 #[.string ⟨#[34, 10]⟩, .int .i32 r] w fun e w' => e = .returned (.int .i64 (-1)) ∧ ∃ n, w' = w.drewN n := by
  obtain ⟨x, y, z, t, he⟩ := enc_four r h0 h1
  have h00 : (0 : Int) ≤ r := by omega
  have d1 : decide (r < 128) = false := decide_eq_false (by omega)
  have d2 : (r == 65533) = false := beq_eq_false_iff_ne.2 (by omega)
  have d3 : decide (r < 55296) = false := decide_eq_false (by omega)
  have d4 : decide (57343 < r) = true := decide_eq_true (by omega)
  have d5 : decide (r ≤ 1114111) = true := decide_eq_true (by omega)
  have hcv : ∀ w : World, (Conv.intToString r).run Tryd.prog w = .ok (.string ⟨#[x, y, z, t]⟩) w := fun w => by simp [Conv.intToString, he]
  go_enter Tryd.func51, Tryd.ntmps51
  go_wp2
  go_step3
  go_wp2
  refine wp_loop_once ?_
  go_wp2
  simp (config := { zetaDelta := true }) only [Exit.noGoto_ret, Exit.inBlock, Exit.then, Exit.noGoto]
  go_ret
  exact ⟨rfl, 0, rfl⟩

set_option maxHeartbeats 2000000 in
theorem indexRune_qe (w : World) :
    Calls Tryd.prog 51 #[.string ⟨#[34, 10]⟩, .int .i32 65533] w fun e w' => e = .returned (.int .i64 (-1)) ∧ Below w.heap.size w w' := by
  have hn0 := fun ty => run_next_ascii (P := Tryd.prog) w ⟨#[34, 10]⟩ 0 ty (by decide) (by decide)
  have hn1 := fun ty => run_next_ascii (P := Tryd.prog) w ⟨#[34, 10]⟩ 1 ty (by decide) (by decide)
  have hn2 := fun ty => run_next_end (P := Tryd.prog) w ⟨#[34, 10]⟩ 2 ty (by decide)
  go_enter Tryd.func51, Tryd.ntmps51
  go_wp2
  refine wp_loop_rounds 3 ?_
  rw [rounds_succ]
  go_wp2
  rw [rounds_succ]
  go_wp2
  rw [rounds_succ]
  go_wp2
  go_ret
  exact ⟨rfl, (Below.refl _ w).alloc (Nat.le_refl _) _⟩

/-- A rune that is not of one byte is met nowhere in a quotation mark and a line feed. -/
theorem indexRune_q (r : Int) (h0 : 128 ≤ r) (h1 : r ≤ 1114111) (hv : r < 55296 ∨ 57343 < r) (w : World) :
    Calls Tryd.prog 51 #[.string ⟨#[34, 10]⟩, .int .i32 r] w fun e w' => e = .returned (.int .i64 (-1)) ∧ Below w.heap.size w w' := by
  have dr : ∀ n, Below w.heap.size w (w.drewN n) := fun n => ⟨rfl, rfl, rfl, Nat.le_refl _, fun _ _ => rfl⟩
  have conv : (Calls Tryd.prog 51 #[.string ⟨#[34, 10]⟩, .int .i32 r] w fun e w' => e = .returned (.int .i64 (-1)) ∧ ∃ n, w' = w.drewN n) → Calls Tryd.prog 51 #[.string ⟨#[34, 10]⟩, .int .i32 r] w fun e w' => e = .returned (.int .i64 (-1)) ∧ Below w.heap.size w w' := fun h =>
    h.mono fun e w' ⟨he, n, hn⟩ => ⟨he, hn ▸ dr n⟩
  by_cases e1 : r = 65533
  · subst e1; exact indexRune_qe w
  by_cases e2 : r ≤ 2047
  · exact conv (indexRune_q2 r h0 e2 w)
  by_cases e3 : r < 55296
  · exact conv (indexRune_q3a r (by omega) e3 w)
  by_cases e4 : r ≤ 65535
  · exact conv (indexRune_q3b r (by omega) e4 e1 w)
  · exact conv (indexRune_q4 r (by omega) h1 w)
end Go.Proofs.LxA
set_option linter.unusedVariables false
set_option linter.unusedSimpArgs false
set_option maxRecDepth 100000
namespace Go.Proofs.LxA
open Go Go.Proofs Go.RowKit
set_option linter.unusedSectionVars false

theorem decode_spec (s : ByteArray) (i : Nat) (h : i < s.size) (ha : 128 ≤ (s.get! (i + 0)).toNat) :
    (128 ≤ (Utf8.decode s i).1 ∧ (Utf8.decode s i).1 ≤ 1114111 ∧ ((Utf8.decode s i).1 < 55296 ∨ 57343 < (Utf8.decode s i).1)) ∧
    1 ≤ (Utf8.decode s i).2 ∧ i + (Utf8.decode s i).2 ≤ s.size ∧ ∀ j, j < (Utf8.decode s i).2 → 128 ≤ (s.get! (i + j)).toNat := by
  have h0 : (s.get! (i + 0)).toNat < 256 := (s.get! (i + 0)).toNat_lt
  have h1 : (s.get! (i + 1)).toNat < 256 := (s.get! (i + 1)).toNat_lt
  have h2 : (s.get! (i + 2)).toNat < 256 := (s.get! (i + 2)).toNat_lt
  have h3 : (s.get! (i + 3)).toNat < 256 := (s.get! (i + 3)).toNat_lt
  have one : ∀ x : Nat × Nat, x = (Utf8.runeError, 1) → (128 ≤ x.1 ∧ x.1 ≤ 1114111 ∧ (x.1 < 55296 ∨ 57343 < x.1)) ∧ 1 ≤ x.2 ∧ i + x.2 ≤ s.size ∧ ∀ j, j < x.2 → 128 ≤ (s.get! (i + j)).toNat := by
    rintro x rfl
    refine ⟨by decide, Nat.le_refl _, h, fun j hj => ?_⟩
    have : j = 0 := by simp at hj; exact hj
    subst this; exact ha
  generalize hd : Utf8.decode s i = d
  unfold Utf8.decode at hd
  simp only at hd
  rw [if_neg (by omega)] at hd
  split at hd
  · rename_i hc
    simp only [Bool.and_eq_true, beq_iff_eq, decide_eq_true_eq] at hc
    split at hd
    · subst hd
      refine ⟨⟨by simp only; omega, by simp only; omega, by simp only; omega⟩, by simp, by simp only; omega, fun j hj => ?_⟩
      simp only at hj
      match j, hj with
      | 0, _ => exact ha
      | 1, _ => omega
    · exact one d hd.symm
  · split at hd
    · rename_i hc
      simp only [Bool.and_eq_true, beq_iff_eq, decide_eq_true_eq] at hc
      split at hd
      · rename_i hv
        subst hd
        simp only [Utf8.valid, ge_iff_le, Bool.and_eq_true, Bool.or_eq_true, decide_eq_true_eq] at hv
        refine ⟨⟨by simp only; omega, by simp only; omega, by simp only; omega⟩, by simp, by simp only; omega, fun j hj => ?_⟩
        simp only at hj
        match j, hj with
        | 0, _ => exact ha
        | 1, _ => omega
        | 2, _ => omega
      · exact one d hd.symm
    · split at hd
      · rename_i hc
        simp only [Bool.and_eq_true, beq_iff_eq, decide_eq_true_eq] at hc
        split at hd
        · rename_i hv
          subst hd
          simp only [Utf8.valid, ge_iff_le, Bool.and_eq_true, Bool.or_eq_true, decide_eq_true_eq] at hv
          refine ⟨⟨by simp only; omega, by simp only; omega, by simp only; omega⟩, by simp, by simp only; omega, fun j hj => ?_⟩
          simp only at hj
          match j, hj with
          | 0, _ => exact ha
          | 1, _ => omega
          | 2, _ => omega
          | 3, _ => omega
        · exact one d hd.symm
      · exact one d hd.symm

def qn : ByteArray := ⟨#[34, 10]⟩

theorem below_iterAt {w wr : World} (h : Below w.heap.size w wr) (s : ByteArray) (pos : Nat) : Below w.heap.size w (wr.iterAt w.heap.size s pos) :=
  ⟨h.os, h.tape, h.output, by simpa [World.iterAt] using h.size, fun k hk => by
    show (wr.heap.setIfInBounds _ _)[k]? = _
    rw [Array.getElem?_setIfInBounds_ne (by omega)]
    exact h.block k hk⟩

open Go.Lib in
set_option maxHeartbeats 8000000 in
theorem indexAny_short (s : ByteArray) (w : World) (h8 : s.size ≤ 8) :
    Calls Tryd.prog 37 #[.string s, .string qn] w fun e w' => e = .returned (.int .i64 (Lib.indexAny s.data.toList qn.data.toList)) ∧ Below w.heap.size w w' := by
  have hemp : qn.toList.isEmpty = false := by rw [Lib.toList_data]; rfl
  have hqs : qn.size = 2 := rfl
  have hn1 : ((qn.size : Int) == 1) = false := by rw [hqs]; decide
  have h8z : decide ((8 : Int) < (s.size : Int)) = false := decide_eq_false (by omega)
  have e51 : ∀ args w, (callFunc 51 args).run Tryd.prog w = .ok (.enter 51 args) w := enters_of Tryd.func51 (by kernel_rfl) rfl
  have e52 : ∀ args w, (callFunc 52 args).run Tryd.prog w = .ok (.enter 52 args) w := enters_of Tryd.func52 (by kernel_rfl) rfl
  go_enter Tryd.func37, Tryd.ntmps37
  go_wp2_with (go_at_fn 52; refine (Tryd.strings_shouldUseASCIISet _ _).mono ?_; rintro e w' ⟨rfl, hw⟩; rw [hw, h8z])
  go_loopg [9, 10] s.size (fun g _ _ wx => ∃ i : Nat, i + g = s.size ∧ wx.heap[w.heap.size]? = some (.stringIter s i) ∧ Below w.heap.size w wx ∧ Lib.NoAny s.data.toList qn.data.toList i)
  case atStart => exact ⟨0, by omega, World.iter_heap w s 0, (Below.refl _ w).alloc (Nat.le_refl _) _, Lib.NoAny.zero _ _⟩
  case round =>
    obtain ⟨i, hig, hk, hbel, hno⟩ := hrel
    have HN : Aside (Lib.NoAny s.data.toList qn.data.toList i) := hno
    clear hno
    cases gk with
    | zero =>
      obtain rfl : i = s.size := by omega
      have hnx := fun ty => run_next_end_at (P := Tryd.prog) wr w.heap.size s s.size ty hk (by omega)
      go_wp2
      go_ret
      exact ⟨by rw [Lib.indexAny_none (by rw [← Lib.size_eq]; exact HN.out)]; rfl, hbel⟩
    | succ g =>
      have hi : i < s.size := by omega
      obtain ⟨x, hx⟩ : ∃ x : UInt8, s[i]'hi = x := ⟨_, rfl⟩
      have hxl : s.data.toList[i]? = some x := by rw [← hx]; exact Lib.data_getElem? s i hi
      by_cases hx128 : x.toNat < 128
      · have hnx := fun ty => run_next_ascii_at (P := Tryd.prog) wr w.heap.size s i ty hk hi (by rw [hx]; exact hx128)
        rw [hx] at hnx
        have Hx : Aside (s.data.toList[i]? = some x) := hxl
        clear hxl hx
        have hcon := Lib.contains_iff_indexByte qn.data.toList x
        have hback : ((x.toNat : Int)).toNat.toUInt8 = x := by simp
        have hk2 := iterAt_heap wr w.heap.size s i (i + 1) hk
        have hb2 := below_iterAt hbel s (i + 1)
        cases hin : qn.data.toList.contains x
        · rw [hin] at hcon
          have hlt : ¬ ((0 : Int) ≤ Lib.indexByte qn.data.toList x) := of_decide_eq_false hcon.symm
          clear hcon
          go_wp2_with (go_at_fn 51; refine (Tryd.strings_IndexRune_ascii _ _ _ (by omega) (by omega)).mono ?_; rintro e w' ⟨rfl, hw⟩; rw [hw, hback])
          go_roundg g
          case measure => omega
          case rel => exact ⟨i + 1, by omega, hk2, hb2, HN.out.succ Hx.out hin⟩
        · rw [hin] at hcon
          have hge : (0 : Int) ≤ Lib.indexByte qn.data.toList x := of_decide_eq_true hcon.symm
          clear hcon
          go_wp2_with (go_at_fn 51; refine (Tryd.strings_IndexRune_ascii _ _ _ (by omega) (by omega)).mono ?_; rintro e w' ⟨rfl, hw⟩; rw [hw, hback])
          go_ret
          exact ⟨by rw [Lib.indexAny_hit HN.out Hx.out hin]; rfl, hb2⟩
      · have hg0 : s.get! (i + 0) = x := by rw [← hx]; exact get_at s i hi
        obtain ⟨⟨d1, d2, d3⟩, d4, d5, d6⟩ := decode_spec s i hi (by rw [hg0]; omega)
        have hnx := fun ty => run_next_any_at (P := Tryd.prog) wr w.heap.size s i ty hk hi
        have hk2 := iterAt_heap wr w.heap.size s i (i + (Utf8.decode s i).2) hk
        have hb2 := below_iterAt hbel s (i + (Utf8.decode s i).2)
        have hno : Lib.NoAny s.data.toList qn.data.toList (i + (Utf8.decode s i).2) := by
          intro j b hj hb
          by_cases hji : j < i
          · exact HN.out j b hji hb
          · have hjs : j < s.size := by omega
            have := d6 (j - i) (by omega)
            rw [show i + (j - i) = j + 0 by omega, get_at s j hjs] at this
            have hb' := Lib.data_getElem? s j hjs
            rw [hb'] at hb
            cases hb
            have n1 : ¬ s[j] = 34 := by intro e; rw [e] at this; simp at this
            have n2 : ¬ s[j] = 10 := by intro e; rw [e] at this; simp at this
            simp [qn, n1, n2]
        have HN2 : Aside (Lib.NoAny s.data.toList qn.data.toList (i + (Utf8.decode s i).2)) := hno
        clear hno
        clear hxl hx hg0
        generalize hwd : (Utf8.decode s i).2 = wd at *
        generalize hrr : (Utf8.decode s i).1 = rr at *
        go_wp2_with (go_at_fn 51; refine (indexRune_q _ (by omega) (by omega) (by omega) _).mono ?_; rintro e w' ⟨rfl, hw⟩)
        go_roundg (s.size - (i + wd))
        case measure => omega
        case rel =>
          have hlt := (Array.getElem?_eq_some_iff.1 hk2).1
          exact ⟨i + wd, by omega, (hw.block _ hlt).trans hk2, hb2.trans (hw.mono (Nat.le_of_lt hlt)), HN2.out⟩
end Go.Proofs.LxA
set_option linter.unusedVariables false
set_option linter.unusedSimpArgs false
set_option maxRecDepth 100000
namespace Go.Proofs.LxA
open Go Go.Am Go.Proofs Go.RowKit
set_option linter.unusedSectionVars false

theorem has37 : Has Tryd.prog 37 := ⟨_, Tryd.func37, by kernel_rfl, by decide⟩
theorem has51 : Has Tryd.prog 51 := ⟨_, Tryd.func51, by kernel_rfl, by decide⟩
theorem has39' : Has Tryd.prog 39 := ⟨_, Tryd.func39, by kernel_rfl, by decide⟩
theorem has40' : Has Tryd.prog 40 := ⟨_, Tryd.func40, by kernel_rfl, by decide⟩

theorem zero72 (w : World) : (zeroValue 72).run Tryd.prog w = .ok (.agg (Array.replicate 256 (.bool false))) w :=
  (zero_of_info (P := Tryd.prog) (by kernel_rfl : (Tryd.prog.info? 72).map (fun i => (i.zero, i.size)) = some (some (.agg (Array.replicate 256 (.bool false))), 256))).1 w

theorem size_len (s : ByteArray) : s.size = s.data.toList.length := by simp

theorem indexAnyP_spec (s : List UInt8) (hlen : s.length ≤ 1000000000) : Pure Tryd.prog 37 [.str s, .str [34, 10]] (.int .i64 (Lib.indexAny s [34, 10])) := by
  refine Pure.of_lib fun B E MM w cargs hs hargs => ?_
  obtain ⟨c1, c2, hc, h1, h2⟩ := hargs.two_inv
  cases cargs_two hc
  generalize hsc : ([34, 10] : List UInt8) = sc at h2
  cases h1 with
  | str s0 =>
    cases h2 with
    | str s1 =>
      have e1 : s1 = qn := bytes_eq hsc
      subst e1
      have hsz := size_len s0
      by_cases h8 : s0.size ≤ 8
      · refine (indexAny_short s0 w h8).mono ?_
        rintro e w' ⟨rfl, hb⟩
        exact ⟨_, rfl, .int _ _, hb⟩
      · refine (Tryd.strings_IndexAny_long zero72 s0 qn w (by decide) (by omega) (by omega) (by decide) ?_).mono ?_
        · intro j b hj
          have : ∀ b ∈ qn.data.toList, b.toNat < 128 := by decide
          exact this b (List.mem_of_getElem? hj)
        · rintro e w' ⟨rfl, rfl⟩
          exact ⟨_, rfl, .int _ _, ((Below.refl _ _).alloc (Nat.le_refl _) _).alloc (by simp) _⟩

def spaceL : List UInt8 := [32, 9, 13, 10]
theorem indexRuneP_spec (c : UInt8) : Pure Tryd.prog 51 [.str [32, 9, 13, 10], .int .i32 (c.toNat : Int)] (.int .i64 (if c.toNat < 128 then Lib.indexByte [32, 9, 13, 10] c else -1)) := by
  refine Pure.of_lib fun B E MM w cargs hs hargs => ?_
  obtain ⟨c1, c2, hc, h1, h2⟩ := hargs.two_inv
  cases cargs_two hc
  generalize hsc : ([32, 9, 13, 10] : List UInt8) = sc at h1
  cases h1 with
  | str s1 =>
    have e1 : s1 = ⟨#[32, 9, 13, 10]⟩ := bytes_eq hsc
    subst e1
    cases h2
    by_cases h8 : c.toNat < 128
    · refine (Tryd.strings_IndexRune_ascii _ _ w (by omega) (by omega)).mono ?_
      rintro e w' ⟨rfl, rfl⟩
      have : ((c.toNat : Int)).toNat.toUInt8 = c := by simp
      rw [if_pos h8, this]
      exact ⟨_, rfl, .int _ _, Below.refl _ _⟩
    · have := c.toNat_lt
      refine (indexRune_sp _ (by omega) (by omega) w).mono ?_
      rintro e w' ⟨rfl, n, rfl⟩
      rw [if_neg h8]
      exact ⟨_, rfl, .int _ _, ⟨rfl, rfl, rfl, Nat.le_refl _, fun _ _ => rfl⟩⟩

theorem space_idx (c : UInt8) : decide ((0 : Int) ≤ (if c.toNat < 128 then Lib.indexByte [32, 9, 13, 10] c else -1)) = spaceB (c.toNat : Int) := by
  have hsp : spaceB (c.toNat : Int) = [32, 9, 13, 10].contains c := by
    unfold spaceB
    have e : ∀ k : UInt8, decide ((c.toNat : Int) = (k.toNat : Int)) = (c == k) := by
      intro k
      by_cases h : c = k
      · subst h; simp
      · have : ¬ (c.toNat : Int) = (k.toNat : Int) := by
          intro e; apply h; apply UInt8.toNat_inj.1; omega
        simp [h, this]
    have e1 := e 32; have e2 := e 9; have e3 := e 13; have e4 := e 10
    simp only [List.contains_cons, List.contains_nil, Bool.or_false]
    rw [← Bool.or_assoc, ← Bool.or_assoc]
    exact (congr (congrArg or (congr (congrArg or (congr (congrArg or e1) e2)) e3)) e4)
  rw [hsp]
  by_cases h8 : c.toNat < 128
  · rw [if_pos h8, Lib.contains_iff_indexByte]
  · rw [if_neg h8]
    have n : ∀ k : UInt8, k.toNat < 128 → (c == k) = false := by
      intro k hk
      refine beq_eq_false_iff_ne.2 fun e => ?_
      subst e; omega
    rw [List.contains_cons, List.contains_cons, List.contains_cons, List.contains_cons, n 32 (by decide), n 9 (by decide), n 13 (by decide), n 10 (by decide)]
    rfl

theorem containsRune_spec (c : UInt8) : Pure Tryd.prog 38 [.str [32, 9, 13, 10], .int .i32 (c.toNat : Int)] (.bool (spaceB (c.toNat : Int))) := fun M => by
  refine enter38 _ _ ?_
  simp only [cc38]
  repeat (first | refine CWp.seq ?_ | refine CWp.block ?_ | (refine CWp.ret ?_; try simp only [go_sem, Nat.reduceAdd, Nat.reduceLeDiff, Nat.reduceMul, Nat.reduceSub, Nat.reduceEqDiff]) | (refine CWp.skip ?_; try simp only [go_sem, Nat.reduceAdd, Nat.reduceLeDiff, Nat.reduceMul, Nat.reduceSub, Nat.reduceEqDiff]) | (refine CWp.reg tt_ok ?_; simp only [go_sem, Nat.reduceAdd, Nat.reduceLeDiff, Nat.reduceMul, Nat.reduceSub, Nat.reduceEqDiff]))
  refine COps.pure has51 rfl rfl (by simp) (fun _ => indexRuneP_spec c) (evalC_sound tt_ok _ _ ?_)
  simp only [go_sem, Nat.reduceAdd, Nat.reduceLeDiff, Nat.reduceMul, Nat.reduceSub, Nat.reduceEqDiff]
  repeat (first | refine CWp.seq ?_ | refine CWp.block ?_ | (refine CWp.ret ?_; try simp only [go_sem, Nat.reduceAdd, Nat.reduceLeDiff, Nat.reduceMul, Nat.reduceSub, Nat.reduceEqDiff]) | (refine CWp.skip ?_; try simp only [go_sem, Nat.reduceAdd, Nat.reduceLeDiff, Nat.reduceMul, Nat.reduceSub, Nat.reduceEqDiff]) | (refine CWp.reg tt_ok ?_; simp only [go_sem, Nat.reduceAdd, Nat.reduceLeDiff, Nat.reduceMul, Nat.reduceSub, Nat.reduceEqDiff]))
  rw [space_idx]
  exact Fin.ret1 (.inl rfl) rfl rfl rfl (Mem.sub.refl _) ⟨rfl, rfl⟩

theorem hasPrefix_spec (s : List UInt8) : Pure Tryd.prog 39 [.str s, .str [45, 45]] (.bool (Lib.hasPrefix s [45, 45])) := by
  refine Pure.of_lib fun B E MM w cargs hs hargs => ?_
  obtain ⟨c1, c2, hc, h1, h2⟩ := hargs.two_inv
  cases cargs_two hc
  generalize hsc : ([45, 45] : List UInt8) = sc at h2
  cases h1 with
  | str s0 =>
    cases h2 with
    | str s1 =>
      refine (Tryd.strings_HasPrefix s0 s1 w).mono ?_
      rintro e w' ⟨rfl, rfl⟩
      exact ⟨_, rfl, .bool _, Below.refl _ _⟩

theorem cut_spec (s : List UInt8) (hlen : s.length ≤ 1000000000) : Pure Tryd.prog 40 [.str s, .str [10]] (.tup [.str (Lib.cut s [10]).1, .str (Lib.cut s [10]).2.1, .bool (Lib.cut s [10]).2.2]) := by
  refine Pure.of_lib fun B E MM w cargs hs hargs => ?_
  obtain ⟨c1, c2, hc, h1, h2⟩ := hargs.two_inv
  cases cargs_two hc
  obtain ⟨m, hm⟩ := num_now hs
  generalize hsc : ([10] : List UInt8) = sc at h2 ⊢
  cases h1 with
  | str s0 =>
    cases h2 with
    | str s1 =>
      have hsz := size_len s0
      refine (Tryd.strings_Cut s0 s1 m w (by omega) hm).mono ?_
      rintro e w' ⟨rfl, n, rfl⟩
      refine ⟨_, rfl, .tup _ [_, _, _] (.cons _ _ _ _ (by simpa using Rep.str (E := E) ⟨(Lib.cut s0.data.toList s1.data.toList).1.toArray⟩) (.cons _ _ _ _ (by simpa using Rep.str (E := E) ⟨(Lib.cut s0.data.toList s1.data.toList).2.1.toArray⟩) (.cons _ _ _ _ (.bool _) .nil))), ⟨rfl, rfl, rfl, Nat.le_refl _, fun _ _ => rfl⟩⟩
end Go.Proofs.LxA
