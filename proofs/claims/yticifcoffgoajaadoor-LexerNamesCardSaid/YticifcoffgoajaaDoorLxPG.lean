import Derived.Test.YticifcoffgoajaaDoorLx8
set_option linter.unusedVariables false
set_option linter.unusedSimpArgs false
set_option maxRecDepth 100000
namespace Go.Proofs.LxA
open Go Go.Am Go.Proofs Go.RowKit
set_option linter.unusedSectionVars false

/-! Names and numbers. -/
def lettersL : List UInt8 := [97, 98, 99, 88, 89, 90, 95, 48, 49, 57, 39]
structure NameLike (s : List UInt8) : Prop where
  head : ∃ c l, s = c :: l ∧ c ∈ lettersL.take 6
  all : ∀ c ∈ s, c ∈ lettersL
theorem NameLike.kw {s : List UInt8} (h : NameLike s) : s ∉ kwL := by
  intro hm
  have : ∀ k ∈ kwL, ∃ c ∈ k, c ∉ lettersL := by decide
  obtain ⟨c, h1, h2⟩ := this s hm
  exact h2 (h.all c h1)
theorem NameLike.name {s : List UInt8} (h : NameLike s) : nameL s = s.length :=
  nameL_all s fun c hc => by
    have : ∀ c ∈ lettersL, isComp (c.toNat : Int) = true := by decide
    exact this c (h.all c hc)
theorem NameLike.begins {s : List UInt8} (h : NameLike s) : beginsB (byteH s) = true := by
  obtain ⟨c, l, rfl, hc⟩ := h.head
  have : ∀ c ∈ lettersL.take 6, beginsB (c.toNat : Int) = true := by decide
  exact this c hc
theorem NameLike.skip {s : List UInt8} (h : NameLike s) : skipL false s = 0 := by
  obtain ⟨c, l, rfl, hc⟩ := h.head
  have : ∀ c ∈ lettersL.take 6, spaceB (c.toNat : Int) = false ∧ decide (c = 45) = false := by decide
  obtain ⟨h1, h2⟩ := this c hc
  simp only [skipL, h1, h2, cond_false, Bool.false_and]
theorem NameLike.ne {s : List UInt8} (h : NameLike s) : s ≠ [] ∧ s ≠ [95] := by
  obtain ⟨c, l, rfl, hc⟩ := h.head
  refine ⟨by simp, fun e => ?_⟩
  cases e
  revert hc; decide
theorem lead_name {s : List UInt8} (h : NameLike s) : lead (32 :: s) = 1 := by
  unfold lead
  have hsp : spaceB (((32 : UInt8).toNat : Int)) = true := rfl
  simp only [skipL, hsp, cond_true, h.skip]
theorem name_long {s : List UInt8} (h : NameLike s) (hl : 64 < s.length) (hl2 : s.length ≤ 1000) : scanM (32 :: s) [] = ([], 1, 5) := by
  refine scanM_fails _ [] rfl (by simp; omega) 1 5 ?_
  rw [lead_name h]
  show Fails [] 1 s 1 5
  have ht : tokL [] s = (0, 0, 5) := by
    unfold tokL
    rw [h.begins, h.name]
    simp only [cond_true, decide_eq_true (show s.length > 64 from hl)]
  exact Fails.here 1 s 0 0 5 h.ne.1 ht (by decide)
theorem name_short {s : List UInt8} (h : NameLike s) (hl : s.length ≤ 64) : scanM (32 :: s) [] = ([(0, s, 1), (4, [], 1 + s.length)], 0, 0) := by
  refine scanM_scans _ [] rfl (by simp; omega) _ ?_
  rw [lead_name h]
  show Scans [] 1 s _
  have ht : tokL [] s = (0, s.length, 0) := by
    unfold tokL
    rw [h.begins, h.name]
    simp only [cond_true, decide_eq_false (show ¬ s.length > 64 by omega), cond_false, List.take_length, decide_eq_false h.ne.2, decide_eq_false h.kw, List.not_mem_nil, decide_false, Bool.or_false]
  have hd : s.drop s.length = [] := List.drop_length
  have key := Scans.step 1 s 0 s.length [(4, [], 1 + s.length)] h.ne.1 ht (by
    rw [hd]
    show Scans [] (1 + s.length) (s.drop (s.length + 0)) _
    rw [Nat.add_zero, hd]
    exact .done _)
  rw [List.take_length] at key
  exact key
theorem run_rep : ∀ m, runL digitB (List.replicate m 55) = m
  | 0 => rfl
  | m + 1 => by
    have h : digitB (((55 : UInt8).toNat : Int)) = true := rfl
    simp only [List.replicate_succ, runL, h, cond_true, run_rep m]
theorem lead_num (m : Nat) : lead (List.replicate (m + 1) 55) = 0 := rfl
theorem tok_num (m : Nat) : tokL [] (List.replicate (m + 1) 55) = bif decide (m + 1 > 6) then (0, 0, 5) else (1, m + 1, 0) := by
  have hb : byteH (List.replicate (m + 1) 55) = 55 := rfl
  unfold tokL
  rw [hb, run_rep]
  have e1 : beginsB 55 = false := rfl
  have e2 : digitB 55 = true := rfl
  have e3 : decide ((55 : Int) = 48) = false := rfl
  have e4 : (List.replicate (m + 1) (55 : UInt8)).drop (m + 1) = [] := List.drop_eq_nil_of_le (by simp)
  rw [e1, e2, e3, e4]
  simp only [cond_false, cond_true, Bool.and_false, stopsB, Bool.not_true]
theorem num_long (m : Nat) (h : 6 < m + 1) (h2 : m ≤ 1000) : scanM (List.replicate (m + 1) 55) [] = ([], 0, 5) := by
  refine scanM_fails _ [] rfl (by simp; omega) 0 5 ?_
  rw [lead_num, List.drop_zero]
  have ht := tok_num m
  rw [decide_eq_true (show m + 1 > 6 from h)] at ht
  exact Fails.here 0 _ 0 0 5 (by simp) ht (by decide)
theorem num_short (m : Nat) (h : m + 1 ≤ 6) : scanM (List.replicate (m + 1) 55) [] = ([(1, List.replicate (m + 1) 55, 0), (4, [], m + 1)], 0, 0) := by
  refine scanM_scans _ [] rfl (by simp; omega) _ ?_
  rw [lead_num, List.drop_zero]
  have ht := tok_num m
  rw [decide_eq_false (show ¬ m + 1 > 6 by omega)] at ht
  have hd : (List.replicate (m + 1) (55 : UInt8)).drop (m + 1) = [] := List.drop_eq_nil_of_le (by simp)
  have key := Scans.step 0 (List.replicate (m + 1) 55) 1 (m + 1) [(4, [], m + 1)] (by simp) ht (by
    rw [hd]
    show Scans [] (0 + (m + 1) + 0) ((List.replicate (m + 1) (55 : UInt8)).drop (m + 1 + 0)) _
    rw [Nat.add_zero, Nat.add_zero, hd, Nat.zero_add]
    exact .done _)
  have htk : (List.replicate (m + 1) (55 : UInt8)).take (m + 1) = List.replicate (m + 1) 55 := List.take_of_length_le (by simp)
  rw [htk] at key
  exact key
end Go.Proofs.LxA
