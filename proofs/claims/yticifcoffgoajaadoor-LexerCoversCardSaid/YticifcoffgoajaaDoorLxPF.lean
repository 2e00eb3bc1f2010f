import Derived.Test.YticifcoffgoajaaDoorLx8
set_option linter.unusedVariables false
set_option linter.unusedSimpArgs false
set_option maxRecDepth 100000
namespace Go.Proofs.LxA
open Go Go.Am Go.Proofs Go.RowKit
set_option linter.unusedSectionVars false

/-! Between the tokens there are only white space and comments. -/
def gapL : Bool → List UInt8 → Option Bool
  | b, [] => some b
  | b, c :: x => bif decide (c = 10) then gapL false x else
      bif !(b || (decide (c = 45) && dash1 x)) && ((!decide (c = 32) && !decide (c = 9)) && !decide (c = 13)) then none else gapL (b || (decide (c = 45) && dash1 x)) x
theorem dI (c k : UInt8) : decide ((c.toNat : Int) = (k.toNat : Int)) = decide (c = k) := by
  rw [eqI, Bool.eq_iff_iff]; simp
theorem spaceB_bytes (c : UInt8) : spaceB (c.toNat : Int) = (decide (c = 32) || decide (c = 9) || decide (c = 13) || decide (c = 10)) := by
  have h1 : decide ((c.toNat : Int) = 32) = decide (c = 32) := dI c 32
  have h2 : decide ((c.toNat : Int) = 9) = decide (c = 9) := dI c 9
  have h3 : decide ((c.toNat : Int) = 13) = decide (c = 13) := dI c 13
  have h4 : decide ((c.toNat : Int) = 10) = decide (c = 10) := dI c 10
  unfold spaceB
  rw [h1, h2, h3, h4]
theorem gap_ok : ∀ (b : Bool) (x l : List UInt8), skipL b (x ++ l) = x.length → ∃ b', gapL b x = some b' ∧ (b' = true → l = [])
  | true, [], l, h => by
    cases l with
    | nil => exact ⟨true, rfl, fun _ => rfl⟩
    | cons c l => simp [skipL] at h
  | false, [], l, h => ⟨false, rfl, fun h => by cases h⟩
  | true, c :: x, l, h => by
    simp only [List.cons_append, skipL, List.length_cons] at h
    simp only [gapL, Bool.true_or, Bool.not_true, Bool.false_and, cond_false]
    have ih := gap_ok (!decide (c = 10)) x l (by omega)
    cases hc : decide (c = 10) with
    | true => rw [hc] at ih; exact ih
    | false => rw [hc] at ih; exact ih
  | false, c :: x, l, h => by
    simp only [List.cons_append, skipL, List.length_cons] at h
    simp only [gapL, Bool.false_or]
    cases h1 : spaceB (c.toNat : Int) with
    | true =>
      rw [h1] at h
      simp only [cond_true] at h
      have ih := gap_ok false x l (by omega)
      rw [spaceB_bytes] at h1
      cases hc : decide (c = 10) with
      | true => exact ih
      | false =>
        rw [hc] at h1
        have h45 : decide (c = 45) = false := by
          cases h2 : decide (c = 45) with
          | false => rfl
          | true => have := of_decide_eq_true h2; subst this; simp at h1
        rw [h45]
        simp only [Bool.false_and, Bool.not_false, Bool.true_and, cond_false]
        have : (!decide (c = 32) && !decide (c = 9) && !decide (c = 13)) = false := by
          revert h1
          cases decide (c = 32) <;> cases decide (c = 9) <;> cases decide (c = 13) <;> simp
        rw [this]
        exact ih
    | false =>
      rw [h1] at h
      simp only [cond_false] at h
      cases h2 : (decide (c = 45) && dash1 (x ++ l)) with
      | false => rw [h2] at h; simp at h
      | true =>
        rw [h2] at h
        simp only [cond_true] at h
        have h3 : dash1 x = dash1 (x ++ l) := by
          cases x with
          | nil =>
            cases l with
            | nil => simp [dash1] at h2
            | cons d l => simp [skipL] at h
          | cons d x => rfl
        rw [h3, h2]
        rw [spaceB_bytes] at h1
        have hc : decide (c = 10) = false := by
          revert h1
          cases decide (c = 10) <;> simp
        rw [hc]
        exact gap_ok true x l (by omega)

theorem tokL_kind (sy : List (List UInt8)) (l : List UInt8) : (tokL sy l).1 ≤ 3 := by
  unfold tokL
  cases beginsB (byteH l) with
  | true =>
    simp only [cond_true]
    cases decide (nameL l > 64) with
    | true => simp
    | false =>
      simp only [cond_false]
      cases decide (List.take (nameL l) l = [95]) || decide (List.take (nameL l) l ∈ sy) with
      | true => simp
      | false =>
        simp only [cond_false]
        cases decide (List.take (nameL l) l ∈ kwL) <;> simp
  | false =>
    simp only [cond_false]
    cases digitB (byteH l) with
    | true =>
      simp only [cond_true]
      cases decide (runL digitB l > 6) with
      | true => simp
      | false =>
        simp only [cond_false]
        cases decide (runL digitB l > 1) && decide (byteH l = 48) with
        | true => simp
        | false =>
          simp only [cond_false]
          cases stopsB isComp (l.drop (runL digitB l)) <;> simp
    | false =>
      simp only [cond_false]
      cases decide (byteH l = 34) with
      | true =>
        simp only [cond_true]
        cases decide (byteH (l.drop (runL quoP (l.drop 1) + 1)) = 34) <;> simp
      | false =>
        simp only [cond_false]
        generalize longL (fixedL ++ sy) l = q
        cases decide (q = 0) <;> simp

/-- What the walk over the tokens meets. -/
structure Cov (sy : List (List UInt8)) (s : List UInt8) (off : Nat) (t : Tok) (rest : List Tok) : Prop where
  at_ : t.2.2 = off
  le : off + t.2.1.length ≤ s.length
  cut : (s.take (off + t.2.1.length)).drop off = t.2.1
  last : t.1 = 4 ↔ rest = []
  void : t.2.1 = [] ↔ t.1 = 4
  fin : s.drop off = [] → t.1 = 4
  next : rest ≠ [] → Scans sy (off + t.2.1.length + skipL false (s.drop (off + t.2.1.length))) (s.drop (off + t.2.1.length + skipL false (s.drop (off + t.2.1.length)))) rest
theorem cov_of {sy : List (List UInt8)} {s : List UInt8} {off : Nat} {l : List UInt8} {ts : List Tok} (hS : Scans sy off l ts) (hl : s.drop off = l) (ho : off ≤ s.length) : ∃ t rest, ts = t :: rest ∧ Cov sy s off t rest := by
  cases hS with
  | done =>
    have : s.length ≤ off := by
      have := congrArg List.length hl
      simp only [List.length_drop, List.length_nil] at this; omega
    have he : off = s.length := by omega
    subst he
    exact ⟨_, _, rfl, rfl, Nat.le_refl _, by simp, by simp, by simp, fun _ => rfl, fun h => absurd rfl h⟩
  | step _ _ k n ts h ht hs =>
    have hok := tokL_ok sy l h (by rw [ht])
    have hk := tokL_kind sy l
    rw [ht] at hok hk
    simp only at hok hk
    have hll : l.length = s.length - off := by rw [← hl, List.length_drop]
    have hlen : (l.take n).length = n := by rw [List.length_take]; omega
    have hdd : s.drop (off + n) = l.drop n := by rw [← hl, List.drop_drop]
    obtain ⟨t', r', hts⟩ := hs.ne
    refine ⟨_, _, rfl, rfl, ?_, ?_, ?_, ?_, ?_, ?_⟩
    · show off + (l.take n).length ≤ _
      rw [hlen]; omega
    · show (s.take (off + (l.take n).length)).drop off = l.take n
      rw [hlen]
      have := slice_drop s off n
      unfold slice at this
      rw [this, hl]
    · show k = 4 ↔ ts = []
      rw [hts]
      constructor
      · intro e; omega
      · intro e; cases e
    · show l.take n = [] ↔ k = 4
      constructor
      · intro e
        have := congrArg List.length e
        rw [hlen] at this
        simp at this; omega
      · intro e; omega
    · intro e; rw [hl] at e; exact absurd e h
    · intro _
      show Scans sy (off + (l.take n).length + _) _ ts
      rw [hlen, hdd]
      have : s.drop (off + n + skipL false (l.drop n)) = l.drop (n + skipL false (l.drop n)) := by
        rw [← hl]; simp only [List.drop_drop, Nat.add_assoc]
      rw [this]
      exact hs
theorem Scans.last {sy : List (List UInt8)} {off : Nat} {l : List UInt8} {ts : List Tok} (hS : Scans sy off l ts) : ∃ t, ts[ts.length - 1]? = some t ∧ t.2.2 = off + l.length := by
  induction hS with
  | done off => exact ⟨_, rfl, rfl⟩
  | step off l k n ts h ht hs ih =>
    obtain ⟨t, h1, h2⟩ := ih
    obtain ⟨t', r', hts⟩ := hs.ne
    have hok := tokL_ok sy l h (by rw [ht])
    rw [ht] at hok
    simp only at hok
    have hkb := skipL_le false (l.drop n)
    rw [List.length_drop] at hkb
    refine ⟨t, ?_, ?_⟩
    · rw [List.length_cons, show ts.length + 1 - 1 = ts.length - 1 + 1 by rw [hts]; simp]
      exact h1
    · rw [h2, List.length_drop]; omega
end Go.Proofs.LxA
