import Derived.Test.YticifcoffgoajaaDoorLx6
import Derived.Test.YticifcoffgoajaaDoorLx4
import Derived.Test.YticifcoffgoajaaDoorLx3
import Derived.Test.YticifcoffgoajaaDoorLx2
set_option linter.unusedVariables false
set_option linter.unusedSimpArgs false
set_option maxRecDepth 100000
namespace Go.Proofs.LxA
open Go Go.Am Go.Proofs Go.RowKit
set_option linter.unusedSectionVars false

/-! The scanner over the rest of a source: plain lists. -/
def byteH (l : List UInt8) : Int := byteI l 0
theorem byteH_cons (c : UInt8) (l : List UInt8) : byteH (c :: l) = (c.toNat : Int) := rfl
theorem byteH_nil : byteH [] = 0 := rfl
theorem byteI_drop (s : List UInt8) (i j : Nat) : byteI (s.drop i) j = byteI s (i + j) := by
  unfold byteI
  rw [List.getD_eq_getElem?_getD, List.getD_eq_getElem?_getD, List.getElem?_drop]
theorem byteH_drop (s : List UInt8) (i : Nat) : byteH (s.drop i) = byteI s i := by
  unfold byteH; rw [byteI_drop]; rfl

/-- How many bytes of a kind a list begins with. -/
def runL (p : Int → Bool) : List UInt8 → Nat
  | [] => 0
  | c :: l => bif p (c.toNat : Int) then runL p l + 1 else 0
theorem runL_le (p : Int → Bool) : ∀ l, runL p l ≤ l.length
  | [] => Nat.le_refl _
  | c :: l => by
    simp only [runL, List.length_cons]
    have := runL_le p l
    cases p (c.toNat : Int) <;> simp <;> omega
def stopsB (p : Int → Bool) : List UInt8 → Bool
  | [] => true
  | c :: _ => !p (c.toNat : Int)
theorem runL_stops (p : Int → Bool) (r : List UInt8) (h : stopsB p r = true) : runL p r = 0 := by
  cases r with
  | nil => rfl
  | cons c r =>
    simp only [stopsB, Bool.not_eq_true'] at h
    simp [runL, h]
theorem stops_runL (p : Int → Bool) : ∀ l : List UInt8, stopsB p (l.drop (runL p l)) = true
  | [] => rfl
  | c :: l => by
    simp only [runL]
    cases h : p (c.toNat : Int) with
    | true => simpa using stops_runL p l
    | false => simp [stopsB, h]
theorem runL_cut (p : Int → Bool) (r : List UInt8) (hr : stopsB p r = true) : ∀ (l : List UInt8) (m : Nat), runL p l ≤ m → m ≤ l.length → runL p (l.take m ++ r) = runL p l
  | [], m, _, hm => by
    have : m = 0 := by simpa using hm
    subst this
    exact runL_stops p r hr
  | c :: l, m, h, hm => by
    simp only [runL] at h ⊢
    cases m with
    | zero =>
      simp only [List.take_zero, List.nil_append]
      rw [runL_stops p r hr]
      cases hp : p (c.toNat : Int) with
      | true => rw [hp] at h; simp at h
      | false => rfl
    | succ m =>
      simp only [List.take_succ_cons, List.cons_append, runL]
      cases hp : p (c.toNat : Int) with
      | true =>
        rw [hp] at h
        simp only [cond_true] at h ⊢
        rw [runL_cut p r hr l m (by omega) (by simpa using hm)]
      | false => rfl
theorem runL_all (p : Int → Bool) : ∀ (l : List UInt8), (∀ c ∈ l, p (c.toNat : Int) = true) → runL p l = l.length
  | [], _ => rfl
  | c :: l, h => by
    simp only [runL, h c (by simp), cond_true, List.length_cons]
    rw [runL_all p l fun d hd => h d (by simp [hd])]

def begins1 : List UInt8 → Bool
  | [] => false
  | c :: _ => beginsB (c.toNat : Int)
def nameL : List UInt8 → Nat
  | [] => 0
  | c :: l => bif isComp (c.toNat : Int) || (decide (c = 46) && begins1 l) then nameL l + 1 else 0
theorem begins1_name (l : List UInt8) (h : begins1 l = true) : 0 < nameL l := by
  cases l with
  | nil => cases h
  | cons c l =>
    simp only [begins1] at h
    simp [nameL, isComp, h]
theorem nameL_le : ∀ l, nameL l ≤ l.length
  | [] => Nat.le_refl _
  | c :: l => by
    simp only [nameL, List.length_cons]
    have := nameL_le l
    cases (isComp (c.toNat : Int) || (decide (c = 46) && begins1 l)) <;> simp <;> omega
theorem nameL_cut (r : List UInt8) (hr : nameL r = 0) (hb : begins1 r = false) : ∀ (l : List UInt8) (m : Nat), nameL l ≤ m → m ≤ l.length → nameL (l.take m ++ r) = nameL l
  | [], m, _, hm => by
    have : m = 0 := by simpa using hm
    subst this
    exact hr
  | c :: l, m, h, hm => by
    cases m with
    | zero =>
      simp only [List.take_zero, List.nil_append]
      omega
    | succ m =>
      simp only [nameL] at h ⊢
      simp only [List.take_succ_cons, List.cons_append, nameL]
      simp only [List.length_cons] at hm
      cases h1 : isComp (c.toNat : Int) with
      | true =>
        rw [h1] at h
        simp only [Bool.true_or, cond_true] at h ⊢
        rw [nameL_cut r hr hb l m (by omega) (by omega)]
      | false =>
        rw [h1] at h
        simp only [Bool.false_or] at h ⊢
        cases h2 : decide (c = 46) with
        | false => rfl
        | true =>
          rw [h2] at h
          simp only [Bool.true_and] at h ⊢
          cases h3 : begins1 l with
          | true =>
            rw [h3] at h
            simp only [cond_true] at h ⊢
            have h4 := begins1_name l h3
            have h5 : begins1 (l.take m ++ r) = true := by
              cases l with
              | nil => cases h3
              | cons d l =>
                cases m with
                | zero => omega
                | succ m => exact h3
            rw [h5, nameL_cut r hr hb l m (by omega) (by omega)]
            rfl
          | false =>
            have h5 : begins1 (l.take m ++ r) = false := by
              cases m with
              | zero => simpa using hb
              | succ m =>
                cases l with
                | nil => simp at hm
                | cons d l => exact h3
            rw [h5]; rfl
theorem nameL_comp : ∀ l : List UInt8, nameL l = runL isComp l + nameL (l.drop (runL isComp l))
  | [] => rfl
  | c :: l => by
    cases h : isComp (c.toNat : Int) with
    | true =>
      simp only [nameL, runL, h, Bool.true_or, cond_true, List.drop_succ_cons]
      have := nameL_comp l
      omega
    | false => simp [runL, h]
theorem nameL_all (l : List UInt8) (h : ∀ c ∈ l, isComp (c.toNat : Int) = true) : nameL l = l.length := by
  rw [nameL_comp, runL_all isComp l h, List.drop_length]
  rfl

/-! From offsets to rests. -/
theorem compEnd_run (s : List UInt8) : ∀ (n i : Nat), s.length - i < n → i ≤ s.length → compEnd s n i = i + runL isComp (s.drop i)
  | 0, i, h, _ => by omega
  | n + 1, i, h, hl => by
    by_cases hi : i < s.length
    · rw [List.drop_eq_getElem_cons hi]
      simp only [compEnd, runL, byteI_at s i hi]
      cases hc : isComp (s[i].toNat : Int) with
      | true =>
        rw [if_pos ⟨hi, rfl⟩, compEnd_run s n (i + 1) (by omega) (by omega)]
        simp only [cond_true]; omega
      | false => rw [if_neg (by simp)]; rfl
    · have : i = s.length := by omega
      subst this
      simp [compEnd, runL]
theorem digEnd_run (s : List UInt8) : ∀ (n i : Nat), s.length - i < n → i ≤ s.length → digEnd s n i = i + runL digitB (s.drop i)
  | 0, i, h, _ => by omega
  | n + 1, i, h, hl => by
    by_cases hi : i < s.length
    · rw [List.drop_eq_getElem_cons hi]
      simp only [digEnd, digAt, runL, byteI_at s i hi, hi, decide_true, Bool.true_and]
      cases hc : digitB (s[i].toNat : Int) with
      | true =>
        simp only [cond_true]
        rw [digEnd_run s n (i + 1) (by omega) (by omega)]
        omega
      | false => rfl
    · have : i = s.length := by omega
      subst this
      simp [digEnd, digAt, runL]
def quoP (c : Int) : Bool := !decide (c = 34) && !decide (c = 10)
theorem quoEnd_run (s : List UInt8) : ∀ (n i : Nat), s.length - i < n → i ≤ s.length → quoEnd s n i = i + runL quoP (s.drop i)
  | 0, i, h, _ => by omega
  | n + 1, i, h, hl => by
    by_cases hi : i < s.length
    · rw [List.drop_eq_getElem_cons hi]
      simp only [quoEnd, quoAt, runL, quoP, byteI_at s i hi, hi, decide_true, Bool.true_and]
      cases hc : (!decide ((s[i].toNat : Int) = 34) && !decide ((s[i].toNat : Int) = 10)) with
      | true =>
        simp only [cond_true]
        rw [quoEnd_run s n (i + 1) (by omega) (by omega)]
        have : runL quoP = runL fun c => (!decide (c = 34) && !decide (c = 10)) := rfl
        rw [this]
        omega
      | false => rfl
    · have : i = s.length := by omega
      subst this
      simp [quoEnd, quoAt, runL]
theorem nameLoop_name (s : List UInt8) : ∀ (n i : Nat), s.length - i < n → i ≤ s.length → stopsB isComp (s.drop i) = true → nameLoop s n i = i + nameL (s.drop i)
  | 0, i, h, _, _ => by omega
  | n + 1, i, h, hl, hs => by
    by_cases hi : i < s.length
    · rw [List.drop_eq_getElem_cons hi] at hs ⊢
      simp only [stopsB, Bool.not_eq_true'] at hs
      simp only [nameLoop, nameL, hs, Bool.false_or]
      have hd : dotB s i = (decide (s[i] = 46) && begins1 (s.drop (i + 1))) := by
        unfold dotB
        rw [byteI_at s i hi]
        have e1 := eqI s[i] 46
        have e2 : decide ((s[i].toNat : Int) = 46) = (s[i] == 46) := e1
        have e3 : (s[i] == 46) = decide (s[i] = 46) := by rw [Bool.eq_iff_iff]; simp
        rw [e2, e3]
        by_cases hi1 : i + 1 < s.length
        · rw [List.drop_eq_getElem_cons hi1, byteI_at s (i + 1) hi1]
          simp only [hi1, decide_true, Bool.true_and, begins1]
        · rw [List.drop_eq_nil_of_le (by omega)]
          simp [hi1, begins1]
      rw [hd]
      cases hdd : (decide (s[i] = 46) && begins1 (s.drop (i + 1))) with
      | false => rfl
      | true =>
        simp only [cond_true]
        have h1 := compEnd_run s (s.length + 1) (i + 1) (by omega) (by omega)
        have h2 := compEnd_le s (s.length + 1) (i + 1) (by omega)
        have h3 := nameLoop_name s n (compEnd s (s.length + 1) (i + 1)) (by omega) h2.2 (by
          rw [h1]
          have := stops_runL isComp (s.drop (i + 1))
          rwa [List.drop_drop] at this)
        rw [h3, h1]
        have h4 := nameL_comp (s.drop (i + 1))
        rw [List.drop_drop] at h4
        omega
    · have : i = s.length := by omega
      subst this
      have hd : dotB s s.length = false := by
        unfold dotB
        rw [decide_eq_false (by omega : ¬ s.length + 1 < s.length)]; rfl
      simp only [nameLoop, hd, cond_false, List.drop_length, nameL, Nat.add_zero]
theorem nameEnd_name (s : List UInt8) (i : Nat) (hi : i ≤ s.length) : nameEnd s i = i + nameL (s.drop i) := by
  have h1 := compEnd_run s (s.length + 1) i (by omega) hi
  have h2 := compEnd_le s (s.length + 1) i hi
  unfold nameEnd
  rw [nameLoop_name s (s.length + 1) (compEnd s (s.length + 1) i) (by omega) h2.2 (by
    rw [h1]
    have := stops_runL isComp (s.drop i)
    rwa [List.drop_drop] at this), h1]
  have h4 := nameL_comp (s.drop i)
  rw [List.drop_drop] at h4
  omega

/-- How many bytes are white space and comments (b: within a comment). -/
def dash1 : List UInt8 → Bool
  | [] => false
  | c :: _ => decide (c = 45)
def skipL : Bool → List UInt8 → Nat
  | _, [] => 0
  | true, c :: l => skipL (!decide (c = 10)) l + 1
  | false, c :: l => bif spaceB (c.toNat : Int) then skipL false l + 1 else bif decide (c = 45) && dash1 l then skipL true l + 1 else 0
theorem skipL_le : ∀ (b : Bool) (l : List UInt8), skipL b l ≤ l.length
  | b, [] => by cases b <;> exact Nat.le_refl _
  | true, c :: l => by
    simp only [skipL, List.length_cons]
    have := skipL_le (!decide (c = 10)) l
    omega
  | false, c :: l => by
    simp only [skipL, List.length_cons]
    have h1 := skipL_le false l
    have h2 := skipL_le true l
    cases spaceB (c.toNat : Int) <;> cases (decide (c = 45) && dash1 l) <;> simp <;> omega

theorem spaceB_ten (c : UInt8) (h : c = 10) : spaceB (c.toNat : Int) = true := by subst h; rfl
theorem skip_line : ∀ (l : List UInt8), skipL true l = runL (fun c => !decide (c = 10)) l + skipL false (l.drop (runL (fun c => !decide (c = 10)) l))
  | [] => rfl
  | c :: l => by
    have e1 := eqI c 10
    have e2 : decide ((c.toNat : Int) = 10) = (c == 10) := e1
    by_cases h : c = 10
    · subst h
      have h10 : decide (((10 : UInt8).toNat : Int) = 10) = true := rfl
      have hsp : spaceB (((10 : UInt8).toNat : Int)) = true := rfl
      simp only [runL, skipL, h10, hsp, decide_true, Bool.not_true, cond_false, cond_true, List.drop_zero]
      omega
    · have h1 : decide ((c.toNat : Int) = 10) = false := by rw [e2]; simpa using h
      simp only [skipL, runL, h1, decide_eq_false h, Bool.not_false, cond_true, List.drop_succ_cons]
      have := skip_line l
      omega
theorem lineEnd_run (s : List UInt8) : ∀ (n i : Nat), s.length - i < n → i ≤ s.length → lineEnd s n i = i + runL (fun c => !decide (c = 10)) (s.drop i)
  | 0, i, h, _ => by omega
  | n + 1, i, h, hl => by
    by_cases hi : i < s.length
    · rw [List.drop_eq_getElem_cons hi]
      simp only [lineEnd, lineB, runL, byteI_at s i hi, hi, decide_true, Bool.true_and]
      cases hc : (!decide ((s[i].toNat : Int) = 10)) with
      | true =>
        simp only [cond_true]
        rw [lineEnd_run s n (i + 1) (by omega) (by omega)]
        omega
      | false => rfl
    · have : i = s.length := by omega
      subst this
      simp [lineEnd, lineB, runL]
theorem dashB_drop (s : List UInt8) (i : Nat) (hi : i < s.length) : dashB s i = (decide (s[i] = 45) && dash1 (s.drop (i + 1))) := by
  unfold dashB
  rw [byteI_at s i hi]
  have e3 : ∀ c : UInt8, decide ((c.toNat : Int) = 45) = decide (c = 45) := fun c => by
    have e1 := eqI c 45
    have e2 : decide ((c.toNat : Int) = 45) = (c == 45) := e1
    rw [e2, Bool.eq_iff_iff]; simp
  rw [e3]
  by_cases hi1 : i + 1 < s.length
  · rw [List.drop_eq_getElem_cons hi1, byteI_at s (i + 1) hi1, e3]
    simp only [hi1, decide_true, Bool.true_and, dash1]
  · rw [List.drop_eq_nil_of_le (by omega)]
    simp [hi1, dash1]
theorem skipM_skip (s : List UInt8) : ∀ (n i : Nat), s.length - i < n → i ≤ s.length → skipM s n i = i + skipL false (s.drop i)
  | 0, i, h, _ => by omega
  | n + 1, i, h, hl => by
    by_cases hi : i < s.length
    · have hdb := dashB_drop s i hi
      have hlr := lineEnd_run s (s.length + 1) i (by omega) hl
      have hle := lineEnd_le s (s.length + 1) i hl
      have hsl := skip_line (s.drop i)
      rw [List.drop_drop] at hsl
      have hcons := List.drop_eq_getElem_cons hi
      simp only [skipM, byteI_at s i hi, hi, decide_true, cond_true]
      cases h1 : spaceB (s[i].toNat : Int) with
      | true =>
        simp only [cond_true]
        rw [hcons, skipM_skip s n (i + 1) (by omega) (by omega)]
        simp only [skipL, h1, cond_true]; omega
      | false =>
        simp only [cond_false]
        cases h2 : dashB s i with
        | true =>
          have h3 := lineEnd_dash s i h2
          simp only [cond_true]
          rw [skipM_skip s n _ (by omega) hle.2, hlr]
          have h4 : skipL false (s.drop i) = skipL true (s.drop i) := by
            rw [hcons]
            rw [hdb] at h2
            have h5 : s[i] ≠ 10 := by rintro e; rw [spaceB_ten _ e] at h1; cases h1
            simp only [skipL, h1, h2, cond_true, cond_false, decide_eq_false h5, Bool.not_false]
          omega
        | false =>
          rw [hcons]
          rw [hdb] at h2
          simp only [skipL, h1, h2, cond_false]; rfl
    · have : i = s.length := by omega
      subst this
      simp [skipM, skipL]
theorem skipL_idem : ∀ (b : Bool) (l : List UInt8), skipL false (l.drop (skipL b l)) = 0
  | b, [] => by cases b <;> rfl
  | true, c :: l => by
    simp only [skipL, List.drop_succ_cons]
    exact skipL_idem _ l
  | false, c :: l => by
    simp only [skipL]
    cases h1 : spaceB (c.toNat : Int) with
    | true => simpa using skipL_idem false l
    | false =>
      cases h2 : (decide (c = 45) && dash1 l) with
      | true => simpa using skipL_idem true l
      | false => simp [skipL, h1, h2]
/-- Cutting behind the place where skipping ends. -/
theorem skipL_cut (r : List UInt8) : ∀ (b : Bool) (l : List UInt8) (m : Nat), skipL b l < m → m ≤ l.length → (m = skipL b l + 1 → dash1 r = true → dash1 (l.drop (skipL b l)) = false) → skipL b (l.take m ++ r) = skipL b l
  | b, [], m, h, hm, _ => by simp at hm; omega
  | true, c :: l, m, h, hm, hd => by
    cases m with
    | zero => omega
    | succ m =>
      simp only [skipL, List.take_succ_cons, List.cons_append] at *
      rw [skipL_cut r _ l m (by omega) (by simpa using hm) (fun e => hd (by omega))]
  | false, c :: l, m, h, hm, hd => by
    cases m with
    | zero => omega
    | succ m =>
      simp only [List.length_cons] at hm
      simp only [skipL, List.take_succ_cons, List.cons_append] at *
      cases h1 : spaceB (c.toNat : Int) with
      | true =>
        rw [h1] at h hd
        simp only [cond_true] at *
        rw [skipL_cut r _ l m (by omega) (by omega) (fun e => hd (by omega))]
      | false =>
        rw [h1] at h hd
        simp only [cond_false] at *
        cases h2 : decide (c = 45) with
        | false => rfl
        | true =>
          rw [h2] at h hd
          simp only [Bool.true_and] at *
          cases h3 : dash1 l with
          | true =>
            rw [h3] at h hd
            simp only [cond_true] at *
            have h4 : 0 < skipL true l := by
              cases l with
              | nil => cases h3
              | cons d l => simp [skipL]
            have h5 : dash1 (l.take m ++ r) = true := by
              cases l with
              | nil => cases h3
              | cons d l =>
                cases m with
                | zero => omega
                | succ m => exact h3
            rw [h5, skipL_cut r _ l m (by omega) (by omega) (fun e => hd (by omega))]
            rfl
          | false =>
            rw [h3] at hd
            simp only [cond_false] at hd
            have h5 : dash1 (l.take m ++ r) = false := by
              cases m with
              | zero =>
                cases hr : dash1 r with
                | false => simpa using hr
                | true =>
                  have := hd rfl hr
                  simp only [List.drop_zero, dash1] at this
                  rw [this] at h2; cases h2
              | succ m =>
                cases l with
                | nil => simp at hm
                | cons d l => exact h3
            rw [h5]
            rfl
/-- White space put where skipping ends. -/
theorem skipL_ins (sp : List UInt8) (hsp : ∀ l, skipL false (sp ++ l) = sp.length + skipL false l) (hsp2 : skipL true sp = sp.length) : ∀ (b : Bool) (x l : List UInt8), skipL b (x ++ l) = x.length → skipL b (x ++ (sp ++ l)) = x.length + sp.length
  | true, [], l, h => by
    cases l with
    | nil => simpa using hsp2
    | cons c l => simp [skipL] at h
  | false, [], l, h => by
    simp only [List.nil_append, List.length_nil] at h ⊢
    rw [hsp, h]; omega
  | true, c :: x, l, h => by
    simp only [List.cons_append, skipL, List.length_cons] at h ⊢
    rw [skipL_ins sp hsp hsp2 _ x l (by omega)]; omega
  | false, c :: x, l, h => by
    simp only [List.cons_append, skipL, List.length_cons] at h ⊢
    cases h1 : spaceB (c.toNat : Int) with
    | true =>
      rw [h1] at h
      simp only [cond_true] at h ⊢
      rw [skipL_ins sp hsp hsp2 _ x l (by omega)]; omega
    | false =>
      rw [h1] at h
      simp only [cond_false] at h ⊢
      cases h2 : (decide (c = 45) && dash1 (x ++ l)) with
      | false => rw [h2] at h; simp at h
      | true =>
        rw [h2] at h
        simp only [cond_true] at h
        have h3 : dash1 (x ++ (sp ++ l)) = dash1 (x ++ l) := by
          cases x with
          | nil =>
            cases l with
            | nil => simp [dash1] at h2
            | cons d l => simp [skipL] at h
          | cons d x => rfl
        rw [h3, h2]
        simp only [cond_true]
        rw [skipL_ins sp hsp hsp2 _ x l (by omega)]; omega
end Go.Proofs.LxA
set_option linter.unusedVariables false
set_option linter.unusedSimpArgs false
set_option maxRecDepth 100000
namespace Go.Proofs.LxA
open Go Go.Am Go.Proofs Go.RowKit
set_option linter.unusedSectionVars false

/-! The longest symbol at the head of a rest. -/
def preB (l x : List UInt8) : Bool := decide (l.take x.length = x)
theorem matchB_pre (s : List UInt8) (at_ : Nat) (x : List UInt8) (h : at_ ≤ s.length) : matchB s at_ x = preB (s.drop at_) x := by
  unfold matchB preB
  rw [Bool.eq_iff_iff]
  simp only [Bool.and_eq_true, decide_eq_true_eq]
  have e : (s.take (at_ + x.length)).drop at_ = (s.drop at_).take x.length := by
    rw [List.drop_take]; congr 1; omega
  rw [e]
  constructor
  · exact fun h => h.2
  · intro h2
    refine ⟨?_, h2⟩
    have := congrArg List.length h2
    simp only [List.length_take, List.length_drop] at this
    omega
def longStepL (l : List UInt8) (best : Nat) (x : List UInt8) : Nat := bif decide (best < x.length) && preB l x then x.length else best
def longL (L : List (List UInt8)) (l : List UInt8) : Nat := L.foldl (longStepL l) 0
theorem longM_long (s : List UInt8) (at_ : Nat) (L : List (List UInt8)) (h : at_ ≤ s.length) : longestM s at_ L = longL L (s.drop at_) := by
  have : longStep s at_ = longStepL (s.drop at_) := by
    funext b x
    unfold longStep longStepL
    rw [matchB_pre s at_ x h]
  unfold longestM longL
  rw [this]
theorem longL_max (L : List (List UInt8)) (l : List UInt8) : (∀ x ∈ L, preB l x = true → x.length ≤ longL L l) ∧ (longL L l = 0 ∨ ∃ x ∈ L, preB l x = true ∧ x.length = longL L l) := by
  obtain ⟨_, h2, h3⟩ := long_max l 0 L 0
  have e : L.foldl (longStep l 0) 0 = longL L l := by
    have := longM_long l 0 L (Nat.zero_le _)
    rw [List.drop_zero] at this
    exact this
  rw [e] at h2 h3
  have hm : ∀ x, matchB l 0 x = preB l x := fun x => by
    have := matchB_pre l 0 x (Nat.zero_le _)
    rwa [List.drop_zero] at this
  simp only [hm] at h2 h3
  exact ⟨h2, h3⟩
theorem take_cut (l r : List UInt8) (m k : Nat) (hk : k ≤ m) (hm : m ≤ l.length) : (l.take m ++ r).take k = l.take k := by
  rw [List.take_append_of_le_length (by rw [List.length_take]; omega), List.take_take]
  congr 1; omega
theorem preB_cut (l r x : List UInt8) (m : Nat) (hk : x.length ≤ m) (hm : m ≤ l.length) : preB (l.take m ++ r) x = preB l x := by
  unfold preB
  rw [take_cut l r m x.length hk hm]
theorem longL_cut (L : List (List UInt8)) (l r : List UInt8) (m : Nat) (hn : longL L l ≤ m) (hm : m ≤ l.length) (hr : ∀ x ∈ L, preB (l.take m ++ r) x = true → x.length ≤ m) : longL L (l.take m ++ r) = longL L l := by
  obtain ⟨a1, a2⟩ := longL_max L l
  obtain ⟨b1, b2⟩ := longL_max L (l.take m ++ r)
  refine Nat.le_antisymm ?_ ?_
  · rcases b2 with b2 | ⟨x, hx, hp, hl⟩
    · omega
    · have h1 := hr x hx hp
      rw [preB_cut l r x m h1 hm] at hp
      have := a1 x hx hp
      omega
  · rcases a2 with a2 | ⟨x, hx, hp, hl⟩
    · omega
    · rw [← preB_cut l r x m (by omega) hm] at hp
      have := b1 x hx hp
      omega

/-- What may stand behind a cut. -/
def brk (L : List (List UInt8)) (r : List UInt8) : Prop := ∀ c r', r = c :: r' → isComp (c.toNat : Int) = false ∧ c ≠ 46 ∧ ∀ x ∈ L, c ∉ x.drop 1
theorem brk_nil (L : List (List UInt8)) : brk L [] := fun c r' h => by cases h
theorem brk.stops {L : List (List UInt8)} {r : List UInt8} (h : brk L r) : stopsB isComp r = true := by
  cases r with
  | nil => rfl
  | cons c r => simp only [stopsB, (h c r rfl).1, Bool.not_false]
theorem brk.name {L : List (List UInt8)} {r : List UInt8} (h : brk L r) : nameL r = 0 := by
  cases r with
  | nil => rfl
  | cons c r =>
    have := h c r rfl
    simp only [nameL, this.1, decide_eq_false this.2.1, Bool.false_and, Bool.or_false, cond_false]
theorem comp_begins (c : Int) (h : isComp c = false) : beginsB c = false ∧ digitB c = false := by
  unfold isComp at h
  simp only [Bool.or_eq_false_iff] at h
  exact h.1
theorem brk.begins {L : List (List UInt8)} {r : List UInt8} (h : brk L r) : begins1 r = false := by
  cases r with
  | nil => rfl
  | cons c r => exact (comp_begins _ (h c r rfl).1).1
theorem brk.digit {L : List (List UInt8)} {r : List UInt8} (h : brk L r) : stopsB digitB r = true := by
  cases r with
  | nil => rfl
  | cons c r => simp only [stopsB, (comp_begins _ (h c r rfl).1).2, Bool.not_false]
theorem brk.long {L : List (List UInt8)} {r : List UInt8} (h : brk L r) (l : List UInt8) (m : Nat) (h0 : 0 < m) (hm : m ≤ l.length) : ∀ x ∈ L, preB (l.take m ++ r) x = true → x.length ≤ m := by
  intro x hx hp
  unfold preB at hp
  have hp := of_decide_eq_true hp
  by_cases hlt : x.length ≤ m
  · exact hlt
  · exfalso
    have hl := congrArg List.length hp
    simp only [List.length_take, List.length_append] at hl
    cases r with
    | nil => simp only [List.length_nil] at hl; omega
    | cons c r =>
      have h1 : x[m]? = some c := by
        rw [← hp, List.getElem?_take_of_lt (by omega), List.getElem?_append_right (by simp; omega)]
        simp only [List.length_take]
        rw [show m - min m l.length = 0 by omega]; rfl
      refine (h c r rfl).2.2 x hx ?_
      refine List.mem_of_getElem? (i := m - 1) ?_
      rw [List.getElem?_drop, show 1 + (m - 1) = m by omega]
      exact h1

/-! One token. -/
def tokL (sy : List (List UInt8)) (l : List UInt8) : Nat × Nat × Nat :=
  bif beginsB (byteH l) then
    bif decide (nameL l > 64) then (0, 0, 5) else
    bif decide (l.take (nameL l) = [95]) || decide (l.take (nameL l) ∈ sy) then (2, nameL l, 0) else
    bif decide (l.take (nameL l) ∈ kwL) then (3, nameL l, 0) else (0, nameL l, 0)
  else bif digitB (byteH l) then
    bif decide (runL digitB l > 6) then (0, 0, 5) else
    bif decide (runL digitB l > 1) && decide (byteH l = 48) then (0, 0, 4) else
    bif !stopsB isComp (l.drop (runL digitB l)) then (0, runL digitB l, 4) else (1, runL digitB l, 0)
  else bif decide (byteH l = 34) then
    bif !decide (byteH (l.drop (runL quoP (l.drop 1) + 1)) = 34) then (0, 0, 4) else (2, runL quoP (l.drop 1) + 2, 0)
  else
    bif decide (longL (fixedL ++ sy) l = 0) then (0, 0, 4) else (2, longL (fixedL ++ sy) l, 0)

theorem slice_drop (s : List UInt8) (a n : Nat) : slice s a (a + n) = (s.drop a).take n := by
  unfold slice
  rw [List.drop_take]; congr 1; omega
theorem stops_more (s : List UInt8) (i : Nat) (h : stopsB digitB (s.drop i) = true) : (decide (i < s.length) && (beginsB (byteI s i) || decide (byteI s i = 39))) = !stopsB isComp (s.drop i) := by
  by_cases hi : i < s.length
  · rw [List.drop_eq_getElem_cons hi] at h ⊢
    simp only [stopsB, Bool.not_eq_true'] at h
    rw [byteI_at s i hi]
    simp only [hi, decide_true, Bool.true_and, stopsB, Bool.not_not, isComp, h, Bool.or_false]
  · rw [List.drop_eq_nil_of_le (by omega)]
    simp [hi, stopsB]
theorem oneM_tok (s : List UInt8) (at_ : Nat) (sy : List (List UInt8)) (h : at_ < s.length) :
    oneM s at_ sy = ((tokL sy (s.drop at_)).1, at_ + (tokL sy (s.drop at_)).2.1, (tokL sy (s.drop at_)).2.2) := by
  have hb : byteH (s.drop at_) = byteI s at_ := byteH_drop s at_
  have hn := nameEnd_name s at_ (by omega)
  have hd := digEnd_run s (s.length + 1) at_ (by omega) (by omega)
  have hq := quoEnd_run s (s.length + 1) (at_ + 1) (by omega) (by omega)
  have hl := longM_long s at_ (fixedL ++ sy) (by omega)
  unfold oneM tokL
  simp only [hb]
  cases h1 : beginsB (byteI s at_) with
  | true =>
    simp only [cond_true, hn]
    rw [slice_drop, show at_ + nameL (s.drop at_) - at_ = nameL (s.drop at_) by omega]
    cases decide (nameL (s.drop at_) > 64) with
    | true => rfl
    | false =>
      simp only [cond_false]
      cases decide (List.take (nameL (s.drop at_)) (s.drop at_) = [95]) || decide (List.take (nameL (s.drop at_)) (s.drop at_) ∈ sy) with
      | true => rfl
      | false =>
        simp only [cond_false]
        cases decide (List.take (nameL (s.drop at_)) (s.drop at_) ∈ kwL) <;> rfl
  | false =>
    simp only [cond_false]
    cases h2 : digitB (byteI s at_) with
    | true =>
      simp only [cond_true, hd]
      have hst := stops_runL digitB (s.drop at_)
      rw [List.drop_drop] at hst
      rw [show at_ + runL digitB (s.drop at_) - at_ = runL digitB (s.drop at_) by omega, stops_more s _ hst, List.drop_drop]
      cases decide (runL digitB (s.drop at_) > 6) with
      | true => rfl
      | false =>
        simp only [cond_false]
        cases decide (runL digitB (s.drop at_) > 1) && decide (byteI s at_ = 48) with
        | true => rfl
        | false =>
          simp only [cond_false]
          cases !stopsB isComp (s.drop (at_ + runL digitB (s.drop at_))) <;> rfl
    | false =>
      simp only [cond_false]
      cases h3 : decide (byteI s at_ = 34) with
      | true =>
        simp only [cond_true, hq]
        rw [List.drop_drop, List.drop_drop, byteH_drop]
        rw [show at_ + (runL quoP (s.drop (at_ + 1)) + 1) = at_ + 1 + runL quoP (s.drop (at_ + 1)) by omega]
        have hle := runL_le quoP (s.drop (at_ + 1))
        rw [List.length_drop] at hle
        have hz : (decide (at_ + 1 + runL quoP (s.drop (at_ + 1)) = s.length) || !decide (byteI s (at_ + 1 + runL quoP (s.drop (at_ + 1))) = 34)) = !decide (byteI s (at_ + 1 + runL quoP (s.drop (at_ + 1))) = 34) := by
          by_cases he : at_ + 1 + runL quoP (s.drop (at_ + 1)) = s.length
          · rw [he]
            have : byteI s s.length = 0 := by
              unfold byteI
              rw [List.getD_eq_getElem?_getD, List.getElem?_eq_none (Nat.le_refl _)]; rfl
            rw [this]; simp
          · simp [he]
        rw [hz]
        cases !decide (byteI s (at_ + 1 + runL quoP (s.drop (at_ + 1))) = 34) with
        | true => rfl
        | false =>
          simp only [cond_false, Prod.mk.injEq, true_and, and_true]
          omega
      | false =>
        simp only [cond_false, hl]
        clear hl
        generalize longL (fixedL ++ sy) (s.drop at_) = n
        cases decide (n = 0) <;> rfl

theorem tokL_ok (sy : List (List UInt8)) (l : List UInt8) (h : l ≠ []) (he : (tokL sy l).2.2 = 0) : 0 < (tokL sy l).2.1 ∧ (tokL sy l).2.1 ≤ l.length := by
  have h0 : 0 < l.length := List.length_pos_iff.2 h
  have e := oneM_tok l 0 sy h0
  rw [List.drop_zero, Nat.zero_add] at e
  have := oneM_ok l 0 sy h0 (by rw [e]; exact he)
  rw [e] at this
  exact this
theorem byteH_cut (l r : List UInt8) (m : Nat) (h0 : 0 < m) (hm : m ≤ l.length) : byteH (l.take m ++ r) = byteH l := by
  cases l with
  | nil => simp at hm; omega
  | cons c l =>
    cases m with
    | zero => omega
    | succ m => rfl
theorem drop_cut (l r : List UInt8) (m k : Nat) (hk : k ≤ m) (hm : m ≤ l.length) : (l.take m ++ r).drop k = (l.drop k).take (m - k) ++ r := by
  rw [List.drop_append_of_le_length (by rw [List.length_take]; omega), List.drop_take]
theorem stops_cut (p : Int → Bool) (l r : List UInt8) (m : Nat) (hr : stopsB p r = true) (hl : stopsB p l = true) : stopsB p (l.take m ++ r) = true := by
  cases l with
  | nil => simpa using hr
  | cons c l =>
    cases m with
    | zero => simpa using hr
    | succ m => exact hl
theorem runL_cut_lt (p : Int → Bool) (r : List UInt8) : ∀ (l : List UInt8) (m : Nat), runL p l < m → m ≤ l.length → runL p (l.take m ++ r) = runL p l
  | [], m, h, hm => by simp at hm; omega
  | c :: l, m, h, hm => by
    cases m with
    | zero => omega
    | succ m =>
      simp only [runL, List.take_succ_cons, List.cons_append] at *
      cases hp : p (c.toNat : Int) with
      | true =>
        rw [hp] at h
        simp only [cond_true] at h ⊢
        rw [runL_cut_lt p r l m (by omega) (by simpa using hm)]
      | false => rfl
theorem byteH_cut_lt (l r : List UInt8) (m k : Nat) (hk : k < m) (hm : m ≤ l.length) : byteH ((l.take m ++ r).drop k) = byteH (l.drop k) := by
  rw [drop_cut l r m k (by omega) hm]
  exact byteH_cut _ _ _ (by omega) (by rw [List.length_drop]; omega)

/-- A token stays what it is, whatever stands behind the cut. -/
theorem tok_cut (sy : List (List UInt8)) (l r : List UInt8) (m k n : Nat) (h : l ≠ []) (ht : tokL sy l = (k, n, 0)) (hn : n ≤ m) (hm : m ≤ l.length) (hr : brk (fixedL ++ sy) r) : tokL sy (l.take m ++ r) = (k, n, 0) := by
  have hok := tokL_ok sy l h (by rw [ht])
  rw [ht] at hok
  have h0 : 0 < m := Nat.lt_of_lt_of_le hok.1 hn
  rw [← ht]
  have hb := byteH_cut l r m h0 hm
  unfold tokL at ht ⊢
  rw [hb]
  cases h1 : beginsB (byteH l) with
  | true =>
    rw [h1] at ht
    simp only [cond_true] at ht ⊢
    have hnm : nameL l ≤ m := by
      revert ht
      cases decide (nameL l > 64) with
      | true => intro ht; cases ht
      | false =>
        simp only [cond_false]
        cases decide (List.take (nameL l) l = [95]) || decide (List.take (nameL l) l ∈ sy) with
        | true => intro ht; cases ht; exact hn
        | false =>
          simp only [cond_false]
          cases decide (List.take (nameL l) l ∈ kwL) <;> (intro ht; cases ht; exact hn)
    rw [nameL_cut r hr.name hr.begins l m hnm hm, take_cut l r m _ hnm hm]
  | false =>
    rw [h1] at ht
    simp only [cond_false] at ht ⊢
    cases h2 : digitB (byteH l) with
    | true =>
      rw [h2] at ht
      simp only [cond_true] at ht ⊢
      have hnm : runL digitB l ≤ m ∧ stopsB isComp (l.drop (runL digitB l)) = true := by
        revert ht
        cases decide (runL digitB l > 6) with
        | true => intro ht; cases ht
        | false =>
          simp only [cond_false]
          cases decide (runL digitB l > 1) && decide (byteH l = 48) with
          | true => intro ht; cases ht
          | false =>
            simp only [cond_false]
            cases stopsB isComp (l.drop (runL digitB l)) with
            | true => intro ht; cases ht; exact ⟨hn, rfl⟩
            | false => intro ht; cases ht
      rw [runL_cut digitB r hr.digit l m hnm.1 hm, drop_cut l r m _ hnm.1 hm, stops_cut _ _ _ _ hr.stops hnm.2, hnm.2]
    | false =>
      rw [h2] at ht
      simp only [cond_false] at ht ⊢
      cases h3 : decide (byteH l = 34) with
      | true =>
        rw [h3] at ht
        simp only [cond_true] at ht ⊢
        have hnm : runL quoP (l.drop 1) + 2 ≤ m := by
          revert ht
          cases !decide (byteH (l.drop (runL quoP (l.drop 1) + 1)) = 34) with
          | true => intro ht; cases ht
          | false => intro ht; cases ht; exact hn
        rw [drop_cut l r m 1 (by omega) hm, runL_cut_lt quoP r (l.drop 1) (m - 1) (by omega) (by rw [List.length_drop]; omega), byteH_cut_lt l r m _ (by omega) hm]
      | false =>
        rw [h3] at ht
        simp only [cond_false] at ht ⊢
        have hnm : longL (fixedL ++ sy) l ≤ m := by
          revert ht
          cases decide (longL (fixedL ++ sy) l = 0) with
          | true => intro ht; cases ht
          | false => intro ht; cases ht; exact hn
        rw [longL_cut (fixedL ++ sy) l r m hnm hm (hr.long l m h0 hm)]

/-- A line feed behind the rest. -/
theorem tok_line (sy : List (List UInt8)) (l r : List UInt8) (h : l ≠ []) (hr : brk (fixedL ++ sy) (10 :: r)) : tokL sy (l ++ 10 :: r) = tokL sy l := by
  have h0 : 0 < l.length := List.length_pos_iff.2 h
  have hm := Nat.le_refl l.length
  have e : l ++ 10 :: r = l.take l.length ++ 10 :: r := by rw [List.take_length]
  rw [e]
  have hb := byteH_cut l (10 :: r) l.length h0 hm
  have hnm := nameL_le l
  have hdm := runL_le digitB l
  have hqs : stopsB quoP (10 :: r) = true := rfl
  have hqm := runL_le quoP (l.drop 1)
  rw [List.length_drop] at hqm
  have hlm : longL (fixedL ++ sy) l ≤ l.length := by
    obtain ⟨_, a2⟩ := longL_max (fixedL ++ sy) l
    rcases a2 with a2 | ⟨x, hx, hp, hl⟩
    · omega
    · unfold preB at hp
      have := congrArg List.length (of_decide_eq_true hp)
      simp only [List.length_take] at this
      omega
  unfold tokL
  rw [hb, nameL_cut _ hr.name hr.begins l _ hnm hm, take_cut l _ _ _ hnm hm, runL_cut digitB _ hr.digit l _ hdm hm, drop_cut l _ _ _ hdm hm, drop_cut l _ _ 1 (by omega) hm,
    runL_cut quoP _ hqs (l.drop 1) (l.length - 1) hqm (by rw [List.length_drop]; omega), longL_cut (fixedL ++ sy) l _ _ hlm hm (hr.long l _ h0 hm)]
  have e2 : byteH ((l.take l.length ++ 10 :: r).drop (runL quoP (l.drop 1) + 1)) = 34 ↔ byteH (l.drop (runL quoP (l.drop 1) + 1)) = 34 := by
    by_cases hlt : runL quoP (l.drop 1) + 1 < l.length
    · rw [byteH_cut_lt l _ _ _ hlt hm]
    · have : runL quoP (l.drop 1) + 1 = l.length := by omega
      rw [this, drop_cut l _ _ _ (by omega) hm, List.drop_length, List.take_nil, List.nil_append]
      have g1 : byteH (10 :: r) = 10 := rfl
      have g2 : byteH ([] : List UInt8) = 0 := rfl
      rw [g1, g2]; decide
  have e3 : stopsB isComp (List.take (l.length - runL digitB l) (l.drop (runL digitB l)) ++ 10 :: r) = stopsB isComp (l.drop (runL digitB l)) := by
    rw [List.take_of_length_le (by rw [List.length_drop]; omega)]
    cases l.drop (runL digitB l) with
    | nil => rfl
    | cons c l => rfl
  rw [e3, decide_eq_decide.2 e2]
theorem tokL_err (sy : List (List UInt8)) (l : List UInt8) (h : l ≠ []) (he : (tokL sy l).2.2 ≠ 0) : (tokL sy l).2.1 < l.length := by
  have h0 : 0 < l.length := List.length_pos_iff.2 h
  unfold tokL at he ⊢
  cases h1 : beginsB (byteH l) with
  | true =>
    rw [h1] at he
    simp only [cond_true] at he ⊢
    cases h2 : decide (nameL l > 64) with
    | true => exact h0
    | false =>
      rw [h2] at he
      simp only [cond_false] at he ⊢
      cases h3 : decide (List.take (nameL l) l = [95]) || decide (List.take (nameL l) l ∈ sy) with
      | true => rw [h3] at he; exact absurd rfl he
      | false =>
        rw [h3] at he
        simp only [cond_false] at he ⊢
        cases h4 : decide (List.take (nameL l) l ∈ kwL) <;> (rw [h4] at he; exact absurd rfl he)
  | false =>
    rw [h1] at he
    simp only [cond_false] at he ⊢
    cases h2 : digitB (byteH l) with
    | true =>
      rw [h2] at he
      simp only [cond_true] at he ⊢
      cases h3 : decide (runL digitB l > 6) with
      | true => exact h0
      | false =>
        rw [h3] at he
        simp only [cond_false] at he ⊢
        cases h4 : decide (runL digitB l > 1) && decide (byteH l = 48) with
        | true => exact h0
        | false =>
          rw [h4] at he
          simp only [cond_false] at he ⊢
          cases h5 : stopsB isComp (l.drop (runL digitB l)) with
          | true => rw [h5] at he; exact absurd rfl he
          | false =>
            show runL digitB l < l.length
            by_cases hlt : runL digitB l < l.length
            · exact hlt
            · rw [List.drop_eq_nil_of_le (by omega)] at h5; cases h5
    | false =>
      rw [h2] at he
      simp only [cond_false] at he ⊢
      cases h3 : decide (byteH l = 34) with
      | true =>
        rw [h3] at he
        simp only [cond_true] at he ⊢
        cases h4 : !decide (byteH (l.drop (runL quoP (l.drop 1) + 1)) = 34) with
        | true => exact h0
        | false => rw [h4] at he; exact absurd rfl he
      | false =>
        rw [h3] at he
        simp only [cond_false] at he ⊢
        cases h4 : decide (longL (fixedL ++ sy) l = 0) with
        | true => exact h0
        | false => rw [h4] at he; exact absurd rfl he
end Go.Proofs.LxA
set_option linter.unusedVariables false
set_option linter.unusedSimpArgs false
set_option maxRecDepth 100000
namespace Go.Proofs.LxA
open Go Go.Am Go.Proofs Go.RowKit
set_option linter.unusedSectionVars false

/-- A rest is scanned whole. -/
inductive Scans (sy : List (List UInt8)) : Nat → List UInt8 → List Tok → Prop
  | done (off : Nat) : Scans sy off [] [(4, [], off)]
  | step (off : Nat) (l : List UInt8) (k n : Nat) (ts : List Tok) (h : l ≠ []) (ht : tokL sy l = (k, n, 0))
      (hs : Scans sy (off + n + skipL false (l.drop n)) (l.drop (n + skipL false (l.drop n))) ts) : Scans sy off l ((k, l.take n, off) :: ts)
/-- A rest is not scanned. -/
inductive Fails (sy : List (List UInt8)) : Nat → List UInt8 → Nat → Nat → Prop
  | here (off : Nat) (l : List UInt8) (k n e : Nat) (h : l ≠ []) (ht : tokL sy l = (k, n, e)) (he : e ≠ 0) : Fails sy off l (off + n) e
  | step (off : Nat) (l : List UInt8) (k n i e : Nat) (h : l ≠ []) (ht : tokL sy l = (k, n, 0))
      (hs : Fails sy (off + n + skipL false (l.drop n)) (l.drop (n + skipL false (l.drop n))) i e) : Fails sy off l i e

theorem Scans.run {sy : List (List UInt8)} {off : Nat} {l : List UInt8} {ts : List Tok} (hS : Scans sy off l ts) : ∀ (s : List UInt8) (n : Nat) (acc : List Tok), off ≤ s.length → s.drop off = l → s.length - off < n → scanL s sy n off acc = (acc ++ ts, 0, 0) := by
  induction hS with
  | done off =>
    intro s n acc h1 h2 h3
    have : s.length ≤ off := by
      have := congrArg List.length h2
      simp only [List.length_drop, List.length_nil] at this; omega
    have he : off = s.length := by omega
    subst he
    cases n with
    | zero => omega
    | succ n => simp [scanL]
  | step off l k n ts h ht hs ih =>
    intro s m acc h1 h2 h3
    have hlt : off < s.length := by
      rcases Nat.lt_or_ge off s.length with h' | h'
      · exact h'
      · rw [List.drop_eq_nil_of_le h'] at h2; exact absurd h2.symm h
    have ho := oneM_tok s off sy hlt
    rw [h2, ht] at ho
    have hok := tokL_ok sy l h (by rw [ht])
    rw [ht] at hok
    have hll : l.length = s.length - off := by rw [← h2, List.length_drop]
    have hkb := skipL_le false (l.drop n)
    rw [List.length_drop] at hkb
    have hsk := skipM_skip s (s.length + 1) (off + n) (by omega) (by simp only at hok; omega)
    have hdd : s.drop (off + n) = l.drop n := by rw [← h2, List.drop_drop]
    rw [hdd] at hsk
    cases m with
    | zero => omega
    | succ m =>
      simp only [scanL, hlt, decide_true, cond_true, ho]
      rw [hsk, ih s m _ (by simp only at hok; omega) (by rw [← h2]; simp only [List.drop_drop, Nat.add_assoc]) (by simp only at hok; omega), slice_drop, h2]
      simp
theorem Fails.run {sy : List (List UInt8)} {off : Nat} {l : List UInt8} {i e : Nat} (hS : Fails sy off l i e) : ∀ (s : List UInt8) (n : Nat) (acc : List Tok), off ≤ s.length → s.drop off = l → s.length - off < n → scanL s sy n off acc = ([], i, e) := by
  induction hS with
  | here off l k n e h ht he =>
    intro s m acc h1 h2 h3
    have hlt : off < s.length := by
      rcases Nat.lt_or_ge off s.length with h' | h'
      · exact h'
      · rw [List.drop_eq_nil_of_le h'] at h2; exact absurd h2.symm h
    have ho := oneM_tok s off sy hlt
    rw [h2, ht] at ho
    cases m with
    | zero => omega
    | succ m => simp only [scanL, hlt, decide_true, cond_true, ho, decide_eq_false he, cond_false]
  | step off l k n i e h ht hs ih =>
    intro s m acc h1 h2 h3
    have hlt : off < s.length := by
      rcases Nat.lt_or_ge off s.length with h' | h'
      · exact h'
      · rw [List.drop_eq_nil_of_le h'] at h2; exact absurd h2.symm h
    have ho := oneM_tok s off sy hlt
    rw [h2, ht] at ho
    have hok := tokL_ok sy l h (by rw [ht])
    rw [ht] at hok
    have hll : l.length = s.length - off := by rw [← h2, List.length_drop]
    have hkb := skipL_le false (l.drop n)
    rw [List.length_drop] at hkb
    have hsk := skipM_skip s (s.length + 1) (off + n) (by omega) (by simp only at hok; omega)
    have hdd : s.drop (off + n) = l.drop n := by rw [← h2, List.drop_drop]
    rw [hdd] at hsk
    cases m with
    | zero => omega
    | succ m =>
      simp only [scanL, hlt, decide_true, cond_true, ho]
      rw [hsk, ih s m _ (by simp only at hok; omega) (by rw [← h2]; simp only [List.drop_drop, Nat.add_assoc]) (by simp only at hok; omega)]
theorem scan_or (sy : List (List UInt8)) : ∀ (m : Nat) (l : List UInt8) (off : Nat), l.length < m → (∃ ts, Scans sy off l ts) ∨ ∃ i e, e ≠ 0 ∧ Fails sy off l i e
  | 0, l, off, h => by omega
  | m + 1, l, off, h => by
    by_cases hl : l = []
    · subst hl; exact .inl ⟨_, .done off⟩
    · cases ht : tokL sy l with
      | mk k ne =>
        obtain ⟨n, e⟩ := ne
        by_cases he : e = 0
        · subst he
          have hok := tokL_ok sy l hl (by rw [ht])
          rw [ht] at hok
          have hlen : (l.drop (n + skipL false (l.drop n))).length < m := by rw [List.length_drop]; simp only at hok; omega
          rcases scan_or sy m _ (off + n + skipL false (l.drop n)) hlen with ⟨ts, h1⟩ | ⟨i, e, h1, h2⟩
          · exact .inl ⟨_, .step off l k n ts hl ht h1⟩
          · exact .inr ⟨i, e, h1, .step off l k n i e hl ht h2⟩
        · exact .inr ⟨off + n, e, he, .here off l k n e hl ht he⟩

def lead (s : List UInt8) : Nat := skipL false s
theorem lead_le (s : List UInt8) : lead s ≤ s.length := skipL_le false s
theorem scanM_eq (s : List UInt8) (sy : List (List UInt8)) (hsy : sy.any (fun x => !symM x) = false) (hs : s.length ≤ 65536) : scanM s sy = scanL s sy (s.length + 1) (lead s) [] := by
  unfold scanM
  have h1 : decide (s.length > 65536) = false := decide_eq_false (by omega)
  have h2 := skipM_skip s (s.length + 1) 0 (by omega) (by omega)
  rw [List.drop_zero, Nat.zero_add] at h2
  rw [hsy, h1, h2]
  rfl
theorem scanM_scans (s : List UInt8) (sy : List (List UInt8)) (hsy : sy.any (fun x => !symM x) = false) (hs : s.length ≤ 65536) (ts : List Tok) (h : Scans sy (lead s) (s.drop (lead s)) ts) : scanM s sy = (ts, 0, 0) := by
  rw [scanM_eq s sy hsy hs]
  exact h.run s _ [] (lead_le s) rfl (by omega)
theorem scanM_fails (s : List UInt8) (sy : List (List UInt8)) (hsy : sy.any (fun x => !symM x) = false) (hs : s.length ≤ 65536) (i e : Nat) (h : Fails sy (lead s) (s.drop (lead s)) i e) : scanM s sy = ([], i, e) := by
  rw [scanM_eq s sy hsy hs]
  exact h.run s _ [] (lead_le s) rfl (by omega)
/-- Whatever is scanned, one or the other holds. -/
theorem scanM_or (s : List UInt8) (sy : List (List UInt8)) (hsy : sy.any (fun x => !symM x) = false) (hs : s.length ≤ 65536) :
    (∃ ts, Scans sy (lead s) (s.drop (lead s)) ts ∧ scanM s sy = (ts, 0, 0)) ∨ ∃ i e, e ≠ 0 ∧ Fails sy (lead s) (s.drop (lead s)) i e ∧ scanM s sy = ([], i, e) := by
  rcases scan_or sy (s.length + 1) (s.drop (lead s)) (lead s) (by rw [List.length_drop]; omega) with ⟨ts, h⟩ | ⟨i, e, he, h⟩
  · exact .inl ⟨ts, h, scanM_scans s sy hsy hs ts h⟩
  · exact .inr ⟨i, e, he, h, scanM_fails s sy hsy hs i e h⟩

/-! The same tokens, apart from offsets. -/
def alike (a b : List Tok) : Prop := a.map (fun t => (t.1, t.2.1)) = b.map (fun t => (t.1, t.2.1))
theorem alike.len {a b : List Tok} (h : alike a b) : a.length = b.length := by
  have := congrArg List.length h
  simpa using this
theorem alike.cons {a b : List Tok} {k : Nat} {x : List UInt8} {o o' : Nat} (h : alike a b) : alike ((k, x, o) :: a) ((k, x, o') :: b) := by
  unfold alike at *
  simp only [List.map_cons, h]
theorem alike.at {a b : List Tok} (h : alike a b) (i : Nat) : (a.getD i (0, [], 0)).1 = (b.getD i (0, [], 0)).1 ∧ (a.getD i (0, [], 0)).2.1 = (b.getD i (0, [], 0)).2.1 := by
  have hi := congrArg (fun l => l[i]?) h
  simp only [List.getElem?_map] at hi
  rw [List.getD_eq_getElem?_getD, List.getD_eq_getElem?_getD]
  cases ha : a[i]? with
  | none =>
    rw [ha] at hi
    cases hb : b[i]? with
    | none => exact ⟨rfl, rfl⟩
    | some y => rw [hb] at hi; cases hi
  | some x =>
    rw [ha] at hi
    cases hb : b[i]? with
    | none => rw [hb] at hi; cases hi
    | some y =>
      rw [hb] at hi
      simp only [Option.map_some, Option.some.injEq, Prod.mk.injEq] at hi
      exact hi
theorem alike_diff {a b : List Tok} (h : alike a b) : ∀ n i, diffFrom a b true n i = false
  | 0, _ => rfl
  | n + 1, i => by
    obtain ⟨h1, h2⟩ := h.at i
    simp only [diffFrom, diffB, h1, h2, alike_diff h n, decide_true, Bool.not_true, Bool.false_and, Bool.or_false]
    cases decide (i < a.length) <;> rfl
theorem alike_same {a b : List Tok} (h : alike a b) : sameM a b true = true := by
  simp only [sameM, alike_diff h, h.len, decide_true, cond_true, Bool.not_false]

theorem Scans.shift {sy : List (List UInt8)} {off : Nat} {l : List UInt8} {ts : List Tok} (hS : Scans sy off l ts) : ∀ off', ∃ ts', Scans sy off' l ts' ∧ alike ts ts' := by
  induction hS with
  | done off => exact fun off' => ⟨_, .done off', rfl⟩
  | step off l k n ts h ht hs ih =>
    intro off'
    obtain ⟨ts', h1, h2⟩ := ih (off' + n + skipL false (l.drop n))
    exact ⟨_, .step off' l k n ts' h ht h1, h2.cons⟩

/-! What symbols are made of. -/
theorem sym_bytes (x : List UInt8) (h : symM x = true) : ∀ c ∈ x, isComp (c.toNat : Int) = true ∨ signB (c.toNat : Int) = true := by
  intro c hc
  obtain ⟨j, hj, hcj⟩ := List.getElem_of_mem hc
  unfold symM at h
  cases h1 : decide (x = []) with
  | true => rw [h1] at h; cases h
  | false =>
    rw [h1] at h
    simp only [cond_false] at h
    cases h2 : beginsB (byteI x 0) with
    | true =>
      rw [h2] at h
      simp only [cond_true, Bool.and_eq_true, decide_eq_true_eq] at h
      have := (compEnd_all x (x.length + 1) 0 (by omega) (by omega)).1 h.1.1 j (by omega) hj
      rw [byteI_at x j hj, hcj] at this
      exact .inl this
    | false =>
      rw [h2] at h
      simp only [cond_false] at h
      cases h3 : badFrom x (x.length + 1) 0 with
      | true => rw [h3] at h; cases h
      | false =>
        rw [badFrom_run] at h3
        have := (badRun_false (badAt x) x.length (x.length + 1) 0 (by omega)).1 h3 j (by omega) hj
        unfold badAt at this
        simp only [Bool.or_eq_false_iff, Bool.not_eq_false'] at this
        rw [byteI_at x j hj, hcj] at this
        exact .inr this.1
theorem brk_space (sy : List (List UInt8)) (hsy : sy.any (fun x => !symM x) = false) (c : UInt8) (hc : c = 32 ∨ c = 10 ∨ c = 9) (r : List UInt8) : brk (fixedL ++ sy) (c :: r) := by
  intro d r' e
  cases e
  have h1 : isComp (c.toNat : Int) = false ∧ c ≠ 46 ∧ signB (c.toNat : Int) = false := by
    rcases hc with rfl | rfl | rfl <;> decide
  refine ⟨h1.1, h1.2.1, fun x hx hm => ?_⟩
  have hm := List.mem_of_mem_drop hm
  rcases List.mem_append.1 hx with hx | hx
  · have : ∀ x ∈ fixedL, ∀ c ∈ x, c ≠ 32 ∧ c ≠ 10 ∧ c ≠ 9 := by decide
    have := this x hx c hm
    rcases hc with h | h | h
    · exact this.1 h
    · exact this.2.1 h
    · exact this.2.2 h
  · have hs : symM x = true := by
      have := List.any_eq_false.1 hsy x hx
      simpa using this
    rcases sym_bytes x hs c hm with h | h
    · rw [h1.1] at h; cases h
    · rw [h1.2.2] at h; cases h
end Go.Proofs.LxA
set_option linter.unusedVariables false
set_option linter.unusedSimpArgs false
set_option maxRecDepth 100000
namespace Go.Proofs.LxA
open Go Go.Am Go.Proofs Go.RowKit
set_option linter.unusedSectionVars false

/-! A line feed and whatever stands behind it. -/
theorem Fails.line {sy : List (List UInt8)} (hsy : sy.any (fun x => !symM x) = false) (r : List UInt8) {off : Nat} {l : List UInt8} {i e : Nat} (hF : Fails sy off l i e) : Fails sy off (l ++ 10 :: r) i e ∧ i < off + l.length ∧ 0 < l.length := by
  have hb : brk (fixedL ++ sy) (10 :: r) := brk_space sy hsy 10 (.inr (.inl rfl)) r
  induction hF with
  | here off l k n e h ht he =>
    have hlt := tokL_err sy l h (by rw [ht]; exact he)
    rw [ht] at hlt
    exact ⟨.here off _ k n e (by simp) (by rw [tok_line sy l r h hb, ht]) he, by simp only at hlt; omega, List.length_pos_iff.2 h⟩
  | step off l k n i e h ht hs ih =>
    obtain ⟨h1, h2, h3⟩ := ih
    have hok := tokL_ok sy l h (by rw [ht])
    rw [ht] at hok
    rw [List.length_drop] at h2 h3
    have hdr : (l ++ 10 :: r).drop n = (l.drop n).take (l.drop n).length ++ 10 :: r := by
      rw [List.take_length, List.drop_append_of_le_length (by simp only at hok; omega)]
    have hsk : skipL false ((l ++ 10 :: r).drop n) = skipL false (l.drop n) := by
      rw [hdr]
      refine skipL_cut (10 :: r) false (l.drop n) _ (by rw [List.length_drop]; omega) (Nat.le_refl _) ?_
      intro _ h; cases h
    refine ⟨.step off _ k n i e (by simp) (by rw [tok_line sy l r h hb, ht]) ?_, by omega, List.length_pos_iff.2 h⟩
    rw [hsk]
    have : (l ++ 10 :: r).drop (n + skipL false (l.drop n)) = l.drop (n + skipL false (l.drop n)) ++ 10 :: r := by
      rw [List.drop_append_of_le_length (by omega)]
    rw [this]
    exact h1

theorem prefixes_plain (s r : List UInt8) (hs : s.length ≤ 1000) (hr : r.length ≤ 300) (i e : Nat) (he : e ≠ 0) (h : scanM s [] = ([], i, e)) : scanM (s ++ 10 :: r) [] = ([], i, e) ∧ i < s.length := by
  have hsy : ([] : List (List UInt8)).any (fun x => !symM x) = false := rfl
  rcases scanM_or s [] hsy (by omega) with ⟨ts, h1, h2⟩ | ⟨i', e', h0, h1, h2⟩
  · rw [h2] at h; cases h; exact absurd rfl he
  · rw [h2] at h
    simp only [Prod.mk.injEq, true_and] at h
    obtain ⟨rfl, rfl⟩ := h
    obtain ⟨h3, h4, h5⟩ := h1.line hsy r
    rw [List.length_drop] at h4 h5
    have hle := lead_le s
    have hl : lead (s ++ 10 :: r) = lead s := by
      have := skipL_cut (10 :: r) false s s.length (by unfold lead at *; omega) (Nat.le_refl _) (fun _ h => by cases h)
      rw [List.take_length] at this
      exact this
    refine ⟨scanM_fails _ [] hsy (by simp; omega) _ _ ?_, by omega⟩
    rw [hl]
    have : (s ++ 10 :: r).drop (lead s) = s.drop (lead s) ++ 10 :: r := by
      rw [List.drop_append_of_le_length (by omega)]
    rw [this]
    exact h3

/-! The texts of the tokens, joined by spaces. -/
def joinT : List Tok → List UInt8
  | [] => []
  | t :: ts => t.2.1 ++ (match ts with | [] => [] | _ :: _ => 32 :: joinT ts)
theorem joinT_cons (t u : Tok) (ts : List Tok) : joinT (t :: u :: ts) = t.2.1 ++ 32 :: joinT (u :: ts) := rfl
theorem Scans.ne {sy : List (List UInt8)} {off : Nat} {l : List UInt8} {ts : List Tok} (h : Scans sy off l ts) : ∃ t ts', ts = t :: ts' := by
  cases h with
  | done => exact ⟨_, _, rfl⟩
  | step => exact ⟨_, _, rfl⟩
theorem Scans.joined {sy : List (List UInt8)} {off : Nat} {l : List UInt8} {ts : List Tok} (h : Scans sy off l ts) : ts = [(4, [], off)] ∧ l = [] ∨ ∃ k n ts', l ≠ [] ∧ tokL sy l = (k, n, 0) ∧ ts = (k, l.take n, off) :: ts' ∧
    Scans sy (off + n + skipL false (l.drop n)) (l.drop (n + skipL false (l.drop n))) ts' ∧ joinT ts = l.take n ++ 32 :: joinT ts' := by
  cases h with
  | done => exact .inl ⟨rfl, rfl⟩
  | step _ _ k n ts h ht hs =>
    obtain ⟨t, ts', rfl⟩ := hs.ne
    exact .inr ⟨k, n, _, h, ht, rfl, hs, rfl⟩
theorem skip0 (c : UInt8) (l : List UInt8) (h : skipL false (c :: l) = 0) : spaceB (c.toNat : Int) = false ∧ (decide (c = 45) && dash1 l) = false := by
  simp only [skipL] at h
  cases h1 : spaceB (c.toNat : Int) with
  | true => rw [h1] at h; simp at h
  | false =>
    rw [h1] at h
    cases h2 : (decide (c = 45) && dash1 l) with
    | true => rw [h2] at h; simp at h
    | false => exact ⟨rfl, rfl⟩
theorem Scans.lead0 {sy : List (List UInt8)} {off : Nat} {l : List UInt8} {ts : List Tok} (h : Scans sy off l ts) (h0 : skipL false l = 0) : skipL false (joinT ts) = 0 := by
  rcases h.joined with ⟨rfl, _⟩ | ⟨k, n, ts', hl, ht, rfl, hs, hj⟩
  · rfl
  · rw [hj]
    have hok := tokL_ok sy l hl (by rw [ht])
    rw [ht] at hok
    simp only at hok
    cases l with
    | nil => exact absurd rfl hl
    | cons c l =>
      obtain ⟨a, b⟩ := skip0 c l h0
      cases n with
      | zero => omega
      | succ n =>
        simp only [List.take_succ_cons, List.cons_append, skipL, a, cond_false]
        cases n with
        | zero =>
          have : (decide (c = 45) && dash1 (List.take 0 l ++ 32 :: joinT ts')) = false := by
            cases decide (c = 45) <;> rfl
          rw [this]; rfl
        | succ n =>
          cases l with
          | nil => simp at hok
          | cons d l =>
            have : dash1 (List.take (n + 1) (d :: l) ++ 32 :: joinT ts') = dash1 (d :: l) := rfl
            rw [this, b]; rfl
theorem Scans.back {sy : List (List UInt8)} (hsy : sy.any (fun x => !symM x) = false) {off : Nat} {l : List UInt8} {ts : List Tok} (hS : Scans sy off l ts) : skipL false l = 0 → ∀ off', ∃ ts', Scans sy off' (joinT ts) ts' ∧ alike ts ts' := by
  induction hS with
  | done off => exact fun _ off' => ⟨_, .done off', rfl⟩
  | step off l k n ts h ht hs ih =>
    intro h0 off'
    have h1 : skipL false (l.drop (n + skipL false (l.drop n))) = 0 := by
      have := skipL_idem false (l.drop n)
      rwa [List.drop_drop] at this
    obtain ⟨ts', h2, h3⟩ := ih h1 (off' + n + 1)
    have h4 := hs.lead0 h1
    obtain ⟨t, ts0, rfl⟩ := hs.ne
    have hok := tokL_ok sy l h (by rw [ht])
    rw [ht] at hok
    simp only at hok
    have hb : brk (fixedL ++ sy) (32 :: joinT (t :: ts0)) := brk_space sy hsy 32 (.inl rfl) _
    have htk := tok_cut sy l (32 :: joinT (t :: ts0)) n k n h ht (Nat.le_refl _) hok.2 hb
    have hdr : (l.take n ++ 32 :: joinT (t :: ts0)).drop n = 32 :: joinT (t :: ts0) := by
      rw [List.drop_append_of_le_length (by simp; omega), List.drop_eq_nil_of_le (by simp; omega), List.nil_append]
    have hsk : skipL false (32 :: joinT (t :: ts0)) = 1 := by
      have hsp : spaceB (((32 : UInt8).toNat : Int)) = true := rfl
      simp only [skipL, hsp, cond_true, h4]
    have htt : (l.take n ++ 32 :: joinT (t :: ts0)).take n = l.take n := by
      rw [List.take_append_of_le_length (by simp; omega), List.take_take, Nat.min_self]
    have hd1 : (l.take n ++ 32 :: joinT (t :: ts0)).drop (n + 1) = joinT (t :: ts0) := by
      rw [← List.drop_drop, hdr]; rfl
    have key := Scans.step off' (l.take n ++ 32 :: joinT (t :: ts0)) k n ts' (by simp) htk (by rw [hdr, hsk, hd1]; exact h2)
    rw [htt] at key
    exact ⟨_, key, h3.cons⟩
theorem Scans.sizes {sy : List (List UInt8)} {off : Nat} {l : List UInt8} {ts : List Tok} (hS : Scans sy off l ts) : (joinT ts).length ≤ 2 * l.length ∧ ts.length ≤ l.length + 1 := by
  induction hS with
  | done off => exact ⟨Nat.le_refl _, Nat.le_refl _⟩
  | step off l k n ts h ht hs ih =>
    have hok := tokL_ok sy l h (by rw [ht])
    rw [ht] at hok
    simp only at hok
    obtain ⟨t, ts0, rfl⟩ := hs.ne
    rw [joinT_cons]
    rw [List.length_drop] at ih
    simp only [List.length_append, List.length_take, List.length_cons] at *
    omega
theorem back_plain (s : List UInt8) (sy : List (List UInt8)) (hsy : sy.any (fun x => !symM x) = false) (hs : s.length ≤ 1000) (ts : List Tok) (h : scanM s sy = (ts, 0, 0)) :
    ∃ ts', scanM (joinT ts) sy = (ts', 0, 0) ∧ alike ts ts' ∧ (joinT ts).length ≤ 2000 := by
  rcases scanM_or s sy hsy (by omega) with ⟨ts0, h1, h2⟩ | ⟨i, e, h0, h1, h2⟩
  · rw [h2] at h; cases h
    have hz : skipL false (s.drop (lead s)) = 0 := skipL_idem false s
    obtain ⟨ts', h3, h4⟩ := h1.back hsy hz 0
    have hl := h1.sizes
    rw [List.length_drop] at hl
    have h5 := h1.lead0 hz
    refine ⟨ts', scanM_scans _ sy hsy (by omega) ts' ?_, h4, by omega⟩
    unfold lead
    rw [h5, List.drop_zero]
    exact h3
  · rw [h2] at h; simp only [Prod.mk.injEq] at h; exact absurd h.2.2 h0
end Go.Proofs.LxA
