import Derived.Test.YticifcoffgoajaaDoorAm3
import Derived.ChangeBears
import Derived.OpenShut
import Derived.ProofKit
import Derived.LaidMore
import Derived.Lay
import Derived.SevenTiedAt
import Derived.HandedShaped
/- What a reading of an argument says of the argument in the abstract machine. -/
set_option linter.unusedSectionVars false
set_option linter.unusedVariables false
set_option linter.unusedSimpArgs false
namespace Go.Am
open Go.RowKit

/-- The world in which the outermost call begins, all its cells named. -/
def E0 (w : World) : Env := { cell := fun b o => w.cell? ⟨b, o, none⟩, rowAt := fun _ _ => none, base := w }

theorem sim_E0 [Inhabited LaidBox] (w : World) (h : (default : LaidBox).ok w) : Sim w.heap.size (E0 w) (fun _ => none) w :=
  ⟨fun _ => none, 0, {
    base := Nat.le_refl _
    cell := fun _ _ _ e => e
    dom := fun _ _ e => by cases e
    obj := fun _ _ e => by cases e
    mp := fun _ _ _ e => by cases e
    row := fun _ _ _ _ e => by cases e
    rdom := fun _ _ e => by cases e
    fresh := fun _ _ _ => rfl
    grow := fun _ _ e => by cases e
    ok := ⟨h, rfl⟩
    old := fun _ _ => rfl }⟩

def isAgg (P : Program) (t : TypeId) : Bool :=
  match P.underlying t with
  | some (.struct _) | some (.array _ _) => true
  | _ => false

/-- The element of a row whose cells are l. -/
def elA (b : Bool) (l : List AV) : AV := if b then .agg l else l.headD .junk

def Looks (P : Program) (R : Nat) : Nat → TypeId → List AV → Prop
  | 0, _, _ => False
  | n + 1, t, l =>
    match P.underlying t with
    | some .bool => ∃ b, l = [.bool b]
    | some (.int k) => ∃ z, l = [.int k z] ∧ (Lit.int k z).wf = true
    | some .string => ∃ s, l = [.str s] ∧ s.length ≤ R
    | some (.slice e) => if P.cellsOf e = 0 then ∃ v, l = [v] ∧ v.one = true else
        ∃ own es, l = [.sl own (P.cellsOf e) es] ∧ es.length * P.bytesOf e ≤ R ∧ ∀ x ∈ es, ∃ c, x = elA (isAgg P e) c ∧ (∀ v ∈ c, v.one = true) ∧ Looks P R n e c
    | some (.struct fs) => l.length = P.cellsOf t ∧ ∀ (i : Nat) (f : Field), fs[i]? = some f → Looks P R n f.type ((l.drop f.offset).take (P.cellsOf f.type))
    | some (.array m e) => l.length = P.cellsOf t ∧ ∀ i, i < m → Looks P R n e ((l.drop (i * P.cellsOf e)).take (P.cellsOf e))
    | _ => ∃ v, l = [v] ∧ v.one = true

theorem pieces {E : Env} (c : TypeId → Nat) (Q : TypeId → List AV → Prop) : ∀ (ts : List TypeId) (cs : List Value), cs.length = (ts.map c).sum →
    (∀ (j : Nat) t, ts[j]? = some t → ∃ l, RepL E l ((cs.drop ((ts.take j).map c).sum).take (c t)) ∧ (∀ v ∈ l, v.one = true) ∧ Q t l) →
    ∃ l, RepL E l cs ∧ (∀ v ∈ l, v.one = true) ∧ ∀ (j : Nat) t, ts[j]? = some t → Q t ((l.drop ((ts.take j).map c).sum).take (c t))
  | [], cs, hc, _ => by
    have : cs = [] := List.eq_nil_of_length_eq_zero (by simpa using hc)
    subst this
    exact ⟨[], .nil, by simp, by simp⟩
  | t :: ts, cs, hc, h => by
    simp only [List.map_cons, List.sum_cons] at hc
    obtain ⟨l0, a1, a2, a3⟩ := h 0 t rfl
    obtain ⟨l1, b1, b2, b3⟩ := pieces c Q ts (cs.drop (c t)) (by simp; omega) fun j u hj => by
      obtain ⟨l, e1, e2, e3⟩ := h (j + 1) u (by simpa using hj)
      refine ⟨l, ?_, e2, e3⟩
      simpa [List.drop_drop, Nat.add_comm] using e1
    simp only [List.take_zero, List.map_nil, List.sum_nil, List.drop_zero] at a1
    have hl0 : l0.length = c t := by
      have := a1.length
      simp at this; omega
    refine ⟨l0 ++ l1, ?_, ?_, ?_⟩
    · have := a1.append b1
      rwa [List.take_append_drop] at this
    · intro v hv
      rcases List.mem_append.1 hv with hv | hv
      · exact a2 v hv
      · exact b2 v hv
    · intro j u hj
      cases j with
      | zero =>
        simp at hj; subst hj
        simpa [← hl0] using a3
      | succ j =>
        have := b3 j u (by simpa using hj)
        simp only [List.take_succ_cons, List.map_cons, List.sum_cons]
        rw [show c t + ((ts.take j).map c).sum = l0.length + ((ts.take j).map c).sum by omega, ← List.drop_drop, List.drop_left]
        exact this

theorem spot_none {w : World} {a : Addr} {v : Value} (h : w.cell? a = some v) : a.spot = none := by
  unfold World.cell? at h
  split at h
  · split at h
    · cases h
    · rename_i hs; simpa using hs
  · cases h

theorem cells_at {w : World} {a : Addr} {n : Nat} {cs : List Value} (h : w.cells? 0 a n = some cs) : cs.length = n ∧ (0 < n → a.spot = none) ∧ ∀ j c, cs[j]? = some c → w.cell? (a.add j) = some c := by
  unfold World.cells? at h
  rw [if_pos (Nat.zero_le _)] at h
  have hlen : cs.length = n := by simpa using mapM_some_length h
  have hget : ∀ j c, cs[j]? = some c → w.cell? (a.add j) = some c := fun j c hj => by
    have hlt : j < n := by
      rw [← hlen]; exact (List.getElem?_eq_some_iff.1 hj).1
    rw [mapM_some_get h j j (by simp [hlt])]; exact hj
  refine ⟨hlen, fun hn => ?_, hget⟩
  have := hget 0 (cs[0]'(by omega)) (List.getElem?_eq_getElem _)
  exact spot_none (by simpa [Addr.add] using this)

theorem lays_of_cells {w : World} {b o n : Nat} {cs : List Value} (h : w.cells? 0 ⟨b, o, none⟩ n = some cs) : Lays (E0 w) cs b o := fun j c hj => by
  have := (cells_at h).2.2 j c hj
  simp only [E0]
  unfold Addr.add at this
  split at this
  · rename_i h0; subst h0; exact this
  · exact this

theorem rowsOf {E : Env} (ag : Bool) (sz b : Nat) (Q : List AV → Prop) : ∀ (m o : Nat), (∀ j, j < m → ∃ l, RepCs E l b (o + j * sz) ∧ l.length = sz ∧ (ag = false → ∃ v, l = [v]) ∧ Q l) →
    ∃ es, es.length = m ∧ RepEs E sz es b o ∧ ∀ x ∈ es, ∃ l, x = elA ag l ∧ Q l
  | 0, o, _ => ⟨[], rfl, .nil _ _ _, by simp⟩
  | m + 1, o, h => by
    obtain ⟨l, h1, h2, h3, h4⟩ := h 0 (by omega)
    obtain ⟨es, k1, k2, k3⟩ := rowsOf ag sz b Q m (o + sz) fun j hj => by
      obtain ⟨l, h1, h2, h3, h4⟩ := h (j + 1) (by omega)
      refine ⟨l, ?_, h2, h3, h4⟩
      rwa [show o + sz + j * sz = o + (j + 1) * sz by rw [Nat.add_mul]; omega]
    have hc : (elA ag l).cells = l := by
      cases ag with
      | true => rfl
      | false =>
        obtain ⟨v, rfl⟩ := h3 rfl
        have := h1.ones v (by simp)
        cases v <;> first | rfl | cases this
    refine ⟨elA ag l :: es, by simp [k1], .cons _ _ _ _ _ (by rw [hc]; exact h2) (by rw [hc]; simpa using h1) k2, fun x hx => ?_⟩
    rcases List.mem_cons.1 hx with rfl | hx
    · exact ⟨l, rfl, h4⟩
    · exact k3 x hx

theorem Looks.single {P : Program} {R : Nat} {n : Nat} {t : TypeId} {l : List AV} (h : Looks P R n t l) (ha : isAgg P t = false) : ∃ v, l = [v] := by
  cases n with
  | zero => exact h.elim
  | succ n =>
    unfold Looks at h
    unfold isAgg at ha
    split at h
    · obtain ⟨b, rfl⟩ := h; exact ⟨_, rfl⟩
    · obtain ⟨b, rfl, _⟩ := h; exact ⟨_, rfl⟩
    · obtain ⟨b, rfl, _⟩ := h; exact ⟨_, rfl⟩
    · split at h
      · obtain ⟨b, rfl, _⟩ := h; exact ⟨_, rfl⟩
      · obtain ⟨own, es, rfl, _⟩ := h; exact ⟨_, rfl⟩
    · rename_i hu; simp [hu] at ha
    · rename_i hu; simp [hu] at ha
    · obtain ⟨b, rfl, _⟩ := h; exact ⟨_, rfl⟩

theorem weightsAll_mem {H : Type} {P : Program} {e : TypeId} : ∀ {ds : List (DataW H)} {d : DataW H}, d ∈ ds → ∀ k ∈ d.weights P e, k ∈ DataW.weightsAll P e ds
  | d0 :: ds, d, hd, k, hk => by
    rw [DataW.weightsAll]
    rcases List.mem_cons.1 hd with rfl | hd
    · exact List.mem_append_left _ hk
    · exact List.mem_append_right _ (weightsAll_mem hd k hk)
theorem weightsEach_mem {H : Type} {P : Program} : ∀ {ts : List TypeId} {ds : List (DataW H)} {j : Nat} {t : TypeId} {d : DataW H}, ts[j]? = some t → ds[j]? = some d → ∀ k ∈ d.weights P t, k ∈ DataW.weightsEach P ts ds
  | t0 :: ts, d0 :: ds, 0, t, d, ht, hd, k, hk => by
    simp at ht hd; subst ht; subst hd
    rw [DataW.weightsEach]
    exact List.mem_append_left _ hk
  | t0 :: ts, d0 :: ds, j + 1, t, d, ht, hd, k, hk => by
    rw [DataW.weightsEach]
    exact List.mem_append_right _ (weightsEach_mem (j := j) (by simpa using ht) (by simpa using hd) k hk)
  | [], _, _, _, _, ht, _, _, _ => by simp at ht
  | _ :: _, [], _, _, _, _, hd, _, _ => by simp at hd

theorem trod_other {H : Type} {enc : TypeId × Value → H} {P : Program} {w : World} {held : Bool} {n : Nat} {t : TypeId} {cs : List Value} {x : DataW H × List MemPlace} (h : DataW.trod enc P w 0 (fun _ => true) held n t cs = some x) (ha : isAgg P t = false) : ∃ v, cs = [v] ∧ v.oneCell' = true := by
  cases n with
  | zero => cases h
  | succ n =>
    unfold DataW.trod at h
    unfold isAgg at ha
    split at h
    all_goals first
      | exact ⟨_, rfl, rfl⟩
      | cases h; done
      | (rename_i hu; simp [hu] at ha; done)
      | (rename_i hu _; simp [hu] at ha; done)
      | (rename_i hu _ _; simp [hu] at ha; done)

theorem take_sum (c : TypeId → Nat) (m j : Nat) (e : TypeId) (h : j ≤ m) : (((List.replicate m e).take j).map c).sum = j * c e := by
  simp [List.take_replicate, Nat.min_eq_left h]

theorem rep_raw {E : Env} {v : Value} (h : v.oneCell' = true) : ∃ l, RepL E l [v] ∧ (∀ x ∈ l, x.one = true) ∧ ∃ y, l = [y] ∧ y.one = true :=
  ⟨[.raw v], .cons _ _ _ _ (.raw v h) .nil, by simp [AV.one], _, rfl, rfl⟩

theorem looks_of {H : Type} {enc : TypeId × Value → H} {P : Program} {w : World} {R : Nat} {held : Bool} (hl : laidOutB P = true) : ∀ (n : Nat) (t : TypeId) (cs : List Value) (x : DataW H × List MemPlace), t < P.types.size →
    DataW.trod enc P w 0 (fun _ => true) held n t cs = some x → (∀ k ∈ x.1.weights P t, k ≤ R) → ∃ l, RepL (E0 w) l cs ∧ (∀ v ∈ l, v.one = true) ∧ Looks P R n t l := by
  intro n
  induction n with
  | zero => intro t cs x _ h; cases h
  | succ n ih =>
    intro t cs x ht h hw
    have other : isAgg P t = false → (∀ v : AV, v.one = true → Looks P R (n + 1) t [v]) → ∃ l, RepL (E0 w) l cs ∧ (∀ v ∈ l, v.one = true) ∧ Looks P R (n + 1) t l := fun ha hk => by
      obtain ⟨v, rfl, hv⟩ := trod_other h ha
      exact ⟨[.raw v], .cons _ _ _ _ (.raw v hv) .nil, by simp [AV.one], hk _ rfl⟩
    cases hu : P.underlying t with
    | none => exact other (by simp [isAgg, hu]) fun v hv => by simp only [Looks, hu]; exact ⟨v, rfl, hv⟩
    | some u =>
      cases u with
      | bool =>
        obtain ⟨b, rfl, rfl⟩ := DataW.trod_bool hu h
        exact ⟨[.bool b], .cons _ _ _ _ (.bool b) .nil, by simp [AV.one], by simp only [Looks, hu]; exact ⟨b, rfl⟩⟩
      | int k =>
        obtain ⟨z, rfl, rfl, hz⟩ := DataW.trod_int hu h
        exact ⟨[.int k z], .cons _ _ _ _ (.int k z) .nil, by simp [AV.one], by simp only [Looks, hu]; exact ⟨z, rfl, hz⟩⟩
      | string =>
        obtain ⟨s, rfl, rfl, hz⟩ := DataW.trod_string hu h
        refine ⟨[.str s.data.toList], .cons _ _ _ _ (.str s) .nil, by simp [AV.one], ?_⟩
        simp only [Looks, hu]
        exact ⟨_, rfl, hw _ (by simp [DataW.weights])⟩
      | slice e =>
        by_cases hc0 : P.cellsOf e = 0
        · exact other (by simp [isAgg, hu]) fun v hv => by simp only [Looks, hu, hc0, if_pos]; exact ⟨v, rfl, hv⟩
        · rcases DataW.trod_slice hu h with ⟨rfl, rfl⟩ | ⟨a, len, cap, elems, rest, n', hn, rfl, rfl, _, hle, hcap, hlen, hel, hsp, _⟩
          · refine ⟨[.sl .no (P.cellsOf e) []], .cons _ _ _ _ (.slnil _ _ (by simp)) .nil, by simp [AV.one], ?_⟩
            simp only [Looks, hu, if_neg hc0]
            exact ⟨_, _, rfl, by simp, by simp⟩
          · cases hn
            obtain ⟨hrl, hre⟩ := hsp rfl
            have he := kid_slice hl ht hu
            by_cases hcz : cap = 0
            · subst hcz
              have : len = 0 := by omega
              subst this
              refine ⟨[.sl .no (P.cellsOf e) []], .cons _ _ _ _ (.slz _ a) .nil, by simp [AV.one], ?_⟩
              simp only [Looks, hu, if_neg hc0]
              exact ⟨_, _, rfl, by simp, by simp⟩
            · have hs : a.spot = none := by
                rcases Nat.eq_zero_or_pos len with h0 | h0
                · have := hre 0 (by omega)
                  rw [List.getElem?_eq_getElem (by omega), Option.bind_eq_some_iff] at this
                  obtain ⟨cs', h1, _⟩ := this
                  have := (cells_at h1).2.1 (by omega)
                  subst h0
                  simpa [Addr.add] using this
                · have := hel 0 h0
                  rw [List.getElem?_eq_getElem (by omega), Option.bind_eq_some_iff] at this
                  obtain ⟨cs', h1, _⟩ := this
                  have := (cells_at h1).2.1 (by omega)
                  simpa [Addr.add] using this
              obtain ⟨b, o, sp⟩ := a
              cases hs
              have hadd : ∀ k, (⟨b, o, none⟩ : Addr).add k = ⟨b, o + k, none⟩ := fun k => by
                unfold Addr.add; split
                · rename_i h0; subst h0; rfl
                · rfl
              obtain ⟨es, k1, k2, k3⟩ := rowsOf (E := E0 w) (isAgg P e) (P.cellsOf e) b (fun c => (∀ v ∈ c, v.one = true) ∧ Looks P R n e c) len o fun j hj => by
                have := hel j hj
                rw [List.getElem?_eq_getElem (by omega), Option.bind_eq_some_iff] at this
                obtain ⟨cs', h1, h2⟩ := this
                obtain ⟨l, g1, g2, g3⟩ := ih e cs' _ he h2 fun k hk => hw k (by
                  rw [DataW.weights, hu]
                  refine List.mem_cons_of_mem _ (List.mem_append_left _ ?_)
                  exact weightsAll_mem (List.mem_map.2 ⟨_, List.getElem_mem (by omega : j < elems.length), rfl⟩) k hk)
                rw [hadd] at h1
                exact ⟨l, RepCs.of g1 g2 (lays_of_cells h1), by rw [← g1.length]; exact (cells_at h1).1, fun ha => g3.single ha, g2, g3⟩
              refine ⟨[.sl .no (P.cellsOf e) es], .cons _ _ _ _ (.sl .no _ es b o cap len k1.symm k2 hle trivial) .nil, by simp [AV.one], ?_⟩
              simp only [Looks, hu, if_neg hc0]
              refine ⟨_, es, rfl, ?_, k3⟩
              have hb := hw ((elems.length + rest.length) * P.bytesOf e) (by simp [DataW.weights, hu])
              have : len * P.bytesOf e ≤ (elems.length + rest.length) * P.bytesOf e := Nat.mul_le_mul_right _ (by omega)
              rw [k1]; omega
      | struct fs =>
        obtain ⟨xs, n', hn, rfl, hcl, hxl, hf⟩ := DataW.trod_struct hu h
        cases hn
        obtain ⟨q1, q2, q3⟩ := kid_struct hl ht hu
        have hmm : ∀ l : List Field, (l.map (·.type)).map P.cellsOf = l.map fun f => P.cellsOf f.type := fun l => by simp
        obtain ⟨l, r1, r2, r3⟩ := pieces (E := E0 w) P.cellsOf (Looks P R n) (fs.toList.map (·.type)) cs (by rw [hcl, q2, hmm]) fun j u hj => by
          rw [List.getElem?_map] at hj
          obtain ⟨f, hfj, rfl⟩ := Option.map_eq_some_iff.1 hj
          have hoff := q3 j f hfj
          rw [← List.map_take, hmm, ← hoff]
          have hlt := (List.getElem?_eq_some_iff.1 hfj).1
          have hfx := hf j f (by simpa using hfj)
          rw [List.getElem?_eq_getElem (by simp at hlt; omega)] at hfx
          refine ih f.type _ _ (q1 f (List.mem_of_getElem? hfj)) hfx fun k hk => hw k ?_
          rw [DataW.weights, hu]
          refine weightsEach_mem (j := j) (t := f.type) (by simp [List.getElem?_map, hfj]) ?_ k hk
          simp at hlt
          simp [List.getElem?_map, List.getElem?_eq_getElem (show j < xs.length by omega)]
        refine ⟨l, r1, r2, ?_⟩
        simp only [Looks, hu]
        refine ⟨by rw [← r1.length, hcl], fun i f hi => ?_⟩
        have := r3 i f.type (by simp [List.getElem?_map, hi])
        rw [← List.map_take, hmm, ← q3 i f (by simpa using hi)] at this
        exact this
      | array m e =>
        obtain ⟨xs, n', hn, rfl, hcl, hxl, hf⟩ := DataW.trod_array hu h
        cases hn
        obtain ⟨q1, q2⟩ := kid_array hl ht hu
        obtain ⟨l, r1, r2, r3⟩ := pieces (E := E0 w) P.cellsOf (Looks P R n) (List.replicate m e) cs (by simp [hcl, q2]) fun j u hj => by
          obtain ⟨hjm, rfl⟩ : j < m ∧ u = e := by
            rw [List.getElem?_replicate] at hj
            split at hj
            · rename_i hjm; exact ⟨hjm, (Option.some.inj hj).symm⟩
            · cases hj
          rw [take_sum _ _ _ _ (by omega)]
          have hfx := hf j hjm
          rw [List.getElem?_eq_getElem (by omega)] at hfx
          refine ih u _ _ q1 hfx fun k hk => hw k ?_
          rw [DataW.weights, hu]
          exact weightsAll_mem (List.mem_map.2 ⟨_, List.getElem_mem (by omega : j < xs.length), rfl⟩) k hk
        refine ⟨l, r1, r2, ?_⟩
        simp only [Looks, hu]
        refine ⟨by rw [← r1.length, hcl], fun i hi => ?_⟩
        have := r3 i e (by simp [List.getElem?_replicate, hi])
        rwa [take_sum _ _ _ _ (by omega)] at this
      | _ => exact other (by simp [isAgg, hu]) fun v hv => by simp only [Looks, hu]; exact ⟨v, rfl, hv⟩

section
variable {P : Program} {R n : Nat} {t e : TypeId} {l : List AV}
theorem Looks.int {k : IntKind} (hu : P.underlying t = some (.int k)) (h : Looks P R n t l) : ∃ z, l = [.int k z] ∧ (Lit.int k z).wf = true := by
  cases n with
  | zero => exact h.elim
  | succ n => simpa only [Looks, hu] using h
theorem Looks.bool (hu : P.underlying t = some .bool) (h : Looks P R n t l) : ∃ z, l = [.bool z] := by
  cases n with
  | zero => exact h.elim
  | succ n => simpa only [Looks, hu] using h
theorem Looks.string (hu : P.underlying t = some .string) (h : Looks P R n t l) : ∃ s, l = [.str s] ∧ s.length ≤ R := by
  cases n with
  | zero => exact h.elim
  | succ n => simpa only [Looks, hu] using h
theorem Looks.slice (hu : P.underlying t = some (.slice e)) (hc : P.cellsOf e ≠ 0) (h : Looks P R n t l) :
    ∃ own es m, l = [.sl own (P.cellsOf e) es] ∧ es.length * P.bytesOf e ≤ R ∧ ∀ x ∈ es, ∃ c, x = elA (isAgg P e) c ∧ (∀ v ∈ c, v.one = true) ∧ Looks P R m e c := by
  cases n with
  | zero => exact h.elim
  | succ n =>
    simp only [Looks, hu, if_neg hc] at h
    obtain ⟨own, es, h1, h2, h3⟩ := h
    exact ⟨own, es, n, h1, h2, h3⟩
theorem Looks.struct {fs : Array Field} (hu : P.underlying t = some (.struct fs)) (h : Looks P R n t l) :
    l.length = P.cellsOf t ∧ ∃ m, ∀ (i : Nat) (f : Field), fs[i]? = some f → Looks P R m f.type ((l.drop f.offset).take (P.cellsOf f.type)) := by
  cases n with
  | zero => exact h.elim
  | succ n =>
    simp only [Looks, hu] at h
    exact ⟨h.1, n, h.2⟩

theorem list_of {α : Type} (f : α → AV) (Q : α → Prop) : ∀ (es : List AV), (∀ x ∈ es, ∃ d, x = f d ∧ Q d) → ∃ ds : List α, es = ds.map f ∧ ∀ d ∈ ds, Q d
  | [], _ => ⟨[], rfl, by simp⟩
  | x :: es, h => by
    obtain ⟨d, rfl, hd⟩ := h x (by simp)
    obtain ⟨ds, rfl, hds⟩ := list_of f Q es fun y hy => h y (by simp [hy])
    exact ⟨d :: ds, rfl, fun z hz => by rcases List.mem_cons.1 hz with rfl | hz; exact hd; exact hds z hz⟩

theorem Looks.strs (hu : P.underlying t = some (.slice e)) (he : P.underlying e = some .string) (hc : P.cellsOf e = 1) (hb : 0 < P.bytesOf e) (h : Looks P R n t l) :
    ∃ own ss, l = [.sl own 1 (strs ss)] ∧ ss.length ≤ R ∧ ∀ s ∈ ss, s.length ≤ R := by
  obtain ⟨own, es, m, rfl, h2, h3⟩ := h.slice hu (by omega)
  obtain ⟨ss, rfl, h4⟩ := list_of AV.str (fun s => s.length ≤ R) es fun x hx => by
    obtain ⟨c, rfl, _, hk⟩ := h3 x hx
    obtain ⟨s, rfl, hs⟩ := hk.string he
    exact ⟨s, by simp [elA, isAgg, he], hs⟩
  refine ⟨own, ss, by rw [hc]; rfl, ?_, h4⟩
  have : ss.length ≤ ss.length * P.bytesOf e := Nat.le_mul_of_pos_right _ hb
  simp at h2; omega

theorem Looks.rows {α : Type} {sz : Nat} (f : α → List AV) (Q : α → Prop) (hu : P.underlying t = some (.slice e)) (he : isAgg P e = true) (hsz : P.cellsOf e = sz) (hsz0 : sz ≠ 0) (hb : 0 < P.bytesOf e)
    (hq : ∀ m c, (∀ v ∈ c, v.one = true) → Looks P R m e c → ∃ d, c = f d ∧ Q d) (h : Looks P R n t l) :
    ∃ (own : Own) (ds : List α), l = [.sl own sz (ds.map fun d => .agg (f d))] ∧ ds.length ≤ R ∧ ∀ d ∈ ds, Q d := by
  have hc : P.cellsOf e ≠ 0 := by omega
  obtain ⟨own, es, m, rfl, h2, h3⟩ := h.slice hu hc
  obtain ⟨ds, rfl, h4⟩ := list_of (fun d => .agg (f d)) Q es fun x hx => by
    obtain ⟨c, rfl, h1, hk⟩ := h3 x hx
    obtain ⟨d, rfl, hd⟩ := hq m c h1 hk
    exact ⟨d, by simp [elA, he], hd⟩
  refine ⟨own, ds, by rw [hsz], ?_, h4⟩
  have : ds.length ≤ ds.length * P.bytesOf e := Nat.le_mul_of_pos_right _ hb
  simp at h2; omega
theorem Looks.field {fs : Array Field} (hf : ∀ (i : Nat) (f : Field), fs[i]? = some f → Looks P R n f.type ((l.drop f.offset).take (P.cellsOf f.type))) (i : Nat) {t : TypeId} {c : Nat} {l' : List AV} (hc : P.cellsOf t = c)
    (h : ∃ f, fs[i]? = some f ∧ f.type = t ∧ (l.drop f.offset).take c = l') : Looks P R n t l' := by
  obtain ⟨f, h1, rfl, rfl⟩ := h
  rw [← hc]
  exact hf i f h1
end
end Go.Am
/- From a contract of the abstract machine to a row: a law that answers true whatever its arguments. -/
set_option linter.unusedSectionVars false
set_option linter.unusedVariables false
set_option linter.unusedSimpArgs false
namespace Go.Am
open Go.RowKit Go.ChangeShapes

theorem okWide_cells {P : Program} {w : World} {r : Reach} {b : Nat} {t : TypeId} {v : Value} (h : Value.okWide P w r b t v) (ha : isAgg P t = false) : v.cells = #[v] := by
  cases v <;> first | rfl | skip
  rename_i cs
  exfalso
  unfold isAgg at ha
  unfold Value.okWide at h
  split at h
  · rename_i hu; simp [hu] at ha
  · rename_i hu; simp [hu] at ha
  · unfold Cell.okWide Cell.ok at h
    split at h <;> simp_all

theorem okWide_agg {P : Program} {w : World} {r : Reach} {b : Nat} {t : TypeId} {v : Value} (h : Value.okWide P w r b t v) (ha : isAgg P t = true) : ∃ cs, v = .agg cs := by
  unfold isAgg at ha
  unfold Value.okWide at h
  split at h
  · obtain ⟨cs, rfl, _⟩ := h; exact ⟨cs, rfl⟩
  · obtain ⟨cs, rfl, _⟩ := h; exact ⟨cs, rfl⟩
  · rename_i h1 h2
    split at ha
    · rename_i hu; exact absurd hu (h1 _)
    · rename_i hu; exact absurd hu (h2 _ _)
    · cases ha

/-- What the arguments look like. -/
def ArgsLook (P : Program) (R : Nat) : List TypeId → List AV → Prop
  | [], [] => True
  | t :: ts, a :: as => (∃ n l, a = elA (isAgg P t) l ∧ (∀ v ∈ l, v.one = true) ∧ Looks P R n t l) ∧ ArgsLook P R ts as
  | _, _ => False

section
variable {H : Type} {enc : TypeId × Value → H} {P : Program} {W : World} {R : Nat}
theorem argsLook_of (hl : laidOutB P = true) {base : Nat} {r : Reach} : ∀ (ts : List TypeId) (vs : List Value) (ds : List (DataW H)) (ps : List MemPlace), (∀ t ∈ ts, t < P.types.size) →
    (∀ (j : Nat) t v, ts[j]? = some t → vs[j]? = some v → Value.okWide P W r base t v) →
    DataW.TrodAll enc P W 0 (fun _ => true) true ts vs ds ps → (∀ k ∈ DataW.weightsEach P ts ds, k ≤ R) → ∃ as, RepL (E0 W) as vs ∧ ArgsLook P R ts as
  | [], vs, ds, ps, _, _, h, _ => by
    obtain ⟨rfl, rfl, rfl⟩ := trodAll_nil h
    exact ⟨[], .nil, trivial⟩
  | t :: ts, vs, ds, ps, hts, hok, h, hw => by
    obtain ⟨v, vs, d, ds, p, q, rfl, rfl, rfl, ⟨fuel, hd⟩, hrest⟩ := trodAll_cons h
    rw [DataW.weightsEach] at hw
    obtain ⟨as, h1, h2⟩ := argsLook_of hl ts vs ds q (fun t ht => hts t (by simp [ht])) (fun j t v a b => hok (j + 1) t v (by simpa using a) (by simpa using b)) hrest fun k hk => hw k (List.mem_append_right _ hk)
    obtain ⟨l, k1, k2, k3⟩ := looks_of hl fuel t _ _ (hts t (by simp)) hd fun k hk => hw k (List.mem_append_left _ hk)
    have hv := hok 0 t v rfl rfl
    refine ⟨elA (isAgg P t) l :: as, .cons _ _ _ _ ?_ h1, ⟨⟨fuel, l, rfl, k2, k3⟩, h2⟩⟩
    cases ha : isAgg P t with
    | true =>
      obtain ⟨cs, rfl⟩ := okWide_agg hv ha
      simp only [Value.cells] at k1
      exact Rep.agg l cs.toList k1
    | false =>
      obtain ⟨x, rfl⟩ := k3.single ha
      rw [okWide_cells hv ha] at k1
      obtain ⟨c, e, hc⟩ := k1.one_inv
      cases e
      exact hc

theorem trodAll_below (hl : laidOutB P = true) {W' : World} (hb : Below W.heap.size W W') : ∀ (ts : List TypeId) (vs : List Value) (ds : List (DataW H)) (ps : List MemPlace), (∀ t ∈ ts, P.readableRec t = true ∧ t < P.types.size) →
    DataW.TrodAll enc P W 0 (fun _ => true) true ts vs ds ps → (∀ x ∈ ps, x.block < W.heap.size) → DataW.TrodAll enc P W' 0 (fun b => decide (b < W.heap.size)) true ts vs ds ps
  | [], vs, ds, ps, _, h, _ => by
    obtain ⟨rfl, rfl, rfl⟩ := trodAll_nil h
    exact trodAll_mk0
  | t :: ts, vs, ds, ps, hts, h, hlt => by
    obtain ⟨v, vs, d, ds, p, q, rfl, rfl, rfl, hd, hrest⟩ := trodAll_cons h
    exact ⟨p, q, Below.trod hl (hts t (by simp)).1 (hts t (by simp)).2 hd hb fun x hx => hlt x (by simp [hx]), trodAll_below hl hb ts vs ds q (fun t ht => hts t (by simp [ht])) hrest fun x hx => hlt x (by simp [hx]), rfl⟩

theorem trodAll_length {w : World} {base : Nat} {sp : Nat → Bool} {held : Bool} : ∀ {ts : List TypeId} {vs : List Value} {ds : List (DataW H)} {ps : List MemPlace}, DataW.TrodAll enc P w base sp held ts vs ds ps → ds.length = ts.length
  | [], vs, ds, ps, h => by
    obtain ⟨rfl, rfl, rfl⟩ := trodAll_nil h
    rfl
  | t :: ts, vs, ds, ps, h => by
    obtain ⟨v, vs, d, ds, p, q, rfl, rfl, rfl, hd, hrest⟩ := trodAll_cons h
    simp [trodAll_length hrest]
end

section
variable [Inhabited LaidBox] {H : Type} {enc : TypeId × Value → H}
theorem lifted_of {C : Checked} {os : Os} {f : FuncId} {fn : Func} {s : ChangeSpec} {conds : List PathCond} {X : World → Array Value → Prop} {tb : TypeId}
    (hX : ∀ (w w' : World) (args : Array Value), w.heap = w'.heap → X w args → X w' args)
    (own : ownKnob C.prog.godebug = none) (started : os.Started) (noInit : C.prog.inits.idxOf? f = none) (hfn : C.prog.funcs[f]? = some fn)
    (hl : laidOutB C.prog = true) (hpar : (fn.params.toList.all fun t => C.prog.readableRec t && decide (t < C.prog.types.size)) = true) (hvars : s.vars = [])
    (hs : ∀ ds : List (DataW H), ds.length = fn.params.toList.length → s.fn H ds = { results := [.lit (.bool true)], args := ds })
    (hres : fn.resultTypes = #[tb]) (htb : C.prog.underlying tb = some .bool)
    (witness : ∃ (w : World) (tape : Tape) (i : Input), w.os = os ∧ (w.forCall tape i).Shaped C.prog ∧ i.vars = [] ∧ Input.okWide C.prog (w.forCall tape i) .any w.heap.size f i ∧
      ((s.pre enc C.prog fn conds false (w.forCall tape i).memory i.args ∧ X (w.forCall tape i).memory i.args) ∧ sizedMet enc C.prog fn (OpenSpec.ofChange s) false (w.forCall tape i).memory i.args) ∧ ({} : Assume).holds C.prog (lone (Frame.enter C.prog f i.args .normal) [] (w.forCall tape i)))
    (hbox : ∀ (W : World) (args : Array Value), W.ShapedOpen C.prog → X W args → (default : LaidBox).ok W)
    (core : ∀ as, ArgsLook C.prog reachBytes fn.params.toList as → Pure C.prog f as (.bool true)) :
    ReturnsInHanded {} C os f .any (fun w args => (s.pre enc C.prog fn conds false w args ∧ X w args) ∧ sizedMet enc C.prog fn (OpenSpec.ofChange s) false w args) (s.post enc C.prog fn false true false false) := by
  refine returnsInHanded_of_calls own started noInit witness ?_
  intro w tape i _ hsh _ hok hpre _
  obtain ⟨_, _, _, fn', hfn', _, _, _, _, hval⟩ := hok
  have e : fn' = fn := Option.some.inj (hfn'.symm.trans hfn)
  subst e
  obtain ⟨⟨⟨ds, gs, before, hw, hc⟩, hx⟩, hz⟩ := hpre
  have hW := DataW.Whole.of_heap (w' := w.forCall tape i) (by rfl) hw
  have hwt := hz.weights hw
  have hx' := hX _ (w.forCall tape i) _ (by rfl) hx
  generalize w.forCall tape i = W at *
  have hpar' : ∀ t ∈ fn'.params.toList, C.prog.readableRec t = true ∧ t < C.prog.types.size := fun t ht => by
    have := List.all_eq_true.1 hpar t ht
    simpa using this
  obtain ⟨p, q, hA, hV, rfl, hfz, hnd⟩ := id hW
  rw [hvars] at hV
  obtain ⟨rfl, rfl⟩ := trodVars_none hV
  have hlt : ∀ x ∈ p, x.block < W.heap.size := fun x hx => hW.lt x (by simp [hx])
  obtain ⟨as, k1, k2⟩ := argsLook_of (R := reachBytes) hl _ _ _ _ (fun t ht => (hpar' t ht).2) (fun j t v a b => hval j t v (by simpa using a) (by simpa using b)) hA fun k hk => by
    have := List.all_eq_true.1 hwt k
    simp only [decide_eq_true_eq] at this
    refine this ?_
    simpa [OpenSpec.ofChange, OpenSpec.bare, ChangeSpec.plain, DataSpec.varTypes, hvars] using hk
  refine ((core as k2 (fun _ => none)) _ _ _ W i.args (Mem.sub.refl _) (sim_E0 W (hbox W i.args hsh hx')) k1).mono fun e W' ⟨x, M', MM', E', hRx, hr, _, _, _, _, hb⟩ => ?_
  obtain ⟨hx1, _⟩ := hRx
  subst hx1
  cases e with
  | returned v =>
    cases (show Rep E' (.bool true) v from hr)
    refine ChangeSpec.post_blind ⟨ds, [], p ++ [], [], p, [], hW, ?_, ?_, ?_, hb.frame _, fun h => by cases h⟩
    · rw [List.append_nil, hs ds (trodAll_length hA), hres]
      exact trodAll_mk1 (shut_bool htb true)
    · rw [List.append_nil, hs ds (trodAll_length hA)]
      exact trodAll_below hl hb _ _ _ _ hpar' hA hlt
    · rw [List.append_nil, hs ds (trodAll_length hA), hvars]
      rfl
  | _ => exact hr.elim
end
end Go.Am
