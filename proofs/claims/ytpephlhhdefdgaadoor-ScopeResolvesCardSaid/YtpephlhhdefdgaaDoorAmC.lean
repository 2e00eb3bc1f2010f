/- Stores, maps; what the operations on memory run to. -/
import Derived.Test.YtpephlhhdefdgaaDoorAmB
set_option linter.unusedSectionVars false
set_option linter.unusedVariables false
set_option linter.unusedSimpArgs false
namespace Go.Am
open Go.RowKit
variable [Inhabited LaidBox]

/-- A store into a variable. -/
theorem Sim0.store {B : Nat} {E : Env} {G : Nat → Option Nat} {nr : Nat} {M : Mem} {w : World} (h : Sim0 B E G nr M w) (r off : Nat) (cs : List AV) (hM : M (.b r) = some (.cells cs)) (vs : List AV) (us : List Value) (hr : RepL E vs us) (h1 : ∀ v ∈ vs, v.one = true) (hfit : off + vs.length ≤ cs.length)
    (ccs : Array Value) (ty : TypeId) (hg : w.heap[r]? = some (.cells ccs ty (0, 0))) :
    Sim0 B E G nr (M.set (.b r) (.cells (cs.take off ++ vs ++ cs.drop (off + vs.length)))) (w.setRow r (ccs.toList.take off ++ us ++ ccs.toList.drop (off + us.length)).toArray) := by
  obtain ⟨g1, g2, g3, ccs', ty', g4, g5⟩ := h.obj r cs hM
  rw [hg] at g4; cases g4
  have hlen := hr.length
  have hlen2 := g5.length
  refine ⟨by simpa using h.base, ?_, ?_, ?_, ?_, ?_, ?_, h.fresh, h.grow, h.ok, ?_⟩
  · intro b o v e
    have hb : b ≠ r := by rintro rfl; rw [g2 o] at e; cases e
    rw [cell_setRow_other w r _ _ (by simpa using hb)]; exact h.cell b o v e
  · intro r' o e
    simp only [setRow_size]
    by_cases hx : r' = r
    · subst hx; exact h.dom _ _ hM
    · rw [Mem.set_other _ _ _ _ (by simpa using hx)] at e; exact h.dom _ _ e
  · intro r' cs' e
    by_cases hx : r' = r
    · subst hx
      rw [Mem.set_same] at e; cases e
      refine ⟨g1, g2, ?_, _, ty, setRow_heap w r' ccs _ ty _ hg, ?_⟩
      · intro v hv
        simp only [List.mem_append] at hv
        rcases hv with (hv | hv) | hv
        · exact g3 v (List.mem_of_mem_take hv)
        · exact h1 v hv
        · exact g3 v (List.mem_of_mem_drop hv)
      · rw [← hlen]
        exact ((g5.take off).append hr).append (g5.drop _)
    · rw [Mem.set_other _ _ _ _ (by simpa using hx)] at e
      obtain ⟨k1, k2, k3, c2, t2, k4, k5⟩ := h.obj r' cs' e
      exact ⟨k1, k2, k3, c2, t2, by rw [setRow_other w r r' _ hx]; exact k4, k5⟩
  · intro r' o ho e
    by_cases hx : r' = r
    · subst hx; rw [Mem.set_same] at e; cases e; cases ho
    · rw [Mem.set_other _ _ _ _ (by simpa using hx)] at e
      obtain ⟨c, k1, k2⟩ := h.mp r' o ho e
      exact ⟨c, by rw [setRow_other w r r' _ hx]; exact k1, k2⟩
  · intro t e sz n he
    rw [Mem.set_other _ _ _ _ (by simp)] at he
    obtain ⟨k0, k1 | ⟨b, cap, cur, k1, k2, k3, k4, k5⟩⟩ := h.row t e sz n he
    · exact ⟨k0, .inl k1⟩
    · have hb : b ≠ r := by rintro rfl; rw [g1] at k3; cases k3
      exact ⟨k0, .inr ⟨b, cap, cur, k1, k2, k3, by rw [setRow_other w r b _ hb]; exact k4, k5⟩⟩
  · intro t o e
    rw [Mem.set_other _ _ _ _ (by simp)] at e; exact h.rdom t o e
  · intro k hk
    have := (h.dom r _ hM).1
    exact (setRow_other w r k _ (by omega)).trans (h.old k hk)

/-- A block without cells turns. -/
theorem Sim0.oth_set {B : Nat} {E : Env} {G : Nat → Option Nat} {nr : Nat} {M : Mem} {w : World} (h : Sim0 B E G nr M w) (r : Nat) (o o' : AObj) (ho : o.oth = true) (ho' : o'.oth = true) (hM : M (.b r) = some o) (c' : Obj) (hr : RepO E o' c') :
    Sim0 B E G nr (M.set (.b r) o') { w with heap := w.heap.setIfInBounds r c' } := by
  obtain ⟨c, g1, g2⟩ := h.mp r o ho hM
  have hlt := (Array.getElem?_eq_some_iff.1 g1).1
  have hother : ∀ k, k ≠ r → (w.heap.setIfInBounds r c')[k]? = w.heap[k]? := fun k hk => by
    rw [Array.getElem?_setIfInBounds]; simp [Ne.symm hk]
  have hsame : (w.heap.setIfInBounds r c')[r]? = some c' := by
    rw [Array.getElem?_setIfInBounds]; simp [hlt]
  refine ⟨by simpa using h.base, ?_, ?_, ?_, ?_, ?_, ?_, h.fresh, h.grow, h.ok, ?_⟩
  · intro b o v e
    have hc := h.cell b o v e
    have hb : b ≠ r := by
      rintro rfl
      cases c with
      | cells cs ty f => exact g2.no_cells
      | _ => simp [World.cell?, g1] at hc
    simpa [World.cell?, hother b hb] using hc
  · intro r' o e
    simp only [Array.size_setIfInBounds]
    by_cases hx : r' = r
    · subst hx; exact h.dom _ _ hM
    · rw [Mem.set_other _ _ _ _ (by simpa using hx)] at e; exact h.dom _ _ e
  · intro r' cs' e
    by_cases hx : r' = r
    · subst hx; rw [Mem.set_same] at e; cases e; cases ho'
    · rw [Mem.set_other _ _ _ _ (by simpa using hx)] at e
      obtain ⟨k1, k2, k3, c2, t2, k4, k5⟩ := h.obj r' cs' e
      exact ⟨k1, k2, k3, c2, t2, by rw [show ({ w with heap := w.heap.setIfInBounds r c' } : World).heap = w.heap.setIfInBounds r c' from rfl, hother r' hx]; exact k4, k5⟩
  · intro r' o2 ho2 e
    by_cases hx : r' = r
    · subst hx; rw [Mem.set_same] at e; cases e
      exact ⟨c', hsame, hr⟩
    · rw [Mem.set_other _ _ _ _ (by simpa using hx)] at e
      obtain ⟨c2, k1, k2⟩ := h.mp r' o2 ho2 e
      exact ⟨c2, (hother r' hx).trans k1, k2⟩
  · intro t e sz n he
    rw [Mem.set_other _ _ _ _ (by simp)] at he
    obtain ⟨k0, k1 | ⟨b, cap, cur, k1, k2, k3, k4, k5⟩⟩ := h.row t e sz n he
    · exact ⟨k0, .inl k1⟩
    · have hb : b ≠ r := by rintro rfl; rw [g1] at k4; cases k4; exact g2.no_cells
      exact ⟨k0, .inr ⟨b, cap, cur, k1, k2, k3, (hother b hb).trans k4, k5⟩⟩
  · intro t o e
    rw [Mem.set_other _ _ _ _ (by simp)] at e; exact h.rdom t o e
  · intro k hk
    have := (h.dom r _ hM).1
    exact (hother k (by omega)).trans (h.old k hk)
theorem Sim0.map_set {B : Nat} {E : Env} {G : Nat → Option Nat} {nr : Nat} {M : Mem} {w : World} (h : Sim0 B E G nr M w) (r : Nat) (kvs kvs' : List (List UInt8 × AV)) (hM : M (.b r) = some (.map kvs)) (es' : Array MapEntry) (clock' : Nat) (hr : RepM E kvs' es'.toList) :
    Sim0 B E G nr (M.set (.b r) (.map kvs')) { w with heap := w.heap.setIfInBounds r (.map es' clock') } := h.oth_set r _ _ rfl rfl hM _ hr

/-! What is told of a type. -/
structure TI where
  desc : TypeDesc
  size : Nat
  bytes : Nat
  zero : AV

def isAggD : TypeDesc → Bool
  | .struct _ | .array _ _ => true
  | _ => false

/-- A value without memory. -/
def AV.conc : AV → Option Value
  | .bool b => some (.bool b)
  | .int k n => some (.int k n)
  | .str s => some (.string ⟨s.toArray⟩)
  | .nilp => some (.pointer none)
  | .sl .full _ [] => some (.slice none 0 0)
  | .nilmap => some (.map none)
  | .nilfn => some .nilFunc
  | .niliface => some .nilIface
  | _ => none
def AV.concs : List AV → Option (List Value)
  | [] => some []
  | v :: vs => match v.conc, AV.concs vs with
    | some c, some cs => some (c :: cs)
    | _, _ => none
def AV.concA : AV → Option Value
  | .agg cs => (AV.concs cs).map fun l => .agg l.toArray
  | v => v.conc

theorem AV.conc_rep {E : Env} {v : AV} {c : Value} (h : v.conc = some c) : Rep E v c := by
  cases v with
  | bool b => simp [AV.conc] at h; subst h; exact .bool b
  | int k n => simp [AV.conc] at h; subst h; exact .int k n
  | str s => simp [AV.conc] at h; subst h; have := Rep.str (E := E) ⟨s.toArray⟩; simpa using this
  | nilp => simp [AV.conc] at h; subst h; exact .nilp
  | sl own sz es =>
    cases own with
    | full =>
      cases es with
      | nil => simp [AV.conc] at h; subst h; exact .slnil _ _ (fun t => by simp)
      | cons e es => simp [AV.conc] at h
    | no => simp [AV.conc] at h
    | srow t => simp [AV.conc] at h
  | nilmap => simp [AV.conc] at h; subst h; exact .nilmap
  | nilfn => simp [AV.conc] at h; subst h; exact .nilfn
  | niliface => simp [AV.conc] at h; subst h; exact .niliface
  | _ => simp [AV.conc] at h
theorem AV.conc_one {v : AV} {c : Value} (h : v.conc = some c) : v.one = true := by
  cases v <;> first | rfl | simp [AV.conc] at h
theorem AV.concs_rep {E : Env} : ∀ {vs : List AV} {cs : List Value}, AV.concs vs = some cs → RepL E vs cs ∧ ∀ v ∈ vs, v.one = true
  | [], cs, h => by simp [AV.concs] at h; subst h; exact ⟨.nil, by simp⟩
  | v :: vs, cs, h => by
    unfold AV.concs at h
    split at h
    · rename_i c cs' hc hcs
      cases h
      obtain ⟨h1, h2⟩ := AV.concs_rep (E := E) hcs
      exact ⟨.cons v c vs cs' (AV.conc_rep hc) h1, fun x hx => by
        rcases List.mem_cons.1 hx with rfl | hm
        · exact AV.conc_one hc
        · exact h2 x hm⟩
    · cases h
theorem AV.concA_rep {E : Env} {v : AV} {c : Value} (h : v.concA = some c) : Rep E v c ∧ RepL E v.cells c.cells.toList ∧ ∀ x ∈ v.cells, x.one = true := by
  by_cases ha : ∃ cs, v = .agg cs
  · obtain ⟨cs, rfl⟩ := ha
    simp only [AV.concA, Option.map_eq_some_iff] at h
    obtain ⟨l, hl, rfl⟩ := h
    obtain ⟨h1, h2⟩ := AV.concs_rep (E := E) hl
    exact ⟨.agg cs l h1, by simpa [AV.cells, Value.cells] using h1, h2⟩
  · have h' : v.conc = some c := by cases v <;> first | exact h | exact absurd ⟨_, rfl⟩ ha
    have hr := AV.conc_rep (E := E) h'
    have h1 := AV.conc_one h'
    have hcells : v.cells = [v] := by cases v <;> first | rfl | exact absurd ⟨_, rfl⟩ ha
    refine ⟨hr, hr.cellsL (by rintro rfl; simp [AV.conc] at h'), ?_⟩
    intro x hx
    rw [hcells, List.mem_singleton] at hx
    subst hx; exact h1

structure TIOk (P : Program) (t : TypeId) (i : TI) : Prop where
  und : P.underlying t = some i.desc
  info : ∃ info z, P.info? t = some info ∧ info.size = i.size ∧ info.bytes = i.bytes ∧ info.zero = some z ∧ i.zero.concA = some z ∧ i.zero.cells.length = i.size

abbrev TT := Nat → Option TI
def TTOk (P : Program) (T : TT) : Prop := ∀ t i, T t = some i → TIOk P t i

section runs
variable {P : Program} {t : TypeId} {i : TI} (w : World)

theorem TIOk.run_und (h : TIOk P t i) : (underlying t).run P w = .ok i.desc w := run_underlying h.und w
theorem TIOk.run_size (h : TIOk P t i) : (sizeOf t).run P w = .ok i.size w := by
  obtain ⟨info, z, h1, h2, _⟩ := h.info
  simp [sizeOf, typeInfo, h1, h2]
theorem TIOk.run_zero (h : TIOk P t i) : ∃ z, (zeroValue t).run P w = .ok z w ∧ i.zero.concA = some z := by
  obtain ⟨info, z, h1, _, _, h4, h5, _⟩ := h.info
  exact ⟨z, by simp [zeroValue, typeInfo, h1, h4], h5⟩
theorem TIOk.run_isAgg (h : TIOk P t i) : (isAgg t).run P w = .ok (isAggD i.desc) w := by
  simp only [isAgg, Sem.run_bind, h.run_und w, Result.andThen_ok]
  cases i.desc <;> rfl

theorem run_loadVar_cells (h : TIOk P t i) (b o : Nat) (cs : List Value) (hlen : cs.length = i.size) (hc : ∀ j c, cs[j]? = some c → w.cell? ⟨b, o + j, none⟩ = some c) :
    (loadVar t ⟨b, o, none⟩).run P w = if isAggD i.desc then .ok (.agg cs.toArray) w else (match w.cell? ⟨b, o, none⟩ with | some v => .ok v w | none => (load ⟨b, o, none⟩).run P w) := by
  unfold loadVar
  simp only [Sem.run_bind, h.run_isAgg w, Result.andThen_ok]
  split
  · simp only [Sem.run_bind, h.run_size w, Result.andThen_ok]
    have := run_loadCells_list (P := P) w ⟨b, o, none⟩ cs (fun j v hj => by rw [Addr.add_lit]; exact hc j v hj)
    rw [← hlen, this]
    rfl
  · cases hcc : w.cell? ⟨b, o, none⟩ with
    | none => rfl
    | some v => simp [hcc]

/-- Of a row of values: the value of a type that lies at an offset. -/
def pickT (agg : Bool) (n : Nat) (vs : List AV) (off : Nat) : Option AV :=
  if off + n ≤ vs.length then if agg then some (.agg ((vs.drop off).take n)) else if n = 1 then vs[off]? else none else none

theorem run_load_rep (h : TIOk P t i) {E : Env} (b o : Nat) (vs : List AV) (cs : List Value) (hr : RepL E vs cs) (off : Nat) (hc : ∀ j c, cs[j]? = some c → w.cell? ⟨b, o + j, none⟩ = some c) (v : AV) (hv : pickT (isAggD i.desc) i.size vs off = some v) :
    ∃ c, (Instr.loadAt t (.pointer (some ⟨b, o + off, none⟩))).run P w = .ok c w ∧ Rep E v c := by
  unfold pickT at hv
  have hlen := hr.length
  split at hv
  · rename_i hfit
    have hd := (hr.drop off).take i.size
    have hdl : ((cs.drop off).take i.size).length = i.size := by simp; omega
    have hcells : ∀ j c, ((cs.drop off).take i.size)[j]? = some c → w.cell? ⟨b, o + off + j, none⟩ = some c := by
      intro j c hj
      rw [List.getElem?_take] at hj
      split at hj
      · rw [List.getElem?_drop] at hj
        have := hc _ _ hj
        rwa [show o + (off + j) = o + off + j by omega] at this
      · cases hj
    have hrun := run_loadVar_cells (P := P) w h b (o + off) _ hdl hcells
    split at hv
    · rename_i hagg
      cases hv
      rw [if_pos hagg] at hrun
      exact ⟨_, by simpa [Instr.loadAt, Instr.sureAddr] using hrun, .agg _ _ hd⟩
    · rename_i hagg
      split at hv
      · rename_i hn
        obtain ⟨c, hc1, hc2⟩ := hr.at off v hv
        have hcell : w.cell? ⟨b, o + off, none⟩ = some c := hc off c hc1
        rw [if_neg hagg, hcell] at hrun
        exact ⟨c, by simpa [Instr.loadAt, Instr.sureAddr] using hrun, hc2⟩
      · cases hv
  · cases hv

theorem cells_of_row (b : Nat) (ccs : Array Value) (ty : TypeId) (fr : Nat × Nat) (hg : w.heap[b]? = some (.cells ccs ty fr)) (j : Nat) (c : Value) (hj : ccs.toList[j]? = some c) : w.cell? ⟨b, 0 + j, none⟩ = some c := by
  simp only [Nat.zero_add, World.cell?, hg]
  simpa using hj

/-- A load out of a variable. -/
theorem run_load_obj (h : TIOk P t i) {B : Nat} {E : Env} {M : Mem} (hs : Sim B E M w) (r off : Nat) (cs : List AV) (hM : M (.b r) = some (.cells cs)) (v : AV) (hv : pickT (isAggD i.desc) i.size cs off = some v) :
    ∃ c, (Instr.loadAt t (.pointer (some ⟨r, off, none⟩))).run P w = .ok c w ∧ Rep E v c := by
  obtain ⟨G, nr, hs⟩ := hs
  obtain ⟨_, _, _, ccs, ty, g4, g5⟩ := hs.obj r cs hM
  have := run_load_rep (P := P) w h r 0 cs ccs.toList g5 off (cells_of_row w r ccs ty _ g4) v hv
  simpa using this

/-- A load out of an element. -/
theorem run_load_elem (h : TIOk P t i) {B : Nat} {E : Env} {M : Mem} (hs : Sim B E M w) (b o off : Nat) (e : AV) (hc : RepCs E e.cells b o) (v : AV) (hv : pickT (isAggD i.desc) i.size e.cells off = some v) :
    ∃ c, (Instr.loadAt t (.pointer (some ⟨b, o + off, none⟩))).run P w = .ok c w ∧ Rep E v c := by
  obtain ⟨G, nr, hs⟩ := hs
  obtain ⟨cs, hr, hl, _⟩ := hc.lays
  exact run_load_rep (P := P) w h b o e.cells cs hr off (fun j c hj => hs.cell _ _ _ (hl j c hj)) v hv

/-- A store into a variable. -/
theorem run_store_obj (h : TIOk P t i) {B : Nat} {E : Env} {M : Mem} (hs : Sim B E M w) (r off : Nat) (cs : List AV) (hM : M (.b r) = some (.cells cs)) (v : AV) (c : Value) (hr : Rep E v c) (h1 : ∀ x ∈ v.cells, x.one = true) (hn : v.cells.length = i.size) (hfit : off + i.size ≤ cs.length) :
    ∃ w', (Instr.storeAt t (.pointer (some ⟨r, off, none⟩)) c).run P w = .ok () w' ∧ Sim B E (M.set (.b r) (.cells (cs.take off ++ v.cells ++ cs.drop (off + i.size)))) w' ∧ Below B w w' := by
  obtain ⟨G, nr, hs⟩ := hs
  obtain ⟨_, _, _, ccs, ty, g4, g5⟩ := hs.obj r cs hM
  have hj : v ≠ .junk := by rintro rfl; have := h1 .junk (by simp [AV.cells]); simp [AV.one] at this
  have hcl := hr.cellsL hj
  have hlen := hcl.length
  have hlen2 := g5.length
  have hone : ∀ u ∈ c.cells.toList, u.oneCell' = true := by
    intro u hu
    obtain ⟨k, hk⟩ := List.getElem?_of_mem hu
    have hkl : k < v.cells.length := by
      rw [← hlen]
      rcases Nat.lt_or_ge k c.cells.toList.length with h' | h'
      · exact h'
      · rw [List.getElem?_eq_none h'] at hk; cases hk
    obtain ⟨u', hu', hru⟩ := hcl.at k v.cells[k] (List.getElem?_eq_getElem hkl)
    rw [hk] at hu'; cases hu'
    exact hru.one (h1 _ (List.getElem_mem hkl))
  have hst := run_storeCells_at P r off ty c.cells.toList 0 ccs w g4 (by
    have : c.cells.toList.length = i.size := by rw [hlen, hn]
    have h2 : ccs.size = cs.length := by rw [← hlen2, Array.length_toList]
    omega) hone
  simp only [Nat.add_zero] at hst
  have hsz : c.cells.size = i.size := by rw [← hn, ← hlen, Array.length_toList]
  refine ⟨w.setRow r (ccs.toList.take off ++ c.cells.toList ++ ccs.toList.drop (off + c.cells.toList.length)).toArray, ?_, ⟨G, nr, ?_⟩, ?_⟩
  · simp only [Instr.storeAt, Instr.sureAddr, storeVar, Sem.run_bind, Sem.run_pure, Result.andThen_ok, h.run_size w, hsz, ne_eq, not_true_eq_false, if_false]
    simpa using hst
  · have := hs.store r off cs hM v.cells c.cells.toList hcl h1 (by omega) ccs ty g4
    rw [hn] at this
    exact this
  · refine ⟨rfl, rfl, rfl, by simp, fun k hk => setRow_other w r k _ ?_⟩
    have := (hs.dom r _ hM).1
    omega

end runs
end Go.Am
