/- Maps whose keys are strings. -/
import Derived.Test.YtpephlhhdefdgaaDoorAmC
import Derived.MapKept
set_option linter.unusedSectionVars false
set_option linter.unusedVariables false
set_option linter.unusedSimpArgs false
namespace Go.Am
open Go.RowKit
variable [Inhabited LaidBox]

theorem sameNow_str (a b : ByteArray) : Instr.sameNow .string (.string a) (.string b) = some (decide (a.data.toList = b.data.toList)) := by
  obtain ⟨r, h1, h2⟩ := MapKept.sameNow_of_keys (d := .string) (a := .string a) (b := .string b) trivial trivial
  rw [h1]
  congr 1
  rw [Bool.eq_iff_iff, h2, decide_eq_true_iff]
  constructor
  · intro h; cases h; rfl
  · intro h
    cases a; cases b
    congr 2
    exact Array.ext' h

/-- The value at a key. -/
def findS : List (List UInt8 × AV) → List UInt8 → Option AV
  | [], _ => none
  | (k, v) :: l, s => bif decide (s = k) then some v else findS l s
/-- The value set at a key. -/
def setS : List (List UInt8 × AV) → List UInt8 → AV → List (List UInt8 × AV)
  | [], s, v => [(s, v)]
  | (k, w) :: l, s, v => bif decide (s = k) then (s, v) :: l else (k, w) :: setS l s v

theorem run_findNow {E : Env} (b : ByteArray) : ∀ {kvs : List (List UInt8 × AV)} {es : List MapEntry} (i : Nat), RepM E kvs es →
    (Instr.findNow .string (.string b) es i = some none ∧ findS kvs b.data.toList = none ∧ ∀ v c, RepM E [(b.data.toList, v)] [c] → RepM E (setS kvs b.data.toList v) (es ++ [c])) ∨
    ∃ j e v, Instr.findNow .string (.string b) es i = some (some (i + j, e.val)) ∧ es[j]? = some e ∧ e.key = .string b ∧ findS kvs b.data.toList = some v ∧ Rep E v e.val ∧ ∀ v' c, RepM E [(b.data.toList, v')] [c] → RepM E (setS kvs b.data.toList v') (es.set j c)
  | _, _, i, .nil => by
    refine .inl ⟨rfl, rfl, fun v c h => ?_⟩
    exact h
  | _, _, i, .cons k v e kvs es hk hv ht => by
    cases hk' : e.key with
    | string b' =>
      rw [hk'] at hk
      have hkk : k = b'.data.toList := by cases hk; rfl
      by_cases heq : b.data.toList = k
      · refine .inr ⟨0, e, v, ?_, rfl, ?_, ?_, hv, fun v' c h => ?_⟩
        · simp [Instr.findNow, hk', sameNow_str, heq, hkk]
        · rw [hk']
          rw [hkk] at heq
          cases b; cases b'
          congr 2
          exact (Array.ext' heq).symm
        · simp [findS, heq]
        · cases h with
          | cons _ _ _ _ _ h1 h2 _ =>
            simp only [setS, heq, decide_true, cond_true, List.set_cons_zero]
            rw [heq] at h1
            exact .cons k v' c kvs es h1 h2 ht
      · have hne : Instr.sameNow .string (.string b) (.string b') = some false := by rw [sameNow_str]; rw [hkk] at heq; simp [heq]
        rcases run_findNow b (i + 1) ht with ⟨h1, h2, h3⟩ | ⟨j, e', v', h1, h2, h3, h4, h5, h6⟩
        · refine .inl ⟨?_, ?_, fun v' c h => ?_⟩
          · simp [Instr.findNow, hk', hne, h1]
          · simp [findS, heq, h2]
          · simp only [setS, heq, decide_false, cond_false, List.cons_append]
            exact .cons k v e _ _ (by rw [hk']; exact hk) hv (h3 v' c h)
        · refine .inr ⟨j + 1, e', v', ?_, by simpa using h2, h3, ?_, h5, fun v'' c h => ?_⟩
          · simp [Instr.findNow, hk', hne, h1]; omega
          · simp [findS, heq, h4]
          · simp only [setS, heq, decide_false, cond_false, List.set_cons_succ]
            exact .cons k v e _ _ (by rw [hk']; exact hk) hv (h6 v'' c h)
    | _ => rw [hk'] at hk; cases hk

section
variable {P : Program} {w : World}
theorem run_findKey {kt : TypeId} (hk : P.underlying kt = some .string) (k : Value) (es : List MapEntry) {r : Option (Nat × Value)} (h : Instr.findNow .string k es 0 = some r) : (Instr.findKey kt k es).run P w = .ok r w := by
  simp [Instr.findKey, run_underlying hk, h]
theorem run_checkKey {kt : TypeId} (hk : P.underlying kt = some .string) (em : Bool) (b : ByteArray) : (Instr.checkKey em 10000 kt (.string b)).run P w = .ok () w :=
  MapKept.run_checkKey hk (d := .string) (k := .string b) trivial em 9999

/-- A look-up. -/
theorem run_lookup_map {t kt et : TypeId} {j : TI} (ht : P.underlying t = some (.map kt et)) (hk : P.underlying kt = some .string) (hj : TIOk P et j) {B : Nat} {E : Env} {M : Mem} (hs : Sim B E M w) {r : Nat} {kvs : List (List UInt8 × AV)} (hM : M (.b r) = some (.map kvs)) (b : ByteArray) (ok : Bool) :
    ∃ c, (Instr.lookup t (.map (some r)) (.string b) ok).run P w = .ok (if ok then .tuple #[c, .bool (findS kvs b.data.toList).isSome] else c) w ∧ Rep E ((findS kvs b.data.toList).getD j.zero) c := by
  obtain ⟨G, nr, hs⟩ := hs
  obtain ⟨es, clock, h1, h2⟩ := hs.mpm r kvs hM
  obtain ⟨info, z, i1, i2, i3, i4, i5, i6⟩ := hj.info
  rcases run_findNow b 0 h2 with ⟨f1, f2, _⟩ | ⟨i, e, v, f1, f2, f3, f4, f5, _⟩
  · refine ⟨z, ?_, by rw [f2]; exact (AV.concA_rep i5).1⟩
    simp [Instr.lookup, run_underlying ht, MapKept.run_getObj_map h1, run_checkKey hk, run_findKey hk _ _ f1, zeroValue, typeInfo, i1, i4, f2]
  · refine ⟨e.val, ?_, by rw [f4]; exact f5⟩
    simp [Instr.lookup, run_underlying ht, MapKept.run_getObj_map h1, run_checkKey hk, run_findKey hk _ _ f1, f4]

theorem run_lookup_nil {t kt et : TypeId} {j : TI} (ht : P.underlying t = some (.map kt et)) (hk : P.underlying kt = some .string) (hj : TIOk P et j) {E : Env} (b : ByteArray) (ok : Bool) :
    ∃ c, (Instr.lookup t (.map none) (.string b) ok).run P w = .ok (if ok then .tuple #[c, .bool false] else c) w ∧ Rep E j.zero c := by
  obtain ⟨info, z, i1, i2, i3, i4, i5, i6⟩ := hj.info
  refine ⟨z, ?_, (AV.concA_rep i5).1⟩
  have f1 : Instr.findNow .string (.string b) [] 0 = some none := rfl
  simp [Instr.lookup, run_underlying ht, run_checkKey hk, run_findKey hk _ _ f1, zeroValue, typeInfo, i1, i4]

/-- An update. -/
theorem run_update_map {t kt et : TypeId} (ht : P.underlying t = some (.map kt et)) (hk : P.underlying kt = some .string) {B : Nat} {E : Env} {M : Mem} (hs : Sim B E M w) {r : Nat} {kvs : List (List UInt8 × AV)} (hM : M (.b r) = some (.map kvs)) (b : ByteArray) {v : AV} {c : Value} (hv : Rep E v c) :
    ∃ w', (Instr.mapUpdate t (.map (some r)) (.string b) c).run P w = .ok () w' ∧ Sim B E (M.set (.b r) (.map (setS kvs b.data.toList v))) w' ∧ Below B w w' := by
  obtain ⟨G, nr, hs⟩ := hs
  obtain ⟨es, clock, h1, h2⟩ := hs.mpm r kvs hM
  have hB := (hs.dom r _ hM).1
  have hlt := (hs.dom r _ hM).2
  have hbelow : ∀ o, Below B w { w with heap := w.heap.setIfInBounds r o } := fun o => ⟨rfl, rfl, rfl, by simp, fun k hk => by
    show (w.heap.setIfInBounds r o)[k]? = w.heap[k]?
    rw [Array.getElem?_setIfInBounds]; simp [show r ≠ k by omega]⟩
  have hset : ∀ o, (setObj r o).run P w = .ok () { w with heap := w.heap.setIfInBounds r o } := fun o => MapKept.run_setObj_map o h1
  have hone : ∀ born, RepM E [(b.data.toList, v)] [{ key := .string b, val := c, born := born }] := fun born => .cons _ _ _ _ _ (.str b) hv .nil
  rcases run_findNow b 0 h2 with ⟨f1, f2, f3⟩ | ⟨i, e, v0, f1, f2, f3, f4, f5, f6⟩
  · refine ⟨_, ?_, ⟨G, nr, hs.map_set r kvs _ hM (es.push { key := .string b, val := c, born := clock }) (clock + 1) (by simpa using f3 v _ (hone clock))⟩, hbelow _⟩
    simp [Instr.mapUpdate, run_underlying ht, MapKept.run_getObj_map h1, run_checkKey hk, run_findKey hk _ _ f1, hset]
  · have hes : es[i]? = some e := by simpa using f2
    refine ⟨_, ?_, ⟨G, nr, hs.map_set r kvs _ hM (es.modify i fun e => { e with key := .string b, val := c }) clock ?_⟩, hbelow _⟩
    · have hst : (Instr.keyThatStays (.string b) (.string b)).run P w = .ok (.string b) w := MapKept.run_keyThatStays (d := .string) (k := .string b) trivial
      simp only [Nat.zero_add] at f1
      simp [Instr.mapUpdate, run_underlying ht, MapKept.run_getObj_map h1, run_checkKey hk, run_findKey hk _ _ f1, hes, f3, hst, hset]
    · have hm : (es.modify i fun e => { e with key := .string b, val := c }).toList = es.toList.set i { e with key := .string b, val := c } := by
        rw [Array.toList_modify]
        refine List.ext_getElem? fun j => ?_
        rw [List.getElem?_modify, List.getElem?_set]
        by_cases hij : i = j
        · subst hij
          have hl := (List.getElem?_eq_some_iff.1 f2).1
          simp [f2]
          simpa using hl
        · simp [hij]
      rw [hm]
      exact f6 v _ (.cons _ _ _ _ _ (.str b) hv .nil)
end
end Go.Am
