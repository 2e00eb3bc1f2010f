/- Structs and slices that are made, type assertions, appends, maps. -/
import Derived.Test.YtpephlhhdefdgaaDoorAmI
set_option linter.unusedSectionVars false
set_option linter.unusedVariables false
set_option linter.unusedSimpArgs false
namespace Go.Am
open Go.RowKit
variable [Inhabited LaidBox] {ro : Option Nat}

theorem foldl_set (off : Nat) : ∀ (vs : List Value) (k : Nat) (cs : Array Value), off + k + vs.length ≤ cs.size →
    ((vs.zipIdx k).foldl (fun (cs : Array Value) (x : Value × Nat) => cs.setIfInBounds (off + x.2) x.1) cs).toList = cs.toList.take (off + k) ++ vs ++ cs.toList.drop (off + k + vs.length)
  | [], k, cs, _ => by simp
  | v :: vs, k, cs, h => by
    simp only [List.zipIdx_cons, List.foldl_cons]
    rw [foldl_set off vs (k + 1) _ (by simp at h ⊢; omega)]
    have hlt : off + k < cs.size := by simp at h; omega
    have hset : (cs.setIfInBounds (off + k) v).toList = cs.toList.set (off + k) v := by simp
    rw [hset]
    have hl : off + k < cs.toList.length := by simpa using hlt
    rw [show off + (k + 1) = off + k + 1 by omega, List.take_set_succ_eq cs.toList (off + k) v hl, List.drop_set_of_lt (by omega)]
    simp [List.append_assoc]
    omega
where
  List.take_set_succ_eq (l : List Value) (n : Nat) (v : Value) (h : n < l.length) : (l.set n v).take (n + 1) = l.take n ++ [v] := by
    rw [List.take_succ_eq_append_getElem (by simpa using h)]
    simp [List.take_set_of_le]

theorem fill_step (place : Nat → Option (Nat × Nat)) (cells : Array Value) (i off size : Nat) (v : Value) (rest : List (Nat × Value)) (hp : place i = some (off, size)) (hs : v.cells.size = size) (hfit : off + size ≤ cells.size) :
    Instr.fill place cells ((i, v) :: rest) = Instr.fill place (cells.toList.take off ++ v.cells.toList ++ cells.toList.drop (off + size)).toArray rest := by
  rw [Instr.fill, hp]
  simp only
  rw [if_neg (by simp [hs]; omega)]
  congr 1
  apply Array.ext'
  have hl : v.cells.toList.length = size := by simpa using hs
  have := foldl_set off v.cells.toList 0 cells (by omega)
  simp only [Nat.add_zero, hl] at this
  rw [← this]
  rw [← Array.foldl_toList]
  simp

section
variable {P : Program} {o : Oper} {st : St}

theorem fillA_rep {B : Nat} {E : Env} {F : Mem} {blk rw : List Nat} {a : Act} {w : World} (hr : Rel B E F blk rw st a w) (place : Nat → Option (Nat × Nat)) (size : Nat) : ∀ (parts : List (Nat × Nat × Opd)) (parts' : List (Nat × Operand)) (zero : List AV) (z : Array Value) (cs : List AV) (p : Prop),
    parts.length = parts'.length → (∀ (k : Nat) off n x, parts[k]? = some (off, n, x) → off + n ≤ size ∧ ∃ i y, parts'[k]? = some (i, y) ∧ place i = some (off, n) ∧ IsOpd x y) → zero.length = size → (∀ y ∈ zero, y.one = true) → RepL E zero z.toList →
    fillA zero true st.get parts = some (cs, p) → p → ∃ z', Instr.fill place z (parts'.map fun (i, y) => (i, a.eval y)) = some z' ∧ RepL E cs z'.toList ∧ cs.length = size ∧ ∀ y ∈ cs, y.one = true
  | [], [], zero, z, cs, p, _, _, hsz, h1, hz, h, _ => by
    cases h
    exact ⟨z, rfl, hz, hsz, h1⟩
  | [], _ :: _, _, _, _, _, hl, _, _, _, _, _, _ => by simp at hl
  | _ :: _, [], _, _, _, _, hl, _, _, _, _, _, _ => by simp at hl
  | (off, n, x) :: parts, (i, y) :: parts', zero, z, cs, p, hl, hxy, hsz, h1, hz, h, hp => by
    unfold fillA at h
    split at h
    · rename_i v q1 hv
      split at h
      · rename_i cs' q2 hcs
        cases h
        obtain ⟨p1, p2, p3, p4⟩ := hp
        obtain ⟨hfit, i', y', hy', hpl, hx⟩ := hxy 0 off n x (by simp)
        simp at hy'
        obtain ⟨rfl, rfl⟩ := hy'
        have hrep := hr.rd hx hv p1
        have hcells : RepL E v.cells (a.eval y).cells.toList := hrep.cellsL (by rintro rfl; have := p3 .junk (by simp [AV.cells]); simp [AV.one] at this)
        have hcl : (a.eval y).cells.size = n := by rw [← Array.length_toList, hcells.length]; exact p2
        have hzl : z.size = size := by rw [← Array.length_toList, hz.length]; exact hsz
        simp only [List.map_cons]
        rw [fill_step place z i off n (a.eval y) _ hpl hcl (by omega)]
        refine fillA_rep hr place size parts parts' _ _ _ _ (by simpa using hl) (fun k off' n' x' hk => by simpa using hxy (k + 1) off' n' x' (by simpa using hk)) ?_ ?_ ?_ hcs p4
        · simp; omega
        · intro u hu
          simp only [List.mem_append] at hu
          rcases hu with (hu | hu) | hu
          · exact h1 u (List.mem_of_mem_take hu)
          · exact p3 u hu
          · exact h1 u (List.mem_of_mem_drop hu)
        · exact ((hz.take off).append hcells).append (hz.drop _)
      · cases h
    · cases h

theorem bdParts_ok {T : TT} (hT : TTOk P T) {fs : Array Field} {size : Nat} : ∀ {ys : List (Nat × Operand)} {parts : List (Nat × Nat × Opd)}, bdParts T fs size ys = some parts →
    parts.length = ys.length ∧ ∀ (k : Nat) off n x, parts[k]? = some (off, n, x) → off + n ≤ size ∧ ∃ i y, ys[k]? = some (i, y) ∧ IsOpd x y ∧ ∃ fd j, fs[i]? = some fd ∧ off = fd.offset ∧ TIOk P fd.type j ∧ n = j.size
  | [], parts, h => by
    cases h
    exact ⟨rfl, fun k off n x hk => by simp at hk⟩
  | (i, y) :: ys, parts, h => by
    unfold bdParts at h
    split at h
    · rename_i off n ty l hpl hrest
      split at h
      · rename_i hfit
        simp only [Option.map_eq_some_iff] at h
        obtain ⟨x, hx, rfl⟩ := h
        obtain ⟨k1, k2⟩ := bdParts_ok hT hrest
        refine ⟨by simp [k1], fun k off' n' x' hk => ?_⟩
        cases k with
        | zero =>
          simp at hk
          obtain ⟨rfl, rfl, rfl⟩ := hk
          refine ⟨hfit, i, y, by simp, cX_is hx, ?_⟩
          unfold place at hpl
          split at hpl
          · rename_i fd hfd
            simp only [Option.map_eq_some_iff] at hpl
            obtain ⟨m, hm, he⟩ := hpl
            cases he
            unfold sizeT at hm
            simp only [Option.map_eq_some_iff] at hm
            obtain ⟨j, hj, rfl⟩ := hm
            exact ⟨fd, j, hfd, rfl, hT _ _ hj, rfl⟩
          · cases hpl
        | succ k => simpa using k2 k off' n' x' (by simpa using hk)
      · cases h
    · cases h

theorem places_run (fs : List Field) (hfs : ∀ f ∈ fs, ∃ j, TIOk P f.type j) (w : World) : ∃ places : List (Nat × Nat), (fs.mapM fun f => Prod.mk f.offset <$> sizeOf f.type).run P w = .ok places w ∧ places.length = fs.length ∧ ∀ (i : Nat) fd, fs[i]? = some fd → ∀ j, TIOk P fd.type j → places[i]? = some (fd.offset, j.size) := by
  induction fs with
  | nil => exact ⟨[], by simp, rfl, by simp⟩
  | cons f fs ih =>
    obtain ⟨pl, h1, h2, h3⟩ := ih (fun g hg => hfs g (by simp [hg]))
    obtain ⟨j, hj⟩ := hfs f (by simp)
    refine ⟨(f.offset, j.size) :: pl, ?_, by simp [h2], ?_⟩
    · simp only [List.mapM_cons, Sem.run_bind, Sem.run_map, hj.run_size w, Result.andThen_ok, h1, Sem.run_pure]
    · intro i fd hi j' hj'
      cases i with
      | zero =>
        simp at hi; subst hi
        have : j'.size = j.size := by
          have e1 := hj.run_size w
          have e2 := hj'.run_size w
          rw [e1] at e2
          injection e2 with e2 _
          exact e2.symm
        simp [this]
      | succ i => simpa using h3 i fd (by simpa using hi) j' hj'

theorem sound_bd {T : TT} (hT : TTOk P T) {t : TypeId} {j : TI} {fs : Array Field} {parts' : Array (Nat × Operand)} {parts : List (Nat × Nat × Opd)} (ho : o.op = .build t parts') (hj : TIOk P t j) (hd : j.desc = .struct fs) (hall : fs.toList.all (fun f => (T f.type).isSome) = true) (hparts : bdParts T fs j.size parts'.toList = some parts)
    {tv : TV} {p : Prop} (h : pev (.bd j.zero.cells parts) true st = some (tv, p)) (hp : p) : OpVal P o st st tv := by
  simp only [pev] at h
  split at h
  · rename_i cs q hcs
    cases h
    refine .pure fun B E F blk rw a w hr => ?_
    obtain ⟨z, z1, z2, z3, z4, z5⟩ := hj.zero_rep E w
    obtain ⟨places, h1, h2, h3⟩ := places_run (P := P) fs.toList (fun f hf => by
      have := List.all_eq_true.1 hall f hf
      obtain ⟨i, hi⟩ := Option.isSome_iff_exists.1 this
      exact ⟨i, hT _ _ hi⟩) w
    obtain ⟨k1, k2⟩ := bdParts_ok hT hparts
    obtain ⟨z', f1, f2, f3, f4⟩ := fillA_rep hr (fun i => places[i]?) j.size parts parts'.toList j.zero.cells z.cells cs p k1 (fun k off n x hk => by
      obtain ⟨q1, i, y, q2, q3, fd, jj, q4, rfl, q5, rfl⟩ := k2 k off n x hk
      refine ⟨q1, i, y, q2, ?_, q3⟩
      exact h3 i fd (by simpa using q4) jj q5) z5 z4 z3 hcs hp
    refine ⟨.agg z', ?_, ?_⟩
    · simp only [execOp, ho]
      refine run_v ?_
      have hu : P.underlying t = some (.struct fs) := by rw [← hd]; exact hj.und
      have hpl : (fs.mapM fun f => Prod.mk f.offset <$> sizeOf f.type).run P w = .ok places.toArray w := by
        rw [Array.mapM_eq_mapM_toList]
        simp only [Sem.run_map, h1, Result.andThen_ok]
      simp only [Instr.build, Sem.run_bind, z1, Result.andThen_ok, run_underlying hu]
      have hfun : (fs.mapM fun f => (do pure (f.offset, ← sizeOf f.type) : Sem (Nat × Nat))) = (fs.mapM fun f => Prod.mk f.offset <$> sizeOf f.type) := by
        congr 1
      rw [hfun, hpl]
      have hmap : (parts'.map fun (i, x) => (i, a.eval x)).toList = parts'.toList.map fun (i, y) => (i, a.eval y) := by simp
      simp only [Result.andThen_ok, hmap, List.getElem?_toArray, f1, Sem.run_pure]
    · have := Rep.agg (E := E) cs z'.toList f2
      simpa [RelV] using this
  · cases h

theorem bsParts_ok {T : TT} {e : TypeId} : ∀ {ys : List (Nat × Operand)} {k : Nat} {xs : List Opd}, bsParts T e k ys = some xs →
    xs.length = ys.length ∧ ∀ (i : Nat) (x : Opd), xs[i]? = some x → ∃ y, ys[i]? = some (k + i, y) ∧ IsOpd x y
  | [], k, xs, h => by cases h; exact ⟨rfl, fun i x hi => by simp at hi⟩
  | (i, y) :: ys, k, xs, h => by
    unfold bsParts at h
    split at h
    · rename_i hik
      subst hik
      split at h
      · rename_i x l hx hrest
        cases h
        obtain ⟨k1, k2⟩ := bsParts_ok hrest
        refine ⟨by simp [k1], fun j x' hj => ?_⟩
        cases j with
        | zero => simp at hj; subst hj; exact ⟨y, by simp, cX_is hx⟩
        | succ j =>
          obtain ⟨y', q1, q2⟩ := k2 j x' (by simpa using hj)
          exact ⟨y', by simpa [show i + (j + 1) = i + 1 + j by omega] using q1, q2⟩
      · cases h
    · cases h

theorem mid_take {α : Type} (A C D : List α) (a n : Nat) (ha : A.length = a) (hc : C.length = n) : ((A ++ C ++ D).take (a + n)).drop a = C := by
  subst ha; subst hc
  rw [show A.length + C.length = (A ++ C).length by simp, List.take_left, List.drop_left]

theorem fill_row {E : Env} (sz : Nat) : ∀ (k : Nat) (vals : List (Nat × Value)) (vs : List AV) (z : Array Value), vals.length = vs.length → (∀ (i : Nat) v, vs[i]? = some v → ∃ c, vals[i]? = some (k + i, c) ∧ Rep E v c ∧ v.cells.length = sz ∧ ∀ y ∈ v.cells, y.one = true) → (k + vals.length) * sz ≤ z.size →
    ∃ z' : Array Value, Instr.fill (fun i => some (i * sz, sz)) z vals = some z' ∧ z'.size = z.size ∧ z'.toList.take (k * sz) = z.toList.take (k * sz) ∧ RepL E (flat vs) ((z'.toList.drop (k * sz)).take (vs.length * sz))
  | k, [], [], z, _, _, _ => ⟨z, rfl, rfl, rfl, by simp [flat]; exact .nil⟩
  | _, [], _ :: _, _, hl, _, _ => by simp at hl
  | _, _ :: _, [], _, hl, _, _ => by simp at hl
  | k, (i, c) :: vals, v :: vs, z, hl, hxy, hfit => by
    obtain ⟨c', hc', hrep, hlen, hone⟩ := hxy 0 v (by simp)
    simp at hc'
    obtain ⟨rfl, rfl⟩ := hc'
    have hcells : RepL E v.cells c.cells.toList := hrep.cellsL (by rintro rfl; have := hone .junk (by simp [AV.cells]); simp [AV.one] at this)
    have hcl : c.cells.size = sz := by rw [← Array.length_toList, hcells.length]; exact hlen
    have hmul : (i + (vals.length + 1)) * sz = i * sz + sz + vals.length * sz := by rw [Nat.add_mul, Nat.add_mul]; omega
    have hfit' : i * sz + sz + vals.length * sz ≤ z.size := by rw [← hmul]; simpa using hfit
    have hmul2 : (i + 1) * sz = i * sz + sz := by rw [Nat.add_mul]; omega
    rw [fill_step _ z i (i * sz) sz c vals rfl hcl (by omega)]
    obtain ⟨z', f1, f2, f3, f4⟩ := fill_row sz (i + 1) vals vs (z.toList.take (i * sz) ++ c.cells.toList ++ z.toList.drop (i * sz + sz)).toArray (by simpa using hl) (fun j x hj => by
      obtain ⟨c2, q1, q2⟩ := hxy (j + 1) x (by simpa using hj)
      exact ⟨c2, by simpa [show i + (j + 1) = i + 1 + j by omega] using q1, q2⟩) (by
      have : (i + 1 + vals.length) * sz = i * sz + sz + vals.length * sz := by rw [Nat.add_mul, Nat.add_mul]; omega
      rw [this]; simp; omega)
    have hsz : (z.toList.take (i * sz) ++ c.cells.toList ++ z.toList.drop (i * sz + sz)).toArray.size = z.size := by simp; omega
    refine ⟨z', f1, by rw [f2, hsz], ?_, ?_⟩
    · have : z'.toList.take (i * sz) = (z'.toList.take ((i + 1) * sz)).take (i * sz) := by
        rw [List.take_take]; congr 1; omega
      rw [this, f3, List.take_take, hmul2]
      rw [show min (i * sz) (i * sz + sz) = i * sz by omega]
      simp only [List.append_assoc]
      rw [List.take_append_of_le_length (by simp; omega), List.take_take]
      simp
    · rw [flat_cons]
      have h1 : (z'.toList.drop (i * sz)).take sz = c.cells.toList := by
        have : (z'.toList.drop (i * sz)).take sz = (z'.toList.take ((i + 1) * sz)).drop (i * sz) := by
          rw [hmul2, List.drop_take]; congr 1; omega
        rw [this, f3, hmul2]
        exact mid_take _ _ _ _ _ (by simp; omega) (by simpa using hcl)
      have h2 : ((z'.toList.drop (i * sz)).take ((vs.length + 1) * sz)) = (z'.toList.drop (i * sz)).take sz ++ (z'.toList.drop ((i + 1) * sz)).take (vs.length * sz) := by
        rw [show (vs.length + 1) * sz = sz + vs.length * sz by rw [Nat.add_mul]; omega, List.take_add, List.drop_drop, hmul2]
      simp only [List.length_cons]
      rw [h2, h1]
      exact hcells.append f4

theorem sound_bs {T : TT} {t e : TypeId} {j : TI} {len : Nat} {parts' : Array (Nat × Operand)} {parts : List Opd} (ho : o.op = .buildSlice t len parts') (ht : P.underlying t = some (.slice e)) (hj : TIOk P e j) (hlen : parts'.size = len ∧ len * j.size ≤ 16777216 ∧ 0 < j.size) (hparts : bsParts T e 0 parts'.toList = some parts)
    {tv : TV} {p : Prop} (h : pev (.bs e j.size parts) true st = some (tv, p)) (hp : p) : OpVal P o st st tv := by
  simp only [pev] at h
  split at h
  · rename_i vs q hvs
    cases h
    obtain ⟨p1, p2⟩ := hp
    obtain ⟨hl1, hl2, hl3⟩ := hlen
    obtain ⟨k1, k2⟩ := bsParts_ok hparts
    intro B E F blk rw a w hr
    obtain ⟨z, z1, z2, z3, z4, z5⟩ := hj.zero_rep E w
    have hrl := rdL_rep hr (ys := parts'.toList.map (·.2)) (by simpa using k1) (fun i x hi => by
      obtain ⟨y, q1, q2⟩ := k2 i x hi
      exact ⟨y, by simp only [List.getElem?_map, q1, Option.map_some], q2⟩) hvs p1
    have hvl : vs.length = len := by
      have := hrl.length
      simp at this
      omega
    let vals := parts'.toList.map fun (i, y) => (i, a.eval y)
    have hvals : vals.length = vs.length := by simp [vals, hl1, hvl]
    let z0 : Array Value := (Array.range (len * j.size)).map (z.cells[· % z.cells.size]!)
    obtain ⟨z', f1, f2, f3, f4⟩ := fill_row (E := E) j.size 0 vals vs z0 hvals (fun i v hi => by
      obtain ⟨c, hc, hrep⟩ := hrl.at i v hi
      obtain ⟨s1, s2⟩ := p2 v (List.mem_of_getElem? hi)
      simp only [List.map_map, List.getElem?_map, Option.map_eq_some_iff] at hc
      obtain ⟨⟨i', y⟩, hy, hce⟩ := hc
      have hil : i < parts.length := by
        rw [k1]
        rcases Nat.lt_or_ge i parts'.toList.length with h' | h'
        · exact h'
        · rw [List.getElem?_eq_none h'] at hy; cases hy
      obtain ⟨y', hy', _⟩ := k2 i _ (List.getElem?_eq_getElem hil)
      rw [hy] at hy'
      simp at hy'
      obtain ⟨rfl, rfl⟩ := hy'
      refine ⟨c, ?_, hrep, s1, s2⟩
      simp only [vals, List.getElem?_map, hy, Option.map_some]
      simp at hce
      simp [hce]) (by simp [z0, hvals, hvl])
    simp only [Nat.zero_mul, List.drop_zero] at f4
    have hz'len : z'.toList.length = vs.length * j.size := by simp [f2, z0, hvl]
    rw [List.take_of_length_le (by omega)] at f4
    obtain ⟨MM, hm⟩ := hr.mem
    obtain ⟨G, nr, hs⟩ := hm.sim
    obtain ⟨hs2, hle⟩ := hs.new_cells e z'.toList []
    have hone : ∀ v ∈ flat vs, v.one = true := by
      intro v hv
      simp only [flat, List.mem_flatMap] at hv
      obtain ⟨x, hx, hv⟩ := hv
      exact (p2 x hx).2 v hv
    have hes : RepEs (E.lay w.heap.size 0 z'.toList) j.size vs w.heap.size 0 := RepEs.of (fun x hx => (p2 x hx).1) hone (f4.mono hle) (Env.lay_lays E w.heap.size 0 z'.toList)
    refine ⟨.slice (some ⟨w.heap.size, 0, none⟩) len len, w.alloc (.cells z' e), E.lay w.heap.size 0 z'.toList, blk, rw, .inl ?_, hle, (Below.refl B w).alloc hs.base _, ⟨hr.tmps.mono hle (Pre.refl _) (Pre.refl _), hr.defs.mono hle, MM, hm.mono_env ⟨G, nr, by simpa using hs2⟩⟩, ?_⟩
    · simp only [execOp, ho]
      refine run_v ?_
      have hmap : (parts'.map fun (i, x) => (i, a.eval x)).toList = vals := by simp [vals]
      have hnot : ¬ (len * j.size > 2 ^ 24) := by omega
      simp only [Instr.buildSlice, Sem.run_bind, run_underlying ht, Result.andThen_ok, hj.run_size w, Sem.run_ite, if_neg hnot, Sem.run_pure]
      have hz1 : ((if len * j.size = 0 then pure #[] else do pure (← zeroValue e).cells : Sem (Array Value))).run P w = .ok (if len * j.size = 0 then #[] else z.cells) w := by
        split
        · rfl
        · simp [z1]
      have hfill : Instr.fill (fun i => some (i * j.size, j.size)) ((Array.range (len * j.size)).map ((if len * j.size = 0 then #[] else z.cells)[· % (if len * j.size = 0 then #[] else z.cells).size]!)) vals = some z' := by
        rw [← f1]
        congr 1
        by_cases h0 : len * j.size = 0
        · simp [z0, h0]
        · simp [z0, h0]
      by_cases h0 : len * j.size = 0
      · simp only [h0, if_true, Sem.run_pure, Result.andThen_ok, hmap] at hfill ⊢
        simp only [hfill, newRow, Sem.run_bind, run_newObj, Result.andThen_ok, Sem.run_pure]
        rfl
      · simp only [h0, if_false, Sem.run_bind, z1, Sem.run_pure, Result.andThen_ok, hmap] at hfill ⊢
        simp only [hfill, newRow, Sem.run_bind, run_newObj, Result.andThen_ok, Sem.run_pure]
        rfl
    · have := Rep.sl (E := E.lay w.heap.size 0 z'.toList) .full j.size vs w.heap.size 0 len len hvl.symm hes (Nat.le_refl _) ⟨rfl, rfl⟩
      exact this
  · cases h

end
end Go.Am
