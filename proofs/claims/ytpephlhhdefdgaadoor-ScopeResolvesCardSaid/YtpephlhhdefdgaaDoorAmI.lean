/- Stores and new variables, structs and slices that are made. -/
import Derived.Test.YtpephlhhdefdgaaDoorAmH
set_option linter.unusedSectionVars false
set_option linter.unusedVariables false
set_option linter.unusedSimpArgs false
namespace Go.Am
open Go.RowKit
variable [Inhabited LaidBox] {ro : Option Nat}

/-! The memory's relation behind a change. -/
section mem
variable {B : Nat} {E : Env} {F : Mem} {blk rw : List Nat} {loc : List (Option (List TV))} {rows : List (TypeId × Nat × Nat)} {M MM : Mem} {w w' : World}

theorem RelM.mono_env {E' : Env} (hm : RelM B E F blk rw loc rows M MM w) (hs : Sim B E' MM w') : RelM B E' F blk rw loc rows M MM w' :=
  ⟨hs, hm.sub, hm.frame, hm.locs, hm.rws, hm.blen, hm.rlen⟩

theorem RelM.setLoc (hm : RelM B E F blk rw loc rows M MM w) {i b : Nat} {tvs tvs' : List TV} {avs' : List AV} (hi : loc[i]? = some (some tvs)) (hb : blk[i]? = some b) (hr : RelTo blk rw tvs' avs') (hs : Sim B E (MM.set (.b b) (.cells avs')) w') :
    RelM B E F blk rw (loc.set i (some tvs')) rows M (MM.set (.b b) (.cells avs')) w' := by
  obtain ⟨b0, avs, k1, k2, k3, k4, k5⟩ := hm.locs i tvs hi
  rw [hb] at k1; cases k1
  have hlen : i < loc.length := by
    rcases Nat.lt_or_ge i loc.length with h | h
    · exact h
    · rw [List.getElem?_eq_none h] at hi; cases hi
  have live : ∀ (j : Nat) x, (loc.set i (some tvs'))[j]? = some (some x) → ∃ y, loc[j]? = some (some y) := by
    intro j x hj
    by_cases hij : i = j
    · subst hij; exact ⟨tvs, hi⟩
    · rw [List.getElem?_set_ne hij] at hj; exact ⟨x, hj⟩
  refine ⟨hs, fun r o hr' => ?_, fun r o hF => ?_, fun j x hj => ?_, fun j e sz n hj => ?_, by simpa using hm.blen, hm.rlen⟩
  · have hne : r ≠ .b b := by rintro rfl; rw [k4] at hr'; cases hr'
    rw [Mem.set_other _ _ _ _ hne]; exact hm.sub r o hr'
  · obtain ⟨f1, f2, f3, f4⟩ := hm.frame r o hF
    have hne : r ≠ .b b := by rintro rfl; exact f3 b rfl i tvs hi hb
    refine ⟨by rw [Mem.set_other _ _ _ _ hne]; exact f1, f2, fun b' eb j x hj => ?_, f4⟩
    obtain ⟨y, hy⟩ := live j x hj
    exact f3 b' eb j y hy
  · by_cases hij : i = j
    · subst hij
      have hj' : (loc.set i (some tvs'))[i]? = some (some tvs') := by simp [hlen]
      rw [hj'] at hj; cases hj
      refine ⟨b, avs', hb, Mem.set_same _ _ _, hr, k4, fun j' x' hj' hbj => ?_⟩
      obtain ⟨y, hy⟩ := live j' x' hj'
      exact k5 j' y hy hbj
    · rw [List.getElem?_set_ne hij] at hj
      obtain ⟨b', avs2, q1, q2, q3, q4, q5⟩ := hm.locs j x hj
      have hne : b' ≠ b := by rintro rfl; exact hij (k5 j x hj q1).symm
      refine ⟨b', avs2, q1, by rw [Mem.set_other _ _ _ _ (by simpa using hne)]; exact q2, q3, q4, fun j' x' hj' hbj => ?_⟩
      obtain ⟨y, hy⟩ := live j' x' hj'
      exact q5 j' y hy hbj
  · obtain ⟨t, q1, q2, q3, q4⟩ := hm.rws j e sz n hj
    exact ⟨t, q1, by rw [Mem.set_other _ _ _ _ (by simp)]; exact q2, q3, q4⟩

theorem RelM.setM {E' : Env} (hm : RelM B E F blk rw loc rows M MM w) {r : Key} {o o' : AObj} (hr : M r = some o) (hs : Sim B E' (MM.set r o') w') :
    RelM B E' F blk rw loc rows (M.set r o') (MM.set r o') w' := by
  refine ⟨hs, hm.sub.set r o', fun x ox hF => ?_, fun j x hj => ?_, fun j e sz n hj => ?_, hm.blen, hm.rlen⟩
  · obtain ⟨f1, f2, f3, f4⟩ := hm.frame x ox hF
    have hne : x ≠ r := by rintro rfl; rw [hr] at f2; cases f2
    exact ⟨by rw [Mem.set_other _ _ _ _ hne]; exact f1, by rw [Mem.set_other _ _ _ _ hne]; exact f2, f3, f4⟩
  · obtain ⟨b, avs, q1, q2, q3, q4, q5⟩ := hm.locs j x hj
    have hne : Key.b b ≠ r := by rintro rfl; rw [hr] at q4; cases q4
    exact ⟨b, avs, q1, by rw [Mem.set_other _ _ _ _ hne]; exact q2, q3, by rw [Mem.set_other _ _ _ _ hne]; exact q4, q5⟩
  · obtain ⟨t, q1, q2, q3, q4⟩ := hm.rws j e sz n hj
    have hne : Key.w t ≠ r := by rintro rfl; rw [hr] at q3; cases q3
    exact ⟨t, q1, by rw [Mem.set_other _ _ _ _ hne]; exact q2, by rw [Mem.set_other _ _ _ _ hne]; exact q3, q4⟩

/-- Something new that the function speaks of by its name. -/
theorem RelM.newM (hm : RelM B E F blk rw loc rows M MM w) {r : Key} {o : AObj} (hr : MM r = none) {E' : Env} (hs : Sim B E' (MM.set r o) w') :
    RelM B E' F blk rw loc rows (M.set r o) (MM.set r o) w' := by
  have hMr : M r = none := by
    cases h : M r with
    | none => rfl
    | some x => rw [hm.sub r x h] at hr; cases hr
  refine ⟨hs, hm.sub.set r o, fun x ox hF => ?_, fun j x hj => ?_, fun j e sz n hj => ?_, hm.blen, hm.rlen⟩
  · obtain ⟨f1, f2, f3, f4⟩ := hm.frame x ox hF
    have hne : x ≠ r := by rintro rfl; rw [hr] at f1; cases f1
    exact ⟨by rw [Mem.set_other _ _ _ _ hne]; exact f1, by rw [Mem.set_other _ _ _ _ hne]; exact f2, f3, f4⟩
  · obtain ⟨b, avs, q1, q2, q3, q4, q5⟩ := hm.locs j x hj
    have hne : Key.b b ≠ r := by rintro rfl; rw [hr] at q2; cases q2
    exact ⟨b, avs, q1, by rw [Mem.set_other _ _ _ _ hne]; exact q2, q3, by rw [Mem.set_other _ _ _ _ hne]; exact q4, q5⟩
  · obtain ⟨t, q1, q2, q3, q4⟩ := hm.rws j e sz n hj
    have hne : Key.w t ≠ r := by rintro rfl; rw [hr] at q2; cases q2
    exact ⟨t, q1, by rw [Mem.set_other _ _ _ _ hne]; exact q2, by rw [Mem.set_other _ _ _ _ hne]; exact q3, q4⟩

theorem getElem?_snoc {α : Type} {l : List α} {x y : α} {i : Nat} (h : (l ++ [x])[i]? = some y) : (i < l.length ∧ l[i]? = some y) ∨ (i = l.length ∧ x = y) := by
  rcases Nat.lt_trichotomy i l.length with h1 | h1 | h1
  · rw [List.getElem?_append_left h1] at h; exact .inl ⟨h1, h⟩
  · subst h1
    simp at h
    exact .inr ⟨rfl, h⟩
  · rw [List.getElem?_eq_none (by simp; omega)] at h; cases h

/-- A new variable of the call's own. -/
theorem RelM.newLoc (hm : RelM B E F blk rw loc rows M MM w) {r : Nat} {tvs : List TV} {avs : List AV} (hr : MM (.b r) = none) (ht : RelTo blk rw tvs avs) (hs : Sim B E (MM.set (.b r) (.cells avs)) w') :
    RelM B E F (blk ++ [r]) rw (loc ++ [some tvs]) rows M (MM.set (.b r) (.cells avs)) w' := by
  have hMr : M (.b r) = none := by
    cases h : M (.b r) with
    | none => rfl
    | some x => rw [hm.sub (.b r) x h] at hr; cases hr
  have old : ∀ {j : Nat} {x : List TV}, loc[j]? = some (some x) → ∃ b, blk[j]? = some b ∧ b ≠ r := by
    intro j x hj
    obtain ⟨b, avs, q1, q2, _⟩ := hm.locs j x hj
    exact ⟨b, q1, by rintro rfl; rw [hr] at q2; cases q2⟩
  have hpre := Pre.snoc blk r
  have hblk : ∀ {j : Nat} {x : List TV}, loc[j]? = some (some x) → (blk ++ [r])[j]? = blk[j]? := by
    intro j x hj
    obtain ⟨b, q1, _⟩ := old hj
    rw [q1]; exact hpre _ _ q1
  refine ⟨hs, fun x o hx => ?_, fun x o hF => ?_, fun j x hj => ?_, fun j e sz n hj => ?_, by simp [hm.blen], hm.rlen⟩
  · have hne : x ≠ .b r := by rintro rfl; rw [hMr] at hx; cases hx
    rw [Mem.set_other _ _ _ _ hne]; exact hm.sub x o hx
  · obtain ⟨f1, f2, f3, f4⟩ := hm.frame x o hF
    have hne : x ≠ .b r := by rintro rfl; rw [hr] at f1; cases f1
    refine ⟨by rw [Mem.set_other _ _ _ _ hne]; exact f1, f2, fun b' eb j y hj => ?_, f4⟩
    rcases getElem?_snoc hj with ⟨hlt, hj⟩ | ⟨rfl, hj⟩
    · rw [hblk hj]; exact f3 b' eb j y hj
    · rw [← hm.blen]; simp; rintro rfl; exact hne eb
  · rcases getElem?_snoc hj with ⟨hlt, hj⟩ | ⟨rfl, hj2⟩
    · obtain ⟨b, avs2, q1, q2, q3, q4, q5⟩ := hm.locs j x hj
      have hne : b ≠ r := by rintro rfl; rw [hr] at q2; cases q2
      refine ⟨b, avs2, hpre _ _ q1, by rw [Mem.set_other _ _ _ _ (by simpa using hne)]; exact q2, q3.mono hpre (Pre.refl _), q4, fun j' x' hj' hbj => ?_⟩
      rcases getElem?_snoc hj' with ⟨hlt', hj'⟩ | ⟨rfl, hj'⟩
      · rw [hblk hj'] at hbj; exact q5 j' x' hj' hbj
      · rw [← hm.blen] at hbj; simp at hbj; exact absurd hbj.symm hne
    · cases hj2
      refine ⟨r, avs, by rw [← hm.blen]; simp, Mem.set_same _ _ _, ht.mono hpre (Pre.refl _), hMr, fun j' x' hj' hbj => ?_⟩
      rcases getElem?_snoc hj' with ⟨hlt', hj'⟩ | ⟨rfl, hj'⟩
      · obtain ⟨b', q1, q2⟩ := old hj'
        rw [hblk hj', q1] at hbj
        cases hbj
        exact absurd rfl q2
      · rfl
  · obtain ⟨t, q1, q2, q3, q4⟩ := hm.rws j e sz n hj
    exact ⟨t, q1, by rw [Mem.set_other _ _ _ _ (by simp)]; exact q2, q3, q4⟩
end mem

/-- The cells that a value lays. -/
def TV.sc : TV → Option (List TV × Prop)
  | .v x => some (x.cells.map .v, ∀ y ∈ x.cells, y.one = true)
  | .lptr i off => some ([.lptr i off], True)
  | .lsl i sz es => some ([.lsl i sz es], True)
  | _ => none

theorem TV.sc_to {E : Env} {blk rw : List Nat} {x : TV} {cs : List TV} {p : Prop} (h : x.sc = some (cs, p)) (hp : p) {c : Value} (hr : RelV E blk rw x c) : ∃ v, x.to blk rw = some v ∧ Rep E v c ∧ RelTo blk rw cs v.cells ∧ ∀ y ∈ v.cells, y.one = true := by
  cases x with
  | v x => cases h; exact ⟨x, rfl, hr, RelTo.of_v _, hp⟩
  | lptr i off =>
    cases h
    obtain ⟨b, hb, rfl⟩ := hr
    have ht : TV.to blk rw (.lptr i off) = some (.ptr b off) := by simp [TV.to, hb]
    exact ⟨.ptr b off, ht, .ptr b off, .cons _ _ _ _ ht .nil, by simp [AV.cells, AV.one]⟩
  | lsl i sz es =>
    cases h
    obtain ⟨t, ht', hrep⟩ := hr
    have ht : TV.to blk rw (.lsl i sz es) = some (.sl (.srow t) sz es) := by simp [TV.to, ht']
    exact ⟨_, ht, hrep, .cons _ _ _ _ ht .nil, by simp [AV.cells, AV.one]⟩
  | _ => cases h

/-- Stores, and variables of the call's own. -/
def eff (k : CK) (st : St) : Option (St × TV × Prop) :=
  match k with
  | .sto n p x => match (st.get x).sc with
    | some (cs, q) => match st.get p with
      | .lptr i off => match st.loc[i]? with
        | some (some tvs) => some ({ st with loc := st.loc.set i (some (tvs.take off ++ cs ++ tvs.drop (off + n))) }, .junk, q ∧ cs.length = n ∧ off + n ≤ tvs.length)
        | _ => none
      | .v (.ptr r off) => match st.M (.b r), extL cs with
        | some (.cells vs), some us => some ({ st with M := st.M.set (.b r) (.cells (vs.take off ++ us ++ vs.drop (off + n))) }, .junk, q ∧ us.length = n ∧ off + n ≤ vs.length)
        | _, _ => none
      | _ => none
    | none => none
  | .al _ zero => some ({ st with loc := st.loc ++ [some (zero.map .v)] }, .lptr st.loc.length 0, True)
  | .bx _ x => match (st.get x).sc with
    | some (cs, q) => some ({ st with loc := st.loc ++ [some cs] }, .lptr st.loc.length 0, q)
    | none => none
  | _ => none

section
variable {P : Program} {o : Oper} {st : St}

theorem extL_one {E : Env} {blk rw : List Nat} : ∀ {cs : List TV} {us : List AV} {vs : List AV}, extL cs = some us → RelTo blk rw cs vs → (∀ y ∈ vs, y.one = true) → ∀ y ∈ us, y.one = true
  | [], us, vs, h, ht, h1, y, hy => by cases h; cases hy
  | x :: xs, us, _, h, .cons _ v _ vs hx ht, h1, y, hy => by
    unfold extL at h
    split at h
    · rename_i u us' hu hus
      cases h
      rcases List.mem_cons.1 hy with rfl | hm
      · cases x with
        | v x => cases hu; cases hx; exact h1 _ (by simp)
        | lsl i sz es => cases hu; rfl
        | _ => cases hu
      · exact extL_one (E := E) hus ht (fun z hz => h1 z (by simp [hz])) y hm
    · cases h

theorem sound_sto {n : Nat} {p x : Opd} {p' x' : Operand} {t : TypeId} {j : TI} (ho : o.op = .store t p' x') (hj : TIOk P t j) (hn : n = j.size) (hp' : IsOpd p p') (hx : IsOpd x x')
    {st1 : St} {tv : TV} {q : Prop} (h : eff (.sto n p x) st = some (st1, tv, q)) (hq : q) : OpVal P o st st1 tv := by
  subst hn
  simp only [eff] at h
  split at h
  · rename_i cs q1 hsc
    split at h
    · rename_i i off hpe
      split at h
      · rename_i tvs hloc
        cases h
        obtain ⟨hq1, hlen, hfit⟩ := hq
        intro B E F blk rw a w hr
        have hpv := hr.opd hp'
        rw [hpe] at hpv
        obtain ⟨b, hb, hpv⟩ := hpv
        obtain ⟨v, hv1, hv2, hv3, hv4⟩ := TV.sc_to hsc hq1 (hr.opd hx)
        obtain ⟨MM, hm⟩ := hr.mem
        obtain ⟨b0, avs, k1, k2, k3, k4, k5⟩ := hm.locs i tvs hloc
        rw [hb] at k1; cases k1
        have hvl : v.cells.length = j.size := by rw [hv3.length]; exact hlen
        obtain ⟨w', hrun, hs', hbel⟩ := run_store_obj (P := P) w hj hm.sim b off avs k2 v _ hv2 hv4 hvl (by rw [k3.length]; exact hfit)
        refine ⟨undef, w', E, blk, rw, .inr ⟨?_, rfl⟩, Env.le.refl E, hbel, ⟨hr.tmps, hr.defs, _, hm.setLoc hloc hb ?_ hs'⟩, trivial⟩
        · simp only [execOp, ho, hpv, Sem.run_bind, hrun, Result.andThen_ok, Sem.run_pure]
        · exact ((k3.take off).append hv3).append (k3.drop _)
      · cases h
    · rename_i r off hpe
      split at h
      · rename_i vs us hM hus
        cases h
        obtain ⟨hq1, hlen, hfit⟩ := hq
        intro B E F blk rw a w hr
        have hpv := hr.opd hp'
        rw [hpe] at hpv
        have hpv : a.eval p' = .pointer (some ⟨r, off, none⟩) := Rep.ptr_inv hpv
        obtain ⟨v, hv1, hv2, hv3, hv4⟩ := TV.sc_to hsc hq1 (hr.opd hx)
        obtain ⟨MM, hm⟩ := hr.mem
        have hcells : RepL E v.cells (a.eval x').cells.toList := hv2.cellsL (by rintro rfl; have := hv4 .junk (by simp [AV.cells]); simp [AV.one] at this)
        have hus' : RepL E us (a.eval x').cells.toList := (hv3.rel hcells).ext hus
        have hone := extL_one (E := E) hus hv3 hv4
        -- a value with just these cells
        obtain ⟨w', hrun, hs', hbel⟩ : ∃ w', (Instr.storeAt t (.pointer (some ⟨r, off, none⟩)) (a.eval x')).run P w = .ok () w' ∧ Sim B E (MM.set (.b r) (.cells (vs.take off ++ us ++ vs.drop (off + j.size)))) w' ∧ Below B w w' := by
          obtain ⟨G, nr, hs⟩ := hm.sim
          obtain ⟨_, _, _, ccs, ty, g4, g5⟩ := hs.obj r vs (hm.sub _ _ hM)
          have hl1 := hus'.length
          have hl2 := g5.length
          have hone' : ∀ u ∈ (a.eval x').cells.toList, u.oneCell' = true := by
            intro u hu
            obtain ⟨k, hk⟩ := List.getElem?_of_mem hu
            have hkl : k < us.length := by
              rw [← hl1]
              rcases Nat.lt_or_ge k (a.eval x').cells.toList.length with h' | h'
              · exact h'
              · rw [List.getElem?_eq_none h'] at hk; cases hk
            obtain ⟨u', hu', hru⟩ := hus'.at k us[k] (List.getElem?_eq_getElem hkl)
            rw [hk] at hu'; cases hu'
            exact hru.one (hone _ (List.getElem_mem hkl))
          have hst := run_storeCells_at P r off ty (a.eval x').cells.toList 0 ccs w g4 (by
            have : ccs.size = vs.length := by rw [← hl2, Array.length_toList]
            omega) hone'
          simp only [Nat.add_zero] at hst
          have hsz : (a.eval x').cells.size = j.size := by rw [← Array.length_toList, hl1]; exact hlen
          refine ⟨w.setRow r (ccs.toList.take off ++ (a.eval x').cells.toList ++ ccs.toList.drop (off + (a.eval x').cells.toList.length)).toArray, ?_, ⟨G, nr, ?_⟩, ?_⟩
          · simp only [Instr.storeAt, Instr.sureAddr, storeVar, Sem.run_bind, Sem.run_pure, Result.andThen_ok, hj.run_size w, hsz, ne_eq, not_true_eq_false, if_false]
            simpa using hst
          · have := hs.store r off vs (hm.sub _ _ hM) us (a.eval x').cells.toList hus' hone (by omega) ccs ty g4
            rw [hlen] at this
            exact this
          · refine ⟨rfl, rfl, rfl, by simp, fun k hk => setRow_other w r k _ ?_⟩
            have := (hs.dom r _ (hm.sub _ _ hM)).1
            omega
        refine ⟨undef, w', E, blk, rw, .inr ⟨?_, rfl⟩, Env.le.refl E, hbel, ⟨hr.tmps, hr.defs, _, hm.setM hM hs'⟩, trivial⟩
        simp only [execOp, ho, hpv, Sem.run_bind, hrun, Result.andThen_ok, Sem.run_pure]
      · cases h
    · cases h
  · cases h

theorem run_newVar {t : TypeId} {c : Value} (w : World) : (newVar t c).run P w = .ok ⟨w.heap.size, 0, none⟩ (w.alloc (.cells c.cells t)) := by
  simp [newVar, newRow]

theorem new_local {B : Nat} {E : Env} {F : Mem} {blk rw : List Nat} {a : Act} {w : World} (hr : Rel B E F blk rw st a w) (ty : TypeId) {tvs : List TV} {avs : List AV} {cs : List Value} (ht : RelTo blk rw tvs avs) (hrep : RepL E avs cs) (h1 : ∀ y ∈ avs, y.one = true) :
    ∃ blk', Below B w (w.alloc (.cells cs.toArray ty)) ∧ Rel B E F blk' rw { st with loc := st.loc ++ [some tvs] } a (w.alloc (.cells cs.toArray ty)) ∧ blk'[st.loc.length]? = some w.heap.size := by
  obtain ⟨MM, hm⟩ := hr.mem
  obtain ⟨G, nr, hs⟩ := hm.sim
  have hnone : MM (.b w.heap.size) = none := hs.dom_none (Nat.le_refl _)
  have hnew := hs.new_obj ty avs cs hrep h1
  refine ⟨blk ++ [w.heap.size], (Below.refl B w).alloc hs.base _, ⟨hr.tmps.mono (Env.le.refl E) (Pre.snoc _ _) (Pre.refl _), hr.defs, _, hm.newLoc hnone ht ⟨_, _, hnew⟩⟩, ?_⟩
  rw [← hm.blen]; simp

theorem new_named {B : Nat} {E : Env} {F : Mem} {blk rw : List Nat} {a : Act} {w : World} (hr : Rel B E F blk rw st a w) (ty : TypeId) {avs : List AV} {cs : List Value} (hrep : RepL E avs cs) (h1 : ∀ y ∈ avs, y.one = true) :
    Below B w (w.alloc (.cells cs.toArray ty)) ∧ Rel B E F blk rw { st with M := st.M.set (.b w.heap.size) (.cells avs) } a (w.alloc (.cells cs.toArray ty)) ∧ st.M (.b w.heap.size) = none := by
  obtain ⟨MM, hm⟩ := hr.mem
  obtain ⟨G, nr, hs⟩ := hm.sim
  have hnone : MM (.b w.heap.size) = none := hs.dom_none (Nat.le_refl _)
  have hnew := hs.new_obj ty avs cs hrep h1
  refine ⟨(Below.refl B w).alloc hs.base _, ⟨hr.tmps, hr.defs, _, hm.newM hnone ⟨_, _, hnew⟩⟩, ?_⟩
  cases h : st.M (.b w.heap.size) with
  | none => rfl
  | some x => rw [hm.sub _ x h] at hnone; cases hnone

theorem TIOk.zero_rep {t : TypeId} {i : TI} (h : TIOk P t i) (E : Env) (w : World) : ∃ z, (zeroValue t).run P w = .ok z w ∧ Rep E i.zero z ∧ RepL E i.zero.cells z.cells.toList ∧ (∀ x ∈ i.zero.cells, x.one = true) ∧ i.zero.cells.length = i.size := by
  obtain ⟨info, z, h1, h2, h3, h4, h5, h6⟩ := h.info
  obtain ⟨k1, k2, k3⟩ := AV.concA_rep (E := E) h5
  exact ⟨z, by simp [zeroValue, typeInfo, h1, h4], k1, k2, k3, h6⟩

theorem sound_al {t ty : TypeId} {j : TI} {zero : List AV} (ho : o.op = .alloc t) (hj : TIOk P t j) (hz : zero = j.zero.cells)
    {st1 : St} {tv : TV} {q : Prop} (h : eff (.al ty zero) st = some (st1, tv, q)) (hq : q) : OpVal P o st st1 tv := by
  subst hz
  simp only [eff] at h
  cases h
  intro B E F blk rw a w hr
  obtain ⟨z, h1, h2, h3, h4, h5⟩ := hj.zero_rep E w
  obtain ⟨blk', k1, k2, k3⟩ := new_local hr t (RelTo.of_v _) h3 h4
  refine ⟨.pointer (some ⟨w.heap.size, 0, none⟩), _, E, blk', rw, .inl ?_, Env.le.refl E, k1, k2, ⟨_, k3, rfl⟩⟩
  simp only [execOp, ho]
  simp [Instr.alloc, h1, run_newVar]

theorem sound_bx {t ty : TypeId} {x : Opd} {x' : Operand} (ho : o.op = .box t x') (hx : IsOpd x x')
    {st1 : St} {tv : TV} {q : Prop} (h : eff (.bx ty x) st = some (st1, tv, q)) (hq : q) : OpVal P o st st1 tv := by
  simp only [eff] at h
  split at h
  · rename_i cs q1 hsc
    cases h
    intro B E F blk rw a w hr
    obtain ⟨v, hv1, hv2, hv3, hv4⟩ := TV.sc_to hsc hq (hr.opd hx)
    have hcells : RepL E v.cells (a.eval x').cells.toList := hv2.cellsL (by rintro rfl; have := hv4 .junk (by simp [AV.cells]); simp [AV.one] at this)
    obtain ⟨blk', k1, k2, k3⟩ := new_local hr t hv3 hcells hv4
    refine ⟨.pointer (some ⟨w.heap.size, 0, none⟩), _, E, blk', rw, .inl ?_, Env.le.refl E, k1, k2, ⟨_, k3, rfl⟩⟩
    simp only [execOp, ho]
    simp [Instr.box, run_newVar]
  · cases h

/-- A new variable that others may reach. -/
theorem AOps.named {ops : Array Oper} {i : Nat} {rest : List Nat} {Q : AExit → St → Prop} (ho : ops[i]? = some o) (hg : o.guard = none) {avs : List AV}
    (hrun : ∀ B E F blk rw a w, Rel B E F blk rw st a w → ∃ ty cs, (execOp a.eval o).run P w = .ok (.value (.pointer (some ⟨w.heap.size, 0, none⟩))) (w.alloc (.cells cs ty)) ∧ RepL E avs cs.toList ∧ ∀ y ∈ avs, y.one = true)
    (h : ∀ r, st.M (.b r) = none → AOps ro P ops rest Q ({ st with M := st.M.set (.b r) (.cells avs) }.put o.dst (.v (.ptr r 0)))) : AOps ro P ops (i :: rest) Q st := by
  intro B E F blk rw a w hr
  simp only [wpOpsIn, ho]
  rw [if_pos (by simp [Region.wanted, hg])]
  obtain ⟨ty, cs, h1, h2, h3⟩ := hrun B E F blk rw a w hr
  obtain ⟨k1, k2, k3⟩ := new_named hr ty h2 h3
  refine uponIn_run h1 (by simp) ?_
  exact wpOpsR_mono (fun e a' w'' ho => ho.weaken (Env.le.refl E) k1 fun _ _ h => h) rest _ _ (h w.heap.size k3 B E F blk rw _ _ (k2.put o.dst (Rep.ptr _ _)))

theorem run_alS {t : TypeId} {j : TI} (ho : o.op = .alloc t) (hj : TIOk P t j) : ∀ B E F blk rw a w, Rel B E F blk rw st a w → ∃ ty cs, (execOp a.eval o).run P w = .ok (.value (.pointer (some ⟨w.heap.size, 0, none⟩))) (w.alloc (.cells cs ty)) ∧ RepL E j.zero.cells cs.toList ∧ ∀ y ∈ j.zero.cells, y.one = true := by
  intro B E F blk rw a w hr
  obtain ⟨z, h1, h2, h3, h4, h5⟩ := hj.zero_rep E w
  refine ⟨t, z.cells, ?_, h3, h4⟩
  simp only [execOp, ho]
  simp [Instr.alloc, h1, run_newVar]

theorem run_bxS {t : TypeId} {x : Opd} {x' : Operand} (ho : o.op = .box t x') (hx : IsOpd x x') {v : AV} {p : Prop} (h : rd true (st.get x) = some (v, p)) (hp : p) (h1 : ∀ y ∈ v.cells, y.one = true) : ∀ B E F blk rw a w, Rel B E F blk rw st a w → ∃ ty cs, (execOp a.eval o).run P w = .ok (.value (.pointer (some ⟨w.heap.size, 0, none⟩))) (w.alloc (.cells cs ty)) ∧ RepL E v.cells cs.toList ∧ ∀ y ∈ v.cells, y.one = true := by
  intro B E F blk rw a w hr
  have hrep := hr.rd hx h hp
  refine ⟨t, (a.eval x').cells, ?_, hrep.cellsL (by rintro rfl; have := h1 .junk (by simp [AV.cells]); simp [AV.one] at this), h1⟩
  simp only [execOp, ho]
  simp [Instr.box, run_newVar]

end
end Go.Am
