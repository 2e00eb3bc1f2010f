/- Appends: onto rows of the call's own, onto rows that memory speaks of, onto a slice once. -/
import Derived.Test.YtpephlhhdefdgaaDoorAmK
set_option linter.unusedSectionVars false
set_option linter.unusedVariables false
set_option linter.unusedSimpArgs false
namespace Go.Am
open Go.RowKit
variable [Inhabited LaidBox] {ro : Option Nat}

section
variable {P : Program} {B : Nat} {E : Env} {MM : Mem} {w : World}

theorem src_of {e' tx : TypeId} (hk : P.underlying tx = some (.slice e')) {own : Own} {sz : Nat} {es : List AV} {c : Value} (hs : Sim B E MM w) (h : Rep E (.sl own sz es) c) :
    ∃ news, Src P sz tx c es.length news w ∧ RepL E (flat es) news ∧ (∀ x ∈ es, x.cells.length = sz) ∧ (∀ v ∈ flat es, v.one = true) := by
  obtain ⟨G, nr, hs⟩ := hs
  rcases h.sl_inv3 with ⟨rfl, rfl, _⟩ | ⟨a0, rfl, rfl, _⟩ | ⟨b, o, cap, rfl, hes, _, _⟩
  · exact ⟨[], Src.ofNil w hk 0, .nil, by simp, by simp [flat]⟩
  · exact ⟨[], Src.ofSlice w hk a0 0 0 [] (by simp) (fun j u hj => by simp at hj) (by simp), .nil, by simp, by simp [flat]⟩
  · obtain ⟨cs, h1, h2, h3, h4⟩ := hes.lays
    refine ⟨cs, Src.ofSlice w hk _ _ _ cs h2 (fun j u hj => ?_) h4, h1, hes.sizes, hes.ones⟩
    rw [Addr.add_lit]
    exact hs.cell _ _ _ (h3 j u hj)

theorem olds_of {own : Own} {sz : Nat} {es : List AV} {c : Value} (hs : Sim B E MM w) (h : Rep E (.sl own sz es) c) :
    ∃ base cap olds, c = .slice base es.length cap ∧ es.length ≤ cap ∧ (Builtin.firstCells sz es.length (.slice base es.length cap)).run P w = .ok olds.toArray w ∧ olds.length = es.length * sz ∧ RepL E (flat es) olds ∧ (∀ x ∈ es, x.cells.length = sz) ∧ (∀ v ∈ flat es, v.one = true) := by
  obtain ⟨G, nr, hs⟩ := hs
  rcases h.sl_inv3 with ⟨rfl, rfl, _⟩ | ⟨a0, rfl, rfl, _⟩ | ⟨b, o, cap, rfl, hes, hcap, _⟩
  · exact ⟨none, 0, [], rfl, Nat.le_refl _, run_firstCells_none w sz 0 0 0, by simp, .nil, by simp, by simp [flat]⟩
  · exact ⟨some a0, 0, [], rfl, Nat.le_refl _, run_firstCells_some w sz 0 a0 0 0 [] (by simp) (fun j u hj => by simp at hj), by simp, .nil, by simp, by simp [flat]⟩
  · obtain ⟨cs, h1, h2, h3, h4⟩ := hes.lays
    refine ⟨_, cap, cs, rfl, hcap, run_firstCells_some w sz es.length _ es.length cap cs h2 (fun j u hj => ?_), h2, h1, hes.sizes, hes.ones⟩
    rw [Addr.add_lit]
    exact hs.cell _ _ _ (h3 j u hj)

theorem World.alloc_drew_below {B : Nat} {w : World} (hB : B ≤ w.heap.size) (o : Obj) : Below B w (w.drew.alloc o) :=
  ⟨rfl, rfl, rfl, by simp, fun k hk => Below.heap_alloc w.drew o k (Nat.lt_of_lt_of_le hk hB)⟩

/-- Onto a slice whose room is its own. -/
theorem run_append_row {t tx ty e e' : TypeId} {i : TI} (ht : P.underlying t = some (.slice e)) (htx : P.underlying tx = some (.slice e')) (hi : TIOk P e i) (hpos : 0 < i.size) (hs : Sim B E MM w)
    {q n : Nat} (hM : MM (.w q) = some (.row e i.size n)) {es : List AV} (hn : es.length = n) {cs : Value} (hcs : Rep E (.sl (.srow q) i.size es) cs) {own : Own} {es2 : List AV} {cx : Value} (hcx : Rep E (.sl own i.size es2) cx)
    (hmax : n + es2.length ≤ maxLen) (hby : (n + es2.length) * i.bytes ≤ 140737488355328) :
    ∃ c' w' E', (Builtin.append_ #[t, tx] ty #[cs, cx]).run P w = .ok c' w' ∧ E.le E' ∧ Sim B E' (MM.set (.w q) (.row e i.size (n + es2.length))) w' ∧ Rep E' (.sl (.srow q) i.size (es ++ es2)) c' ∧ Below B w w' := by
  obtain ⟨news, hsrc, hnr, hnsz, hn1⟩ := src_of htx hs hcx
  obtain ⟨info, z, hi1, hi2, hi3, hi4, hi5, hi6⟩ := hi.info
  have hzl : z.cells.size = i.size := by
    have := (AV.concA_rep (E := E) hi5).2.1.length
    rw [Array.length_toList] at this
    omega
  rw [← hi2] at hsrc hpos
  obtain ⟨G, nr, hs0⟩ := id hs
  by_cases hm : es2 = []
  · subst hm
    have hset : MM.set (.w q) (.row e i.size n) = MM := Mem.set_self _ _ _ hM
    have hl0 : news = [] := by have := hnr.length; simpa [flat] using this
    subst hl0
    have hcells0 := hsrc.cells
    simp only [List.length_nil] at hcells0
    refine ⟨cs, w, E, ?_, Env.le.refl E, ?_, ?_, Below.refl B w⟩
    · rcases (hcs.sl_inv (by simp)) with ⟨rfl, _, _⟩ | ⟨b, o, cap, rfl, _, hcap, _⟩
      · rcases hsrc.kind with ⟨e2, hk⟩ | hk <;> simp [Builtin.append_, run_underlying ht, run_underlying hk, sizeOf, typeInfo, hi1, hsrc.len, hcells0]
      · have := run_append_room_src (P := P) w t tx ty e info ht hi1 b o es.length cap cx 0 [] hsrc (by simpa using hcap) (by simp) (by simp)
        simpa [World.setCells] using this
    · simpa [hset] using hs
    · simpa using hcs
  · have hm0 : 0 < es2.length := List.length_pos_iff.2 hm
    obtain ⟨base, cap, olds, rfl, hcap, hold, hol, hor, hosz, ho1⟩ := olds_of (P := P) (hs.drewN (w' := w.drew) rfl) hcs
    subst hn
    have hones : ∀ v ∈ flat (es ++ es2), v.one = true := fun v hv => by
      rw [flat_append, List.mem_append] at hv
      rcases hv with h | h
      · exact ho1 v h
      · exact hn1 v h
    have hsizes : ∀ x ∈ es ++ es2, x.cells.length = i.size := fun x hx => by
      rcases List.mem_append.1 hx with h | h
      · exact hosz x h
      · exact hnsz x h
    have hnl : news.length = es2.length * i.size := by rw [hsrc.newsLen, hi2]
    have hall : RepL E (flat (es ++ es2)) (olds ++ news) := by rw [flat_append]; exact hor.append hnr
    have halll : (olds ++ news).length = (es.length + es2.length) * i.size := by rw [List.length_append, hol, hnl, Nat.add_mul]
    by_cases hroom : es.length + es2.length ≤ cap
    · -- there is room
      rcases (hcs.sl_inv (by simp)) with ⟨h0, _, _⟩ | ⟨b, o, cap', h0, hes, _, hrow, ho0⟩
      · injection h0 with k1 k2 k3; omega
      · cases h0
        subst ho0
        obtain ⟨h1, ⟨h2, b0, h3⟩ | ⟨b', cap', cur, h2, h3, h4, h5, h6, h7, h8, h9⟩⟩ := hs0.row q e i.size es.length hM
        · rw [h2, h3] at hrow; cases hrow; omega
        · rw [h2] at hrow; cases hrow
          have hfit : es.length * i.size + news.length ≤ cur.size := by rw [hnl, h8, ← Nat.add_mul]; exact Nat.mul_le_mul_right _ hroom
          have hcell : ∀ j, j < news.length → (w.cell? ⟨b, 0 + es.length * info.size + j, none⟩).isSome = true := fun j hj => by
            rw [cell_of_row w b _ cur e (0, 0) h5, hi2]
            simp; omega
          have hfro : ∀ j, j < news.length → w.frozen? ⟨b, 0 + es.length * info.size + j, none⟩ = false := fun j hj => frozen_of_row w b _ cur e h5
          have hr := run_append_room_src (P := P) w t tx ty e info ht hi1 b 0 es.length cap cx es2.length news hsrc hroom hcell hfro
          have hset : w.setCells b (0 + es.length * info.size) news = w.setRow b (cur.toList.take (es.length * i.size) ++ news ++ cur.toList.drop (es.length * i.size + news.length)).toArray := by
            have h1' := run_storeCells_at P b (es.length * i.size) e news 0 cur w h5 (by simpa using hfit) hsrc.one
            have h2' := run_storeCells_cells (P := P) b (0 + es.length * info.size) news 0 w (by simpa using hcell) (by simpa using hfro) hsrc.one
            rw [hi2, Nat.zero_add] at h2'
            rw [h1'] at h2'
            have := (Result.ok.inj h2').2
            rw [hi2, Nat.zero_add]
            simpa using this.symm
          rw [hset] at hr
          obtain ⟨E', hle, hs', hrow', hlay⟩ := hs0.row_more q e i.size es.length es2.length hM b cap cur h2 h4 h3 h5 h7 h8 h9 news hnl hroom hm0
          refine ⟨_, _, E', hr, hle, ⟨G, nr, hs'⟩, ?_, ?_⟩
          · refine .sl _ _ _ b 0 cap _ (by simp) ?_ hroom ⟨hrow', rfl⟩
            refine (hes.mono hle).append ?_
            rw [Nat.zero_add]
            exact RepEs.of hnsz hn1 (hnr.mono hle) hlay
          · exact ⟨rfl, rfl, rfl, by simp, fun k hk => setRow_other w b k _ (by omega)⟩
    · -- there is none
      have hg : cap < es.length + es2.length := by omega
      have hr := run_append_grow_src (P := P) w t tx ty e info z ht hi1 hi4 base es.length cap olds (by rw [hi2]; exact hold) cx es2.length news hsrc hg (by simp only [maxLen] at hmax; omega) (growslice_fits hg (by rw [hi3]; exact hby))
      have hcapge := grownCap_ge w (es.length + es2.length) cap e
      have hcaple := grownCap_le_maxLen w (es.length + es2.length) cap e hmax
      have hzc : ∀ k, (Builtin.zeroCells z.cells k).toList.length = k * i.size := fun k => by rw [Array.length_toList, size_zeroCells, hzl]
      have hsd : Sim0 B E G nr MM w.drew := by
        obtain ⟨h1, h2, h3, h4, h5, h6, h7, h8, h9, h10, h11⟩ := hs0
        exact ⟨h1, h2, h3, h4, h5, h6, h7, h8, h9, h10, h11⟩
      obtain ⟨E', G', hle, hs', hrow', hlay⟩ := hsd.row_new q e i.size (es.length + es2.length) es.length (grownCap w (es.length + es2.length) cap e) (olds ++ news) (Builtin.zeroCells z.cells (grownCap w (es.length + es2.length) cap e - (es.length + es2.length))).toList halll
        (by rw [halll, hzc, ← Nat.add_mul]; congr 1; omega) hcapge hcaple hM (by omega)
      refine ⟨_, _, E', hr, hle, ⟨G', nr, ?_⟩, ?_, World.alloc_drew_below hs0.base _⟩
      · have heq : ((olds ++ news).toArray ++ Builtin.zeroCells z.cells (grownCap w (es.length + es2.length) cap e - (es.length + es2.length))) = (olds ++ news ++ (Builtin.zeroCells z.cells (grownCap w (es.length + es2.length) cap e - (es.length + es2.length))).toList).toArray := by
          apply Array.ext'; simp
        rw [heq]; exact hs'
      · exact .sl _ _ _ w.heap.size 0 _ _ (by simp) (RepEs.of hsizes hones (hall.mono hle) hlay) hcapge ⟨hrow', rfl⟩

/-- Onto a slice without room. -/
theorem run_append_full {t tx ty e e' : TypeId} {i : TI} (ht : P.underlying t = some (.slice e)) (htx : P.underlying tx = some (.slice e')) (hi : TIOk P e i) (hs : Sim B E MM w)
    {es : List AV} {cs : Value} (hcs : Rep E (.sl .full i.size es) cs) {own : Own} {es2 : List AV} {cx : Value} (hcx : Rep E (.sl own i.size es2) cx)
    (hmax : es.length + es2.length ≤ maxLen) (hby : (es.length + es2.length) * i.bytes ≤ 140737488355328) :
    ∃ c' w' E', (Builtin.append_ #[t, tx] ty #[cs, cx]).run P w = .ok c' w' ∧ E.le E' ∧ Sim B E' MM w' ∧ Rep E' (.sl .no i.size (es ++ es2)) c' ∧ Below B w w' := by
  obtain ⟨news, hsrc, hnr, hnsz, hn1⟩ := src_of htx hs hcx
  obtain ⟨info, z, hi1, hi2, hi3, hi4, hi5, hi6⟩ := hi.info
  have hzl : z.cells.size = i.size := by
    have := (AV.concA_rep (E := E) hi5).2.1.length
    rw [Array.length_toList] at this
    omega
  rw [← hi2] at hsrc
  obtain ⟨G, nr, hs0⟩ := id hs
  by_cases hm : es2 = []
  · subst hm
    have hl0 : news = [] := by have := hnr.length; simpa [flat] using this
    subst hl0
    have hcells0 := hsrc.cells
    simp only [List.length_nil] at hcells0
    refine ⟨cs, w, E, ?_, Env.le.refl E, hs, ?_, Below.refl B w⟩
    · rcases (hcs.sl_inv (by simp)) with ⟨rfl, _, _⟩ | ⟨b, o, cap, rfl, _, hcap, _⟩
      · rcases hsrc.kind with ⟨e2, hk⟩ | hk <;> simp [Builtin.append_, run_underlying ht, run_underlying hk, sizeOf, typeInfo, hi1, hsrc.len, hcells0]
      · have := run_append_room_src (P := P) w t tx ty e info ht hi1 b o es.length cap cx 0 [] hsrc (by simpa using hcap) (by simp) (by simp)
        simpa [World.setCells] using this
    · simpa using hcs.forget
  · have hm0 : 0 < es2.length := List.length_pos_iff.2 hm
    have hcapeq : ∃ base, cs = .slice base es.length es.length := by
      rcases (hcs.sl_inv (by simp)) with ⟨rfl, rfl, _⟩ | ⟨b, o, cap, rfl, _, _, h, _⟩
      · exact ⟨none, rfl⟩
      · subst h; exact ⟨_, rfl⟩
    obtain ⟨base, cap, olds, h0, hcap, hold, hol, hor, hosz, ho1⟩ := olds_of (P := P) (hs.drewN (w' := w.drew) rfl) hcs
    obtain ⟨base', rfl⟩ := hcapeq
    injection h0 with k1 k2 k3
    subst k1; subst k3
    have hones : ∀ v ∈ flat (es ++ es2), v.one = true := fun v hv => by
      rw [flat_append, List.mem_append] at hv
      rcases hv with h | h
      · exact ho1 v h
      · exact hn1 v h
    have hsizes : ∀ x ∈ es ++ es2, x.cells.length = i.size := fun x hx => by
      rcases List.mem_append.1 hx with h | h
      · exact hosz x h
      · exact hnsz x h
    have hall : RepL E (flat (es ++ es2)) (olds ++ news) := by rw [flat_append]; exact hor.append hnr
    have hr := run_append_grow_src (P := P) w t tx ty e info z ht hi1 hi4 base' es.length es.length olds (by rw [hi2]; exact hold) cx es2.length news hsrc (by omega) (by simp only [maxLen] at hmax; omega) (growslice_fits (by omega) (by rw [hi3]; exact hby))
    have hcapge := grownCap_ge w (es.length + es2.length) es.length e
    have hsd : Sim0 B E G nr MM w.drew := by
      obtain ⟨h1, h2, h3, h4, h5, h6, h7, h8, h9, h10, h11⟩ := hs0
      exact ⟨h1, h2, h3, h4, h5, h6, h7, h8, h9, h10, h11⟩
    obtain ⟨hs', hle⟩ := hsd.new_cells e (olds ++ news) (Builtin.zeroCells z.cells (grownCap w (es.length + es2.length) es.length e - (es.length + es2.length))).toList
    refine ⟨_, _, _, hr, hle, ⟨G, nr, ?_⟩, ?_, World.alloc_drew_below hs0.base _⟩
    · have heq : ((olds ++ news).toArray ++ Builtin.zeroCells z.cells (grownCap w (es.length + es2.length) es.length e - (es.length + es2.length))) = (olds ++ news ++ (Builtin.zeroCells z.cells (grownCap w (es.length + es2.length) es.length e - (es.length + es2.length))).toList).toArray := by
        apply Array.ext'; simp
      rw [heq]; exact hs'
    · exact .sl _ _ _ w.heap.size 0 _ _ (by simp) (RepEs.of hsizes hones (hall.mono hle) (Env.lay_lays E w.heap.size 0 _)) hcapge trivial

end

/-! The memory's relation. -/
section mem
variable {B : Nat} {E : Env} {F : Mem} {blk rw : List Nat} {loc : List (Option (List TV))} {rows : List (TypeId × Nat × Nat)} {M MM : Mem} {w w' : World}
theorem RelM.setRow {E' : Env} (hm : RelM B E F blk rw loc rows M MM w) {i t : Nat} {x : TypeId × Nat × Nat} {e : TypeId} {sz n : Nat} (hi : rows[i]? = some x) (ht : rw[i]? = some t) (hs : Sim B E' (MM.set (.w t) (.row e sz n)) w') :
    RelM B E' F blk rw loc (rows.set i (e, sz, n)) M (MM.set (.w t) (.row e sz n)) w' := by
  obtain ⟨e0, sz0, n0⟩ := x
  obtain ⟨t0, k1, k2, k3, k4⟩ := hm.rws i e0 sz0 n0 hi
  rw [ht] at k1; cases k1
  have hlen : i < rows.length := by
    rcases Nat.lt_or_ge i rows.length with h | h
    · exact h
    · rw [List.getElem?_eq_none h] at hi; cases hi
  have live : ∀ (j : Nat) y, (rows.set i (e, sz, n))[j]? = some y → ∃ y', rows[j]? = some y' := by
    intro j y hj
    by_cases hij : i = j
    · subst hij; exact ⟨_, hi⟩
    · rw [List.getElem?_set_ne hij] at hj; exact ⟨y, hj⟩
  refine ⟨hs, fun r o hr' => ?_, fun r o hF => ?_, fun j x hj => ?_, fun j e' sz' n' hj => ?_, hm.blen, by simpa using hm.rlen⟩
  · have hne : r ≠ .w t := by rintro rfl; rw [k3] at hr'; cases hr'
    rw [Mem.set_other _ _ _ _ hne]; exact hm.sub r o hr'
  · obtain ⟨f1, f2, f3, f4⟩ := hm.frame r o hF
    have hne : r ≠ .w t := by rintro rfl; exact f4 t rfl i _ hi ht
    refine ⟨by rw [Mem.set_other _ _ _ _ hne]; exact f1, f2, f3, fun t' et j y hj => ?_⟩
    obtain ⟨y', hy⟩ := live j y hj
    exact f4 t' et j y' hy
  · obtain ⟨b, avs, q1, q2, q3, q4, q5⟩ := hm.locs j x hj
    exact ⟨b, avs, q1, by rw [Mem.set_other _ _ _ _ (by simp)]; exact q2, q3, q4, q5⟩
  · by_cases hij : i = j
    · subst hij
      rw [show (rows.set i (e, sz, n))[i]? = some (e, sz, n) by simp [hlen]] at hj
      cases hj
      refine ⟨t, ht, Mem.set_same _ _ _, k3, fun j' x' hj' hbj => ?_⟩
      obtain ⟨y, hy⟩ := live j' x' hj'
      exact k4 j' y hy hbj
    · rw [List.getElem?_set_ne hij] at hj
      obtain ⟨t', q1, q2, q3, q4⟩ := hm.rws j e' sz' n' hj
      have hne : t' ≠ t := by rintro rfl; exact hij (k4 j _ hj q1).symm
      refine ⟨t', q1, by rw [Mem.set_other _ _ _ _ (by simpa using hne)]; exact q2, q3, fun j' x' hj' hbj => ?_⟩
      obtain ⟨y, hy⟩ := live j' x' hj'
      exact q4 j' y hy hbj

theorem RelM.newRow {E' : Env} (hm : RelM B E F blk rw loc rows M MM w) {t : Nat} {e : TypeId} {sz n : Nat} (hr : MM (.w t) = none) (hs : Sim B E' (MM.set (.w t) (.row e sz n)) w') :
    RelM B E' F blk (rw ++ [t]) loc (rows ++ [(e, sz, n)]) M (MM.set (.w t) (.row e sz n)) w' := by
  have hMr : M (.w t) = none := by
    cases h : M (.w t) with
    | none => rfl
    | some x => rw [hm.sub _ x h] at hr; cases hr
  have old : ∀ {j : Nat} {x : TypeId × Nat × Nat}, rows[j]? = some x → ∃ b, rw[j]? = some b ∧ b ≠ t := by
    intro j x hj
    obtain ⟨e', sz', n'⟩ := x
    obtain ⟨b, q1, q2, _⟩ := hm.rws j e' sz' n' hj
    exact ⟨b, q1, by rintro rfl; rw [hr] at q2; cases q2⟩
  have hpre := Pre.snoc rw t
  have hblk : ∀ {j : Nat} {x : TypeId × Nat × Nat}, rows[j]? = some x → (rw ++ [t])[j]? = rw[j]? := by
    intro j x hj
    obtain ⟨b, q1, _⟩ := old hj
    rw [q1]; exact hpre _ _ q1
  refine ⟨hs, fun x o hx => ?_, fun x o hF => ?_, fun j x hj => ?_, fun j e' sz' n' hj => ?_, hm.blen, by simp [hm.rlen]⟩
  · have hne : x ≠ .w t := by rintro rfl; rw [hMr] at hx; cases hx
    rw [Mem.set_other _ _ _ _ hne]; exact hm.sub x o hx
  · obtain ⟨f1, f2, f3, f4⟩ := hm.frame x o hF
    have hne : x ≠ .w t := by rintro rfl; rw [hr] at f1; cases f1
    refine ⟨by rw [Mem.set_other _ _ _ _ hne]; exact f1, f2, f3, fun t' et j y hj => ?_⟩
    rcases getElem?_snoc hj with ⟨hlt, hj⟩ | ⟨rfl, hj⟩
    · rw [hblk hj]; exact f4 t' et j y hj
    · rw [← hm.rlen]; simp; rintro rfl; exact hne et
  · obtain ⟨b, avs, q1, q2, q3, q4, q5⟩ := hm.locs j x hj
    exact ⟨b, avs, q1, by rw [Mem.set_other _ _ _ _ (by simp)]; exact q2, q3.mono (Pre.refl _) hpre, q4, q5⟩
  · rcases getElem?_snoc hj with ⟨hlt, hj⟩ | ⟨rfl, hj2⟩
    · obtain ⟨t', q1, q2, q3, q4⟩ := hm.rws j e' sz' n' hj
      have hne : t' ≠ t := by rintro rfl; rw [hr] at q2; cases q2
      refine ⟨t', hpre _ _ q1, by rw [Mem.set_other _ _ _ _ (by simpa using hne)]; exact q2, q3, fun j' x' hj' hbj => ?_⟩
      rcases getElem?_snoc hj' with ⟨hlt', hj'⟩ | ⟨rfl, hj'⟩
      · rw [hblk hj'] at hbj; exact q4 j' x' hj' hbj
      · rw [← hm.rlen] at hbj; simp at hbj; exact absurd hbj.symm hne
    · cases hj2
      refine ⟨t, by rw [← hm.rlen]; simp, Mem.set_same _ _ _, hMr, fun j' x' hj' hbj => ?_⟩
      rcases getElem?_snoc hj' with ⟨hlt', hj'⟩ | ⟨rfl, hj'⟩
      · obtain ⟨b', q1, q2⟩ := old hj'
        rw [hblk hj', q1] at hbj
        cases hbj
        exact absurd rfl q2
      · rfl
end mem

/-- Appends, evaluated. -/
def effA (k : CK) (st : St) : Option (St × TV × Prop) :=
  match k with
  | .app e sz bytes s x => match rd true (st.get x) with
    | some (.sl _ sz2 es2, q) => match st.get s with
      | .lsl i sz1 es => match st.rows[i]? with
        | some (e', sz', n) => some ({ st with rows := st.rows.set i (e, sz, es.length + es2.length) }, .lsl i sz (es ++ es2), q ∧ sz2 = sz ∧ e' = e ∧ sz' = sz ∧ sz1 = sz ∧ n = es.length ∧ 0 < sz ∧ es.length + es2.length ≤ 9223372036854775807 ∧ (es.length + es2.length) * bytes ≤ 140737488355328)
        | none => none
      | .v (.sl (.srow t) sz1 es) => match st.M (.w t) with
        | some (.row e' sz' n) => some ({ st with M := st.M.set (.w t) (.row e sz (es.length + es2.length)) }, .v (.sl (.srow t) sz (es ++ es2)), q ∧ sz2 = sz ∧ e' = e ∧ sz' = sz ∧ sz1 = sz ∧ n = es.length ∧ 0 < sz ∧ es.length + es2.length ≤ 9223372036854775807 ∧ (es.length + es2.length) * bytes ≤ 140737488355328)
        | _ => none
      | .v (.sl .full sz1 es) => some (st, .v (.sl .no sz (es ++ es2)), q ∧ sz2 = sz ∧ sz1 = sz ∧ es.length + es2.length ≤ 9223372036854775807 ∧ (es.length + es2.length) * bytes ≤ 140737488355328)
      | _ => none
    | _ => none
  | .mu m k x => match rd true (st.get m), rd true (st.get k), rd true (st.get x) with
    | some (.map r, p1), some (.str s, p2), some (v, p3) => match st.M (.b r) with
      | some (.map kvs) => some ({ st with M := st.M.set (.b r) (.map (setS kvs s v)) }, .junk, p1 ∧ p2 ∧ p3)
      | _ => none
    | _, _, _ => none
  | _ => none

section
variable {P : Program} {T : TT} {o : Oper} {st : St}
theorem sound_app {e : TypeId} {sz bytes : Nat} {s x : Opd} {t tx : TypeId} {s' x' : Operand} {c : Call} {e' : TypeId} {i : TI} (ho : o.op = .call c) (hcal : c.callee = .builtin .append) (hargs : c.args = #[s', x']) (htys : c.argTypes = #[t, tx])
    (ht : P.underlying t = some (.slice e)) (htx : P.underlying tx = some (.slice e')) (hi : TIOk P e i) (hsz : sz = i.size) (hby : bytes = i.bytes) (hs' : IsOpd s s') (hx' : IsOpd x x')
    {st1 : St} {tv : TV} {q : Prop} (h : effA (.app e sz bytes s x) st = some (st1, tv, q)) (hq : q) : OpVal P o st st1 tv := by
  subst hsz; subst hby
  simp only [effA] at h
  have hexec : ∀ (a : Act) (w : World) (c' : Value) (w' : World), (Builtin.append_ #[t, tx] o.type #[a.eval s', a.eval x']).run P w = .ok c' w' → (execOp a.eval o).run P w = .ok (.value c') w' := by
    intro a w c' w' h
    unfold execOp
    simp only [ho, resolve, hcal, hargs, htys, invoke, builtin, Sem.run_bind, Sem.run_pure, Result.andThen_ok, List.map_toArray, List.map_cons, List.map_nil, h]
  split at h
  · rename_i own sz2 es2 q1 hrd
    split at h
    · rename_i k sz1 es hse
      split at h
      · rename_i e1 sz' n hrow
        cases h
        obtain ⟨p1, rfl, rfl, rfl, rfl, rfl, p2, p3, p4⟩ := hq
        intro B E F blk rw a w hr
        have hsv := hr.opd hs'
        rw [hse] at hsv
        obtain ⟨t', ht', hsv⟩ := hsv
        have hxv := hr.rd hx' hrd p1
        obtain ⟨MM, hm⟩ := hr.mem
        obtain ⟨t0, k1, k2, k3, k4⟩ := hm.rws k _ _ _ hrow
        rw [ht'] at k1; cases k1
        obtain ⟨c', w', E', h1, h2, h3, h4, h5⟩ := run_append_row (ty := o.type) ht htx hi p2 hm.sim k2 rfl hsv hxv p3 p4
        exact ⟨c', w', E', blk, rw, .inl (hexec a w c' w' h1), h2, h5, ⟨hr.tmps.mono h2 (Pre.refl _) (Pre.refl _), hr.defs.mono h2, _, hm.setRow hrow ht' h3⟩, ⟨t', ht', h4⟩⟩
      · cases h
    · rename_i t' sz1 es hse
      split at h
      · rename_i e1 sz' n hrow
        cases h
        obtain ⟨p1, rfl, rfl, rfl, rfl, rfl, p2, p3, p4⟩ := hq
        intro B E F blk rw a w hr
        have hsv := hr.opd hs'
        rw [hse] at hsv
        have hxv := hr.rd hx' hrd p1
        obtain ⟨MM, hm⟩ := hr.mem
        obtain ⟨c', w', E', h1, h2, h3, h4, h5⟩ := run_append_row (ty := o.type) ht htx hi p2 hm.sim (hm.sub _ _ hrow) rfl hsv hxv p3 p4
        exact ⟨c', w', E', blk, rw, .inl (hexec a w c' w' h1), h2, h5, ⟨hr.tmps.mono h2 (Pre.refl _) (Pre.refl _), hr.defs.mono h2, _, hm.setM hrow h3⟩, h4⟩
      · cases h
    · rename_i sz1 es hse
      cases h
      obtain ⟨p1, rfl, rfl, p3, p4⟩ := hq
      intro B E F blk rw a w hr
      have hsv := hr.opd hs'
      rw [hse] at hsv
      have hxv := hr.rd hx' hrd p1
      obtain ⟨MM, hm⟩ := hr.mem
      obtain ⟨c', w', E', h1, h2, h3, h4, h5⟩ := run_append_full (ty := o.type) ht htx hi hm.sim hsv hxv p3 p4
      exact ⟨c', w', E', blk, rw, .inl (hexec a w c' w' h1), h2, h5, ⟨hr.tmps.mono h2 (Pre.refl _) (Pre.refl _), hr.defs.mono h2, _, hm.mono_env h3⟩, h4⟩
    · cases h
  · cases h

theorem sound_mu {t kt et : TypeId} {m k x : Opd} {m' k' x' : Operand} (ho : o.op = .mapUpdate t m' k' x' ∨ o.op = .insert t m' k' x') (ht : P.underlying t = some (.map kt et)) (hkt : P.underlying kt = some .string) (hm : IsOpd m m') (hk : IsOpd k k') (hx : IsOpd x x')
    {st1 : St} {tv : TV} {q : Prop} (h : effA (.mu m k x) st = some (st1, tv, q)) (hq : q) : OpVal P o st st1 tv := by
  simp only [effA] at h
  split at h
  · rename_i r p1 s p2 v p3 hmr hks hxv
    split at h
    · rename_i kvs hM
      cases h
      obtain ⟨q1, q2, q3⟩ := hq
      intro B E F blk rw a w hr
      obtain ⟨b, e1, rfl⟩ := (hr.rd hk hks q2).str_inv
      have e2 := (hr.rd hm hmr q1).map_inv
      have e3 := hr.rd hx hxv q3
      obtain ⟨MM, hmm⟩ := hr.mem
      obtain ⟨w', h1, h2, h3⟩ := run_update_map ht hkt hmm.sim (hmm.sub _ _ hM) b e3
      refine ⟨undef, w', E, blk, rw, .inr ⟨?_, rfl⟩, Env.le.refl E, h3, ⟨hr.tmps, hr.defs, _, hmm.setM hM h2⟩, trivial⟩
      rcases ho with ho | ho <;> simp only [execOp, ho, e1, e2, Sem.run_bind, h1, Result.andThen_ok, Sem.run_pure]
    · cases h
  · cases h

theorem effA_ok (hT : TTOk P T) {esc : List Nat} {k : CK} (hk : compK T esc o = some k) {st1 : St} {tv : TV} {p : Prop} (h : effA k st = some (st1, tv, p)) (hp : p) : OpVal P o st st1 tv := by
  cases k with
  | app e sz bytes s x =>
    cases ho : o.op with
    | call c =>
      simp only [compK, ho] at hk
      split at hk
      · simp at hk
      · exfalso; split at hk <;> simp at hk
      · exfalso
        repeat' (split at hk)
        all_goals first | (cases hk; done) | (simp at hk; done)
      · rename_i hcal
        split at hk
        · rename_i s' x' t tx hargs htys
          split at hk
          · rename_i e0 e1 ht htx
            split at hk
            · rename_i j s1 x1 hj hs1 hx1
              cases hk
              have und : ∀ {t : TypeId} {e : TypeId}, descOf T t = .slice e → P.underlying t = some (.slice e) := by
                intro t e h
                unfold descOf at h
                cases hq : T t with
                | none => simp [hq] at h
                | some i =>
                  simp [hq] at h
                  rw [(hT t i hq).und, h]
              exact sound_app ho hcal (Array.ext' hargs) (Array.ext' htys) (und ht) (und htx) (hT _ _ hj) rfl rfl (cX_is hs1) (cX_is hx1) h hp
            · cases hk
          · cases hk
        · cases hk
      all_goals
        exfalso
        try (repeat' (split at hk))
        all_goals first | (cases hk; done) | (simp at hk; done)
    | binOp op t x y t' =>
      exfalso
      simp only [compK, ho] at hk
      repeat' (split at hk)
      all_goals first | (cases hk; done) | (simp at hk; done)
    | unOp op t x => cases op <;> simp [compK, ho] at hk
    | slice t x lo hi mx =>
      exfalso
      cases mx <;> simp only [compK, ho, reduceCtorEq] at hk
      repeat' (split at hk)
      all_goals first | (cases hk; done) | (simp at hk; done)
    | makeMap t r =>
      exfalso
      cases r <;> simp only [compK, ho, reduceCtorEq] at hk
      repeat' (split at hk)
      all_goals first | (cases hk; done)
    | box t x =>
      exfalso
      simp only [compK, ho] at hk
      split at hk
      · simp only [Option.map_eq_some_iff] at hk
        obtain ⟨_, _, hk⟩ := hk
        split at hk <;> cases hk
      · cases hk
    | alloc t =>
      exfalso
      simp only [compK, ho] at hk
      split at hk
      · split at hk
        · simp only [Option.some.injEq] at hk
          split at hk <;> cases hk
        · cases hk
      · cases hk
    | _ =>
      exfalso
      simp only [compK, ho, reduceCtorEq] at hk
      try (repeat' (split at hk))
      all_goals first | (cases hk; done) | (simp at hk; done)
  | mu m k x =>
    cases ho : o.op with
    | mapUpdate t m' k' x' =>
      simp only [compK, ho] at hk
      split at hk
      · rename_i kt et hd
        split at hk
        · rename_i m1 k1 x1 hkt hm hk1 hx
          cases hk
          exact sound_mu (.inl ho) (descOf_und hT hd (by simp)) (descOf_und hT hkt (by simp)) (cX_is hm) (cX_is hk1) (cX_is hx) h hp
        · cases hk
      · cases hk
    | insert t m' k' x' =>
      simp only [compK, ho] at hk
      split at hk
      · rename_i kt et hd
        split at hk
        · rename_i m1 k1 x1 hkt hm hk1 hx
          cases hk
          exact sound_mu (.inr ho) (descOf_und hT hd (by simp)) (descOf_und hT hkt (by simp)) (cX_is hm) (cX_is hk1) (cX_is hx) h hp
        · cases hk
      · cases hk
    | binOp op t x y t' =>
      exfalso
      simp only [compK, ho] at hk
      repeat' (split at hk)
      all_goals first | (cases hk; done) | (simp at hk; done)
    | unOp op t x => cases op <;> simp [compK, ho] at hk
    | slice t x lo hi mx =>
      exfalso
      cases mx <;> simp only [compK, ho, reduceCtorEq] at hk
      repeat' (split at hk)
      all_goals first | (cases hk; done) | (simp at hk; done)
    | makeMap t r =>
      exfalso
      cases r <;> simp only [compK, ho, reduceCtorEq] at hk
      repeat' (split at hk)
      all_goals first | (cases hk; done)
    | box t x =>
      exfalso
      simp only [compK, ho] at hk
      split at hk
      · simp only [Option.map_eq_some_iff] at hk
        obtain ⟨_, _, hk⟩ := hk
        split at hk <;> cases hk
      · cases hk
    | alloc t =>
      exfalso
      simp only [compK, ho] at hk
      split at hk
      · split at hk
        · simp only [Option.some.injEq] at hk
          split at hk <;> cases hk
        · cases hk
      · cases hk
    | call c =>
      exfalso
      simp only [compK, ho] at hk
      repeat' (split at hk)
      all_goals first | (cases hk; done) | (simp at hk; done)
    | _ =>
      exfalso
      simp only [compK, ho, reduceCtorEq] at hk
      try (repeat' (split at hk))
      all_goals first | (cases hk; done) | (simp at hk; done)
  | _ => cases h
end

/-! Names for slices without room. -/
theorem Rep.name_nil {E : Env} {sz : Nat} {c : Value} (h : Rep E (.sl .full sz []) c) : ∃ b, ∀ (E' : Env) (t : Nat), E.le E' → E'.rowAt t 0 = some (b, 0) → Rep E' (.sl (.srow t) sz []) c := by
  rcases h.sl_inv (by simp) with ⟨rfl, _, _⟩ | ⟨b, o, cap, rfl, hes, hcap, hown⟩
  · exact ⟨0, fun E' t hle hr => .slnil _ _ fun t' e => by cases e; exact hr⟩
  · obtain ⟨h1, h2⟩ := hown
    subst h2
    have h1 : cap = 0 := h1
    subst h1
    exact ⟨b, fun E' t hle hr => .sl _ _ _ b 0 0 0 rfl (.nil _ _ _) (Nat.le_refl _) ⟨hr, rfl⟩⟩

theorem Sim0.row_none {B : Nat} {E : Env} {G : Nat → Option Nat} {nr : Nat} {M : Mem} {w : World} (h : Sim0 B E G nr M w) : M (.w nr) = none := by
  cases hc : M (.w nr) with
  | none => rfl
  | some o => have := h.rdom nr o hc; omega

section
variable {P : Program} {Q : AExit → St → Prop} {st : St}
/-- Whatever is shown of a state with a slot's slice named holds before. -/
theorem Rel.own_tmp {B : Nat} {E : Env} {F : Mem} {blk rw : List Nat} {a : Act} {w : World} (hr : Rel B E F blk rw st a w) {i sz : Nat} (e : TypeId) (hi : st.tmps[i]? = some (.v (.sl .full sz []))) :
    ∃ E' rw', E.le E' ∧ Rel B E' F blk rw' { st with tmps := st.tmps.set i (.lsl st.rows.length sz []), rows := st.rows ++ [(e, sz, 0)] } a w := by
  obtain ⟨MM, hm⟩ := hr.mem
  obtain ⟨G, nr, hs⟩ := hm.sim
  obtain ⟨c, hc, hrep⟩ := hr.tmps.at i _ hi
  obtain ⟨b, hb⟩ := Rep.name_nil hrep
  obtain ⟨E', hle, hs', hrow⟩ := hs.row_nil e sz b
  refine ⟨E', rw ++ [nr], hle, ?_, hr.defs.mono hle, _, hm.newRow hs.row_none ⟨_, _, hs'⟩⟩
  have h2 := (hr.tmps.mono hle (Pre.refl blk) (Pre.snoc rw nr)).set i (.lsl st.rows.length sz []) c ⟨nr, by rw [← hm.rlen]; simp, hb E' nr hle hrow⟩
  have : a.tmps.toList.set i c = a.tmps.toList := by
    refine List.ext_getElem? fun j => ?_
    rw [List.getElem?_set]
    split
    · rename_i h; subst h
      split
      · exact hc.symm
      · rename_i h; rw [List.getElem?_eq_none (by omega)]
    · rfl
  rwa [this] at h2

/-- A slice in a field of a variable that memory speaks of. -/
theorem Rel.own_mem {B : Nat} {E : Env} {F : Mem} {blk rw : List Nat} {a : Act} {w : World} (hr : Rel B E F blk rw st a w) {r k sz : Nat} {cs : List AV} (e : TypeId) (hM : st.M (.b r) = some (.cells cs)) (hk : cs[k]? = some (.sl .full sz [])) :
    ∃ E' t, E.le E' ∧ st.M (.w t) = none ∧ Rel B E' F blk rw { st with M := (st.M.set (.w t) (.row e sz 0)).set (.b r) (.cells (cs.set k (.sl (.srow t) sz []))) } a w := by
  obtain ⟨MM, hm⟩ := hr.mem
  obtain ⟨G, nr, hs⟩ := hm.sim
  have hMM := hm.sub _ _ hM
  obtain ⟨g1, g2, g3, ccs, ty, g4, g5⟩ := hs.obj r cs hMM
  obtain ⟨c, hc, hrep⟩ := g5.at k _ hk
  obtain ⟨b, hb⟩ := Rep.name_nil hrep
  obtain ⟨E', hle, hs', hrow⟩ := hs.row_nil e sz b
  have hnone : st.M (.w nr) = none := by
    cases h : st.M (.w nr) with
    | none => rfl
    | some x => have := hm.sub _ x h; rw [hs.row_none] at this; cases this
  have hm1 : RelM B E' F blk rw st.loc st.rows (st.M.set (.w nr) (.row e sz 0)) (MM.set (.w nr) (.row e sz 0)) w := hm.newM hs.row_none ⟨_, _, hs'⟩
  have hM1 : (st.M.set (.w nr) (.row e sz 0)) (.b r) = some (.cells cs) := by rw [Mem.set_other _ _ _ _ (by simp)]; exact hM
  have hMM1 : (MM.set (.w nr) (.row e sz 0)) (.b r) = some (.cells cs) := by rw [Mem.set_other _ _ _ _ (by simp)]; exact hMM
  refine ⟨E', nr, hle, hnone, hr.tmps.mono hle (Pre.refl _) (Pre.refl _), hr.defs.mono hle, _, hm1.setM hM1 ⟨G, nr + 1, ?_⟩⟩
  -- the same world, the cell named
  have hcs : ccs.toList.set k c = ccs.toList := by
    refine List.ext_getElem? fun j => ?_
    rw [List.getElem?_set]
    split
    · rename_i h; subst h
      split
      · exact hc.symm
      · rename_i h; rw [List.getElem?_eq_none (by omega)]
    · rfl
  have hrepl : RepL E' (cs.set k (.sl (.srow nr) sz [])) ccs.toList := by
    have := (g5.mono hle).set k _ c (hb E' nr hle hrow)
    rwa [hcs] at this
  obtain ⟨h1, h2, h3, h4, h5, h6, h7, h8, h9, h10, h11⟩ := hs'
  refine ⟨h1, h2, ?_, ?_, ?_, ?_, ?_, h8, h9, h10, h11⟩
  · intro r' o' e'
    by_cases hx : r' = r
    · subst hx; exact h3 _ _ hMM1
    · rw [Mem.set_other _ _ _ _ (by simpa using hx)] at e'; exact h3 _ _ e'
  · intro r' cs' e'
    by_cases hx : r' = r
    · subst hx
      rw [Mem.set_same] at e'; cases e'
      obtain ⟨q1, q2, q3, _⟩ := h4 _ _ hMM1
      refine ⟨q1, q2, ?_, ccs, ty, g4, hrepl⟩
      intro v hv
      rcases List.mem_or_eq_of_mem_set hv with h | h
      · exact q3 v h
      · subst h; rfl
    · rw [Mem.set_other _ _ _ _ (by simpa using hx)] at e'; exact h4 _ _ e'
  · intro r' o' ho' e'
    by_cases hx : r' = r
    · subst hx; rw [Mem.set_same] at e'; cases e'; cases ho'
    · rw [Mem.set_other _ _ _ _ (by simpa using hx)] at e'; exact h5 _ _ ho' e'
  · intro t e0 sz0 n0 e'
    rw [Mem.set_other _ _ _ _ (by simp)] at e'; exact h6 _ _ _ _ e'
  · intro t o' e'
    rw [Mem.set_other _ _ _ _ (by simp)] at e'; exact h7 _ _ e'
end
/-! Guards. -/
def gval (st : St) (d : Nat) (want : Bool) : Option Bool :=
  match (st.tmps[d]?).getD .junk with
  | .v (.bool b) => some (b == want)
  | .opt g (.v (.bool b)) => some (g && (b == want))
  | _ => none

theorem gval_ok {st : St} {ops : Array Oper} {o : Oper} {d : Nat} {want g : Bool} (hg : compG ops o = some (some (d, want))) (h : gval st d want = some g) :
    ∀ B E F blk rw a w, Rel B E F blk rw st a w → Region.wanted o (yielded ops a.tmps) = g := by
  intro B E F blk rw a w hr
  unfold compG at hg
  split at hg
  · cases hg
  · rename_i j want' hgd
    split at hg
    · rename_i d' hd
      cases hg
      have hv := hr.tmpAt d
      have hget : ∀ c, a.tmps.getD d undef = c → c ≠ undef → a.tmps[d]? = some c := by
        intro c hc hne
        cases hi : a.tmps[d]? with
        | none => simp [Array.getD_eq_getD_getElem?, hi] at hc; exact absurd hc.symm hne
        | some x => simp [Array.getD_eq_getD_getElem?, hi] at hc; rw [hc]
      have hundef : a.tmps.getD d undef = undef → yielded ops a.tmps j = none := by
        intro hc
        simp only [yielded, hd, Option.bind_some]
        cases hi : a.tmps[d]? with
        | none => rfl
        | some x =>
          simp [Array.getD_eq_getD_getElem?, hi] at hc
          rw [hc]; rfl
      have hbool : ∀ b, a.tmps.getD d undef = .bool b → yielded ops a.tmps j = some b := by
        intro b hc
        have := hget _ hc (by simp [undef])
        simp only [yielded, hd, Option.bind_some, this]
      simp only [Region.wanted, hgd]
      unfold gval at h
      split at h
      · rename_i b hb
        cases h
        rw [hb] at hv
        rw [hbool b (Rep.bool_inv hv)]
        cases b <;> cases want <;> rfl
      · rename_i g' b hb
        cases h
        rw [hb] at hv
        cases g' with
        | true =>
          rw [hbool b (Rep.bool_inv (hv.1 rfl))]
          cases b <;> cases want <;> rfl
        | false =>
          rw [hundef (hv.2 rfl)]
          rfl
      · cases h
    · cases hg

end Go.Am
