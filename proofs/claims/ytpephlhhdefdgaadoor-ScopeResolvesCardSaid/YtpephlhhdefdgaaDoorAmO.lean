/- Regions whose order is drawn: the rule. -/
import Derived.Test.YtpephlhhdefdgaaDoorAmN
set_option linter.unusedSectionVars false
set_option linter.unusedVariables false
set_option linter.unusedSimpArgs false
namespace Go.Am
open Go.RowKit
variable [Inhabited LaidBox] {ro : Option Nat}

/-! What is resolved of an operation. -/
theorem compOp_inv {T : TT} {esc : List Nat} {ops : Array Oper} {o : Oper} {c : COp} (h : compOp T esc ops o = c) (hk : ∀ o, c.k ≠ .other o) : c.dst = o.dst ∧ compG ops o = some c.grd ∧ compK T esc o = some c.k := by
  unfold compOp at h
  split at h
  · rename_i g hg
    subst h
    refine ⟨rfl, hg, ?_⟩
    simp only at hk
    cases hc : compK T esc o with
    | none => exact absurd (by simp [hc]) (hk o)
    | some k => simp
  · subst h
    exact absurd rfl (hk o)
theorem compG_none {ops : Array Oper} {o : Oper} (h : compG ops o = some none) : o.guard = none := by
  unfold compG at h
  split at h
  · assumption
  · split at h <;> simp at h

theorem wpAnyR_mono {P : Program} {md : Region.Mode} {ops : Array Oper} {Q Q' : Exit → Act → World → Prop} (hQ : ∀ e a w, Q e a w → Q' e a w) : ∀ (n : Nat) (listed : Array Bool) (a : Act) (w : World), wpAnyIn (wf ro) 0 P md ops Q n listed a w → wpAnyIn (wf ro) 0 P md ops Q' n listed a w
  | 0, listed, a, w, h => ⟨h.1, hQ _ _ _ h.2⟩
  | n + 1, listed, a, w, h => by
    refine ⟨fun e => hQ _ _ _ (h.1 e), fun i hi => ?_⟩
    have := h.2 i hi
    unfold wpOpIn at this ⊢
    cases ho : ops[i]? with
    | none => simp only [ho] at this ⊢; exact wpAnyR_mono hQ n _ _ _ this
    | some o =>
      simp only [ho] at this ⊢
      split
      · rename_i hw
        rw [if_pos hw] at this
        exact Oper.wpR_mono (fun a w hh => wpAnyR_mono hQ n _ a w hh) hQ this
      · rename_i hw
        rw [if_neg hw] at this
        exact ⟨this.1, wpAnyR_mono hQ n _ _ _ this.2⟩

/-- Reached through what must stand before. -/
def reach (pr : List (List Nat)) : Nat → Nat → Nat → Bool
  | 0, _, _ => false
  | n + 1, q, k => (pr.getD k []).any fun m => m == q || reach pr n q m

/-- The order of a list, and who is apart from whom. -/
def Good (pr : List (List Nat)) (ck : List (List Nat)) (cs : List COp) : List Nat → Prop
  | [] => True
  | i :: rem => (∃ c, cs[i]? = some c ∧ i < pr.length ∧ (∀ m ∈ pr.getD i [], m < cs.length ∧ m ∉ i :: rem) ∧
      (c.k.quiet = true → ∀ k ∈ rem, ∀ c', cs[k]? = some c' → (i ∈ pr.getD k [] ∨ Apart c c') ∧ (c'.k.quiet = false → c.k.memk = true → i ∈ ck.getD k [] ∨ reach pr cs.length i k = true)) ∧
      (c.k.quiet = false → ∀ k ∈ rem, ∃ m ∈ pr.getD k [], m ∈ i :: rem)) ∧ i ∉ rem ∧ Good pr ck cs rem

def goodB (pr : List (List Nat)) (ck : List (List Nat)) (cs : List COp) : List Nat → Bool
  | [] => true
  | i :: rem => (match cs[i]? with
    | some c => (decide (i < pr.length) && (pr.getD i []).all (fun m => decide (m < cs.length) && !(i :: rem).contains m)) &&
      (match c.k.quiet with
       | true => rem.all fun k => match cs[k]? with
         | some c' => ((pr.getD k []).contains i || apart c c') && (c'.k.quiet || (!c.k.memk || ((ck.getD k []).contains i || reach pr cs.length i k)))
         | none => true
       | false => rem.all fun k => (pr.getD k []).any fun m => (i :: rem).contains m)
    | none => false) && (!rem.contains i && goodB pr ck cs rem)

theorem goodB_spec {pr ck : List (List Nat)} {cs : List COp} : ∀ {l : List Nat}, goodB pr ck cs l = true → Good pr ck cs l
  | [], _ => trivial
  | i :: rem, h => by
    unfold goodB at h
    rw [Bool.and_eq_true] at h
    obtain ⟨h1, h2⟩ := h
    rw [Bool.and_eq_true] at h2
    refine ⟨?_, ?_, goodB_spec h2.2⟩
    · cases hc : cs[i]? with
      | none => rw [hc] at h1; cases h1
      | some c =>
        rw [hc] at h1
        simp only [Bool.and_eq_true, decide_eq_true_eq, List.all_eq_true] at h1
        obtain ⟨⟨h3, h4⟩, h5⟩ := h1
        refine ⟨c, rfl, h3, fun m hm => ?_, fun hq => ?_, fun hq => ?_⟩
        · have := h4 m hm
          refine ⟨this.1, ?_⟩
          have h := this.2
          simpa using h
        · rw [hq] at h5
          simp only [List.all_eq_true] at h5
          intro k hk c' hc'
          have := h5 k hk
          rw [hc'] at this
          simp only [Bool.and_eq_true, Bool.or_eq_true] at this
          refine ⟨?_, fun hq' hm => ?_⟩
          · rcases this.1 with h | h
            · exact .inl (by simpa using h)
            · exact .inr (apart_spec h)
          · rcases this.2 with h | h | h | h
            · rw [hq'] at h; cases h
            · rw [hm] at h; cases h
            · exact .inl (by simpa using h)
            · exact .inr h
        · rw [hq] at h5
          simp only [List.all_eq_true, List.any_eq_true] at h5
          intro k hk
          obtain ⟨m, hm1, hm2⟩ := h5 k hk
          exact ⟨m, hm1, by simpa using hm2⟩
    · have := h2.1
      simpa using this

structure DCtx (T : TT) (esc : List Nat) (ops : Array Oper) (cs : List COp) (pr : List (List Nat)) : Prop where
  size : ops.size = cs.length
  get : ∀ (i : Nat) c, cs[i]? = some c → ∃ o, ops[i]? = some o ∧ compOp T esc ops o = c
  pr : ∀ (i : Nat) o, ops[i]? = some o → pr.getD i [] = (o.after.toList.filter (Region.binds .any)).map (·.on)

structure Listed (n : Nat) (listed : Array Bool) (L : List Nat) : Prop where
  size : listed.size = n
  iff : ∀ i, i < n → (listed.getD i true = false ↔ i ∈ L)

theorem Listed.done {n : Nat} {listed : Array Bool} {L : List Nat} (h : Listed n listed L) {i : Nat} (hi : i < n) : listed.getD i false = true ↔ i ∉ L := by
  rw [← h.iff i hi]
  have hs : i < listed.size := by rw [h.size]; exact hi
  simp [Array.getD_eq_getD_getElem?, hs]

theorem Listed.set {n : Nat} {listed : Array Bool} {L L' : List Nat} (h : Listed n listed L) {i : Nat} (hL : ∀ j, j ∈ L' ↔ j ∈ L ∧ j ≠ i) : Listed n (listed.setIfInBounds i true) L' := by
  refine ⟨by simp [h.size], fun j hj => ?_⟩
  rw [hL]
  by_cases e : j = i
  · subst e
    have hs : j < listed.size := by rw [h.size]; exact hj
    simp [Array.getD_eq_getD_getElem?, hs]
  · rw [← h.iff j hj]
    have : (listed.setIfInBounds i true)[j]? = listed[j]? := by rw [Array.getElem?_setIfInBounds]; simp [Ne.symm e]
    simp [Array.getD_eq_getD_getElem?, this, e]

section
variable {P : Program} {T : TT} {esc : List Nat} {ops : Array Oper} {cs : List COp} {pr ck : List (List Nat)}

theorem DCtx.mem_ready (hx : DCtx T esc ops cs pr) {listed : Array Bool} {L : List Nat} (hL : Listed cs.length listed L) {i : Nat} : i ∈ Region.ready .any ops listed ↔ i < cs.length ∧ i ∈ L ∧ ∀ m ∈ pr.getD i [], listed.getD m false = true := by
  unfold Region.ready
  rw [List.mem_filter, List.mem_range, hx.size]
  constructor
  · rintro ⟨h1, h2⟩
    rw [Bool.and_eq_true] at h2
    obtain ⟨h2, h3⟩ := h2
    have h2' : listed.getD i true = false := by simpa using h2
    refine ⟨h1, (hL.iff i h1).1 h2', ?_⟩
    have hlt : i < ops.size := by rw [hx.size]; exact h1
    have ho : ops[i]? = some ops[i] := Array.getElem?_eq_getElem hlt
    rw [ho] at h3
    simp only [Option.map_some, Option.getD_some, Array.all_eq_true_iff_forall_mem] at h3
    rw [hx.pr i _ ho]
    intro m hm
    rw [List.mem_map] at hm
    obtain ⟨e, he, rfl⟩ := hm
    rw [List.mem_filter] at he
    have := h3 e (by simpa using he.1)
    rw [Bool.or_eq_true] at this
    rcases this with h | h
    · rw [he.2] at h; cases h
    · exact h
  · rintro ⟨h1, h2, h3⟩
    refine ⟨h1, ?_⟩
    rw [Bool.and_eq_true]
    refine ⟨by simpa using (hL.iff i h1).2 h2, ?_⟩
    have hlt : i < ops.size := by rw [hx.size]; exact h1
    have ho : ops[i]? = some ops[i] := Array.getElem?_eq_getElem hlt
    rw [ho]
    simp only [Option.map_some, Option.getD_some, Array.all_eq_true_iff_forall_mem]
    intro e he
    rw [Bool.or_eq_true]
    cases hb : Region.binds .any e with
    | false => exact .inl rfl
    | true =>
      refine .inr (h3 e.on ?_)
      rw [hx.pr i _ ho, List.mem_map]
      exact ⟨e, by rw [List.mem_filter]; exact ⟨by simpa using he, hb⟩, rfl⟩

/-- What is done is closed. -/
def Down (n : Nat) (pr : List (List Nat)) (L : List Nat) : Prop := ∀ q ∈ L, ∀ i, i < n → q ∈ pr.getD i [] → i ∈ L

theorem Down.remove {n : Nat} {L L' : List Nat} (h : Down n pr L) {k : Nat} (hk : ∀ m ∈ pr.getD k [], m ∉ L) (hL : ∀ j, j ∈ L' ↔ j ∈ L ∧ j ≠ k) : Down n pr L' := by
  intro q hq i hi hqi
  rw [hL] at hq ⊢
  refine ⟨h q hq.1 i hi hqi, ?_⟩
  rintro rfl
  exact hk q hqi hq.1

theorem Down.reach {L : List Nat} {n : Nat} (h : Down n pr L) (hpr : ∀ i, i < n → ∀ m ∈ pr.getD i [], m < n) : ∀ {f q k : Nat}, k < n → (∀ m ∈ pr.getD k [], m ∉ L) → reach pr f q k = true → q ∉ L
  | 0, q, k, _, _, e => by cases e
  | f + 1, q, k, hk, hm, e => by
    unfold Am.reach at e
    rw [List.any_eq_true] at e
    obtain ⟨m, hm1, hm2⟩ := e
    rw [Bool.or_eq_true] at hm2
    rcases hm2 with h1 | h1
    · have : m = q := by simpa using h1
      subst this; exact hm m hm1
    · have hmn := hpr k hk m hm1
      refine Down.reach h hpr hmn (fun m' hm' hin => ?_) h1
      exact hm m hm1 (h m' hin m hmn hm')

theorem Good.suffix : ∀ {D l : List Nat}, Good pr ck cs (D ++ l) → Good pr ck cs l
  | [], _, h => h
  | _ :: D, _, h => Good.suffix (D := D) h.2.2
theorem Good.drop {k : Nat} : ∀ {D1 D2 : List Nat}, (∀ q ∈ D1, ∀ c, cs[q]? = some c → c.k.quiet = true) → Good pr ck cs (D1 ++ k :: D2) → Good pr ck cs (D1 ++ D2)
  | [], D2, _, h => h.2.2
  | i :: D1, D2, hq, h => by
    obtain ⟨⟨c, h1, h2, h3, h4, h5⟩, h6, h7⟩ := h
    have hsub : ∀ x, x ∈ D1 ++ D2 → x ∈ D1 ++ k :: D2 := fun x hx => by
      rcases List.mem_append.1 hx with h | h
      · exact List.mem_append.2 (.inl h)
      · exact List.mem_append.2 (.inr (List.mem_cons_of_mem _ h))
    refine ⟨⟨c, h1, h2, fun m hm => ⟨(h3 m hm).1, fun hin => ?_⟩, fun e k' hk' => h4 e k' (hsub k' hk'), fun e => ?_⟩, fun hin => h6 (hsub i hin), Good.drop (fun q hqm => hq q (List.mem_cons_of_mem _ hqm)) h7⟩
    · rcases List.mem_cons.1 hin with h | h
      · exact (h3 m hm).2 (by rw [h]; exact List.mem_cons_self)
      · exact (h3 m hm).2 (List.mem_cons_of_mem _ (hsub m h))
    · rw [hq i (by simp) c h1] at e; cases e
theorem Good.apart {k : Nat} {c' : COp} (hk : cs[k]? = some c') : ∀ {D1 D2 : List Nat}, (∀ q ∈ D1, ∀ c, cs[q]? = some c → c.k.quiet = true) → Good pr ck cs (D1 ++ k :: D2) → (∀ m ∈ pr.getD k [], m ∉ D1) →
    ∀ q ∈ D1, ∀ cq, cs[q]? = some cq → Apart cq c' ∧ (c'.k.quiet = false → cq.k.memk = true → q ∈ ck.getD k [] ∨ Am.reach pr cs.length q k = true)
  | [], D2, _, h, _, q, hq, _, _ => by cases hq
  | i :: D1, D2, hqu, h, hp, q, hq, cq, hcq => by
    obtain ⟨⟨c, h1, h2, h3, h4, h5⟩, h6, h7⟩ := h
    rcases List.mem_cons.1 hq with rfl | hq'
    · rw [hcq] at h1; cases h1
      have := h4 (hqu q (by simp) cq hcq) k (by simp) c' hk
      refine ⟨?_, this.2⟩
      rcases this.1 with h | h
      · exact absurd List.mem_cons_self (hp q h)
      · exact h
    · exact Good.apart hk (fun q hqm => hqu q (List.mem_cons_of_mem _ hqm)) h7 (fun m hm hin => hp m hm (List.mem_cons_of_mem _ hin)) q hq' cq hcq
theorem Good.preds {i : Nat} : ∀ {L : List Nat}, Good pr ck cs L → i ∈ L → ∀ m ∈ pr.getD i [], m < cs.length
  | [], _, h, _, _ => by cases h
  | j :: L, h, hi, m, hm => by
    rcases List.mem_cons.1 hi with rfl | hi'
    · exact (h.1.choose_spec.2.2.1 m hm).1
    · exact Good.preds h.2.2 hi' m hm
theorem Good.lt {i : Nat} : ∀ {L : List Nat}, Good pr ck cs L → i ∈ L → i < cs.length
  | [], _, h => by cases h
  | j :: L, h, hi => by
    rcases List.mem_cons.1 hi with rfl | hi'
    · obtain ⟨⟨c, h1, _⟩, _⟩ := h
      rcases Nat.lt_or_ge i cs.length with h' | h'
      · exact h'
      · rw [List.getElem?_eq_none h'] at h1; cases h1
    · exact Good.lt h.2.2 hi'
theorem Good.nodup : ∀ {L : List Nat}, Good pr ck cs L → L.Nodup
  | [], _ => List.nodup_nil
  | j :: L, h => List.nodup_cons.2 ⟨h.2.1, Good.nodup h.2.2⟩

/-- A quiet operation, carried out. -/
theorem QStep.wp (hT : TTOk P T) (hx : DCtx T esc ops cs pr) {i : Nat} {c : COp} (hi : cs[i]? = some c) (hk : c.k.quiet = true) {s : St} {x : TV} (hq : QStep c s x) {B : Nat} {E : Env} {F : Mem} {blk rw : List Nat} {a : Act} {w : World} (hr : Rel B E F blk rw s a w) {Q : Exit → Act → World → Prop} {K : Act → World → Prop}
    (h : ∀ E' blk' rw' a' w', E.le E' → Rel B E' F blk' rw' (s.put c.dst x) a' w' → Below B w w' → K a' w') : wpOpIn (wf ro) 0 P ops Q i K a w := by
  obtain ⟨o, ho, hc⟩ := hx.get i c hi
  obtain ⟨k1, k2, k3⟩ := compOp_inv hc (by intro o' e; rw [e] at hk; cases hk)
  unfold wpOpIn
  simp only [ho]
  unfold QStep at hq
  cases hg : c.grd with
  | none =>
    rw [hg] at hq k2
    obtain ⟨p, h1, h2⟩ := hq
    rw [if_pos (by simp [Region.wanted, compG_none k2])]
    obtain ⟨v, w', E', blk', rw', hrun, hE, hb, hr', hv⟩ := pev_ok hT k3 h1 h2 B E F blk rw a w hr
    rcases hrun with hrun | ⟨hrun, rfl⟩
    · refine uponIn_run hrun (by simp) ?_
      exact h E' blk' rw' _ w' hE (by rw [k1]; exact hr'.put o.dst hv) hb
    · refine uponIn_run hrun (by simp) ?_
      exact h E' blk' rw' _ w' hE (by rw [k1]; exact hr'.put o.dst hv) hb
  | some dw =>
    obtain ⟨d, want⟩ := dw
    rw [hg] at hq k2
    obtain ⟨g, h0, y, p, h1, h2, rfl⟩ := hq
    have hw := gval_ok k2 h0 B E F blk rw a w hr
    cases g with
    | false =>
      rw [if_neg (by rw [hw]; simp)]
      refine ⟨fun _ _ => trivial, ?_⟩
      exact h E blk rw _ w (Env.le.refl E) (by rw [k1]; exact hr.put o.dst ⟨fun e => by simp at e, fun _ => rfl⟩) (Below.refl B w)
    | true =>
      rw [if_pos hw]
      obtain ⟨v, w', E', blk', rw', hrun, hE, hb, hr', hv⟩ := pev_ok hT k3 h1 (h2 rfl) B E F blk rw a w hr
      rcases hrun with hrun | ⟨hrun, rfl⟩
      · refine uponIn_run hrun (by simp) ?_
        exact h E' blk' rw' _ w' hE (by rw [k1]; exact hr'.put o.dst ⟨fun _ => hv, fun e => by simp at e⟩) hb
      · refine uponIn_run hrun (by simp) ?_
        exact h E' blk' rw' _ w' hE (by rw [k1]; exact hr'.put o.dst ⟨fun _ => hv, fun e => by simp at e⟩) hb
end

/-- From whatever has been held back. -/
def DAny (ro : Option Nat) (P : Program) (ops : Array Oper) (cs : List COp) (pr ck : List (List Nat)) (Q : AExit → St → Prop) (R : List (Nat × Fact)) (l : List Nat) (st : St) : Prop :=
  ∀ D sa, Good pr ck cs (D ++ l) → Down cs.length pr (D ++ l) → QRun cs R D sa st → ∀ B E F blk rw a w listed, Rel B E F blk rw sa a w → Listed cs.length listed (D ++ l) → wpAnyIn (wf ro) 0 P .any ops (Out B E F w Q) (D.length + l.length) listed a w

section
variable {P : Program} {T : TT} {esc : List Nat} {ops : Array Oper} {cs : List COp} {pr ck : List (List Nat)} {Q : AExit → St → Prop} {st : St} {R : List (Nat × Fact)}

theorem QRun.quiet : ∀ {D : List Nat} {s s1 : St}, QRun cs R D s s1 → ∀ q ∈ D, ∀ c, cs[q]? = some c → c.k.quiet = true
  | [], _, _, _, q, hq, _, _ => by cases hq
  | q0 :: D, s, s1, h, q, hq, c, hc => by
    obtain ⟨c0, x0, h1, h2, h3, h4, h5⟩ := h
    rcases List.mem_cons.1 hq with rfl | hq'
    · rw [h1] at hc; cases hc; exact h2
    · exact QRun.quiet h5 q hq' c hc

theorem QRun.memf : ∀ {D : List Nat} {s s1 : St}, QRun cs R D s s1 → ∀ q ∈ D, ∃ c, cs[q]? = some c
  | [], _, _, _, q, hq => by cases hq
  | q0 :: D, s, s1, h, q, hq => by
    obtain ⟨c0, x0, h1, h2, h3, h4, h5⟩ := h
    rcases List.mem_cons.1 hq with rfl | hq'
    · exact ⟨c0, h1⟩
    · exact QRun.memf h5 q hq'

theorem DAny.quiet {i : Nat} {l : List Nat} {c : COp} (hi : cs[i]? = some c) (hk : c.k.quiet = true) {x : TV} (hq : QStep c st x) {f : Fact} (hf : c.k.memk = true → ∀ loc M, f loc M → QStep c (st.mem loc M) x)
    (h : DAny ro P ops cs pr ck Q ((i, f) :: R) l (st.put c.dst x)) : DAny ro P ops cs pr ck Q R (i :: l) st := by
  intro D sa hg hd hrun B E F blk rw a w listed hr hL
  have e : (D ++ [i]) ++ l = D ++ i :: l := by simp
  have := h (D ++ [i]) sa (by rw [e]; exact hg) (by rw [e]; exact hd) (QRun.snoc (hrun.more fun y hy => List.mem_cons_of_mem _ hy) hi hk hq fun e => ⟨f, by simp, hf e⟩) B E F blk rw a w listed hr (by rw [e]; exact hL)
  simpa [Nat.add_assoc, Nat.add_comm 1] using this

/-- The steps until the next loud one. -/
theorem DAny.steps (hT : TTOk P T) (hx : DCtx T esc ops cs pr) (hlt : ∀ i, i < cs.length → ∀ m ∈ pr.getD i [], m < cs.length) {l : List Nat} (h0 : l = [] → Q .normal st)
    (h1 : ∀ N l', l = N :: l' → ∃ c, cs[N]? = some c ∧ c.k.quiet = false ∧ ∀ (D : List Nat) sa, QRun cs R D sa st → (∀ q ∈ D, ∀ cq, cs[q]? = some cq → Apart cq c ∧ (cq.k.memk = true → q ∈ ck.getD N [])) → ∀ B E F blk rw a w, Rel B E F blk rw sa a w →
      wpOpIn (wf ro) 0 P ops (Out B E F w Q) N (fun a' w' => ∃ u E' blk' rw', E.le E' ∧ Rel B E' F blk' rw' (sa.upd c.dst u) a' w' ∧ Below B w w' ∧ (∀ q ∈ D, q ∈ ck.getD N [] → ∀ f, (q, f) ∈ R → f u.loc u.M) ∧ DAny ro P ops cs pr ck Q R l' (st.upd c.dst u)) a w) :
    DAny ro P ops cs pr ck Q R l st := by
  intro D
  induction hn : D.length generalizing D with
  | zero =>
    have : D = [] := List.eq_nil_of_length_eq_zero hn
    subst this
    intro sa hg hd hrun B E F blk rw a w listed hr hL
    have hs : sa = st := hrun
    subst hs
    cases l with
    | nil =>
      refine ⟨?_, Out.here hr .normal .normal trivial (h0 rfl)⟩
      refine List.eq_nil_iff_forall_not_mem.2 fun i hi => ?_
      have := ((hx.mem_ready hL).1 hi).2.1
      simp at this
    | cons N l' =>
      simp only [List.length_nil, Nat.zero_add, List.length_cons, List.nil_append] at hg hd hL ⊢
      have hready : N ∈ Region.ready .any ops listed := by
        rw [hx.mem_ready hL]
        refine ⟨Good.lt hg (by simp), by simp, fun m hm => ?_⟩
        obtain ⟨⟨c, k1, k2, k3, k4, k5⟩, _⟩ := hg
        rw [hL.done (k3 m hm).1]
        exact (k3 m hm).2
      refine ⟨fun e => (by rw [e] at hready; cases hready), fun i hi => ?_⟩
      obtain ⟨c, hc, hq, hN⟩ := h1 N l' rfl
      obtain ⟨hi1, hi2, hi3⟩ := (hx.mem_ready hL).1 hi
      have hiN : i = N := by
        rcases List.mem_cons.1 hi2 with h | h
        · exact h
        · obtain ⟨⟨c', k1, k2, k3, k4, k5⟩, _⟩ := hg
          rw [hc] at k1; cases k1
          obtain ⟨m, hm1, hm2⟩ := k5 hq i h
          have hmn := Good.preds (i := i) (show Good pr ck cs (N :: l') from ⟨⟨c, hc, k2, k3, k4, k5⟩, by assumption⟩) (by simp [h]) m hm1
          have := hi3 m hm1
          rw [hL.done hmn] at this
          exact absurd hm2 this
      subst hiN
      refine wpOpIn_mono (fun a' w' hh => ?_) (hN [] sa rfl (fun q hq => by cases hq) B E F blk rw a w hr)
      obtain ⟨u, E', blk', rw', hE, hr', hb, hf, hd'⟩ := hh
      have hset : ∀ j, j ∈ l' ↔ j ∈ i :: l' ∧ j ≠ i := fun j => by
        have := hg.2.1
        constructor
        · intro hj; exact ⟨List.mem_cons_of_mem _ hj, by rintro rfl; exact this hj⟩
        · rintro ⟨hj, hne⟩
          rcases List.mem_cons.1 hj with h | h
          · exact absurd h hne
          · exact h
      have hpm : ∀ m ∈ pr.getD i [], m ∉ i :: l' := fun m hm => (hg.1.choose_spec.2.2.1 m hm).2
      have := hd' [] (sa.upd c.dst u) hg.2.2 (hd.remove hpm hset) rfl B E' F blk' rw' a' w' _ hr' (hL.set hset)
      simp only [List.length_nil, Nat.zero_add] at this
      exact wpAnyR_mono (fun e a w ho => ho.weaken hE hb fun _ _ h => h) _ _ _ _ this
  | succ n ih =>
    intro sa hg hd hrun B E F blk rw a w listed hr hL
    have hqu := QRun.quiet hrun
    have hfuel : n + 1 + l.length = (n + l.length) + 1 := by omega
    rw [hfuel]
    have hnod := Good.nodup hg
    obtain ⟨k0, D0, hD0⟩ : ∃ k0 D0, D = k0 :: D0 := by
      cases D with
      | nil => simp at hn
      | cons k D => exact ⟨k, D, rfl⟩
    have hready : k0 ∈ Region.ready .any ops listed := by
      rw [hx.mem_ready hL]
      subst hD0
      refine ⟨Good.lt hg (by simp), by simp, fun m hm => ?_⟩
      obtain ⟨⟨c, k1, k2, k3, k4, k5⟩, _⟩ := hg
      rw [hL.done (k3 m hm).1]
      exact (k3 m hm).2
    refine ⟨fun e => (by rw [e] at hready; cases hready), fun i hi => ?_⟩
    obtain ⟨hi1, hi2, hi3⟩ := (hx.mem_ready hL).1 hi
    have hpi : ∀ m ∈ pr.getD i [], m ∉ D ++ l := fun m hm => by
      rw [← hL.done (Good.preds hg hi2 m hm)]; exact hi3 m hm
    rcases List.mem_append.1 hi2 with hiD | hil
    · obtain ⟨D1, D2, rfl⟩ := List.append_of_mem hiD
      obtain ⟨c, hc⟩ := QRun.memf hrun i hiD
      have hck := hqu i hiD c hc
      have hg' : Good pr ck cs (D1 ++ i :: (D2 ++ l)) := by simpa using hg
      have hqu1 : ∀ q ∈ D1, ∀ c, cs[q]? = some c → c.k.quiet = true := fun q hq => hqu q (List.mem_append.2 (.inl hq))
      have hap := Good.apart hc hqu1 hg' (fun m hm hin => hpi m hm (by simp [hin]))
      obtain ⟨x, hx1, hx2⟩ := QRun.front hc (fun q hq cq hcq => (hap q hq cq hcq).1) hrun
      refine QStep.wp hT hx hc hck hx1 hr fun E' blk' rw' a' w' hE hr' hb => ?_
      have hset : ∀ j, j ∈ (D1 ++ D2) ++ l ↔ j ∈ (D1 ++ i :: D2) ++ l ∧ j ≠ i := fun j => by
        have hn1 : (D1 ++ i :: (D2 ++ l)).Nodup := by simpa using hnod
        have hi' : i ∉ D1 ∧ i ∉ D2 ++ l := by
          rw [List.nodup_append] at hn1
          obtain ⟨a1, a2, a3⟩ := hn1
          exact ⟨fun h => a3 i h i (by simp) rfl, (List.nodup_cons.1 a2).1⟩
        simp only [List.mem_append, List.mem_cons]
        simp only [List.mem_append, not_or] at hi'
        constructor
        · rintro ((h | h) | h)
          · exact ⟨.inl (.inl h), by rintro rfl; exact hi'.1 h⟩
          · exact ⟨.inl (.inr (.inr h)), by rintro rfl; exact hi'.2.1 h⟩
          · exact ⟨.inr h, by rintro rfl; exact hi'.2.2 h⟩
        · rintro ⟨(h | h | h) | h, hne⟩
          · exact .inl (.inl h)
          · exact absurd h hne
          · exact .inl (.inr h)
          · exact .inr h
      have hgd : Good pr ck cs ((D1 ++ D2) ++ l) := by
        have := Good.drop (D1 := D1) (D2 := D2 ++ l) (k := i) hqu1 hg'
        simpa using this
      have hlen : (D1 ++ D2).length = n := by simp at hn ⊢; omega
      have := ih (D1 ++ D2) hlen (sa.put c.dst x) hgd (hd.remove hpi hset) hx2 B E' F blk' rw' a' w' _ hr' (hL.set hset)
      exact wpAnyR_mono (fun e a w ho => ho.weaken hE hb fun _ _ h => h) _ _ _ _ this
    · cases l with
      | nil => cases hil
      | cons N l' =>
        obtain ⟨c, hc, hq, hN⟩ := h1 N l' rfl
        have hgs := Good.suffix hg
        have hiN : i = N := by
          rcases List.mem_cons.1 hil with h | h
          · exact h
          · obtain ⟨⟨c', k1, k2, k3, k4, k5⟩, _⟩ := hgs
            rw [hc] at k1; cases k1
            obtain ⟨m, hm1, hm2⟩ := k5 hq i h
            exact absurd (List.mem_append.2 (.inr hm2)) (hpi m hm1)
        subst hiN
        have hap := Good.apart hc hqu hg (fun m hm hin => hpi m hm (List.mem_append.2 (.inl hin)))
        have hck : ∀ q ∈ D, ∀ cq, cs[q]? = some cq → Apart cq c ∧ (cq.k.memk = true → q ∈ ck.getD i []) := fun q hq' cq hcq => by
          obtain ⟨j1, j2⟩ := hap q hq' cq hcq
          refine ⟨j1, fun hm => ?_⟩
          rcases j2 hq hm with h | h
          · exact h
          · exact absurd (List.mem_append.2 (.inl hq')) (Down.reach hd hlt hi1 hpi h)
        refine wpOpIn_mono (fun a' w' hh => ?_) (hN D sa hrun hck B E F blk rw a w hr)
        obtain ⟨u, E', blk', rw', hE, hr', hb, hf, hd'⟩ := hh
        have hset : ∀ j, j ∈ D ++ l' ↔ j ∈ D ++ i :: l' ∧ j ≠ i := fun j => by
          have hi' : i ∉ D ∧ i ∉ l' := by
            rw [List.nodup_append] at hnod
            obtain ⟨a1, a2, a3⟩ := hnod
            exact ⟨fun h => a3 i h i (by simp) rfl, (List.nodup_cons.1 a2).1⟩
          simp only [List.mem_append, List.mem_cons]
          constructor
          · rintro (h | h)
            · exact ⟨.inl h, by rintro rfl; exact hi'.1 h⟩
            · exact ⟨.inr (.inr h), by rintro rfl; exact hi'.2 h⟩
          · rintro ⟨h | h | h, hne⟩
            · exact .inl h
            · exact absurd h hne
            · exact .inr h
        have hgd : Good pr ck cs (D ++ l') := Good.drop hqu hg
        have hrun' : QRun cs R D (sa.upd c.dst u) (st.upd c.dst u) :=
          QRun.upd (fun q hq' cq hcq => (hck q hq' cq hcq).1) (fun q hq' cq hcq hm f hf' => hf q hq' ((hck q hq' cq hcq).2 hm) f hf') hrun
        have := hd' D (sa.upd c.dst u) hgd (hd.remove hpi hset) hrun' B E' F blk' rw' a' w' _ hr' (hL.set hset)
        have e : n + (i :: l').length = D.length + l'.length := by simp only [List.length_cons]; omega
        rw [e]
        exact wpAnyR_mono (fun e a w ho => ho.weaken hE hb fun _ _ h => h) _ _ _ _ this
end
end Go.Am
