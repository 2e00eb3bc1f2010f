/- Calls under guards, calls without effect. -/
import Derived.Test.YtpephlhhdefdgaaDoorAmL
set_option linter.unusedSectionVars false
set_option linter.unusedVariables false
set_option linter.unusedSimpArgs false
namespace Go.Am
open Go.RowKit
variable [Inhabited LaidBox] {ro : Option Nat}

/-- A contract without effect. -/
def Pure (P : Program) (f : FuncId) (args : List AV) (v : AV) : Prop := ∀ M, ACalls P f args M fun e M' => e = .ret v ∧ M' = M

section
variable {P : Program} {T : TT} {esc : List Nat} {Q : AExit → St → Prop} {st : St}

theorem AOps.pureg {ops : Array Oper} {i : Nat} {rest : List Nat} {o : Oper} {f : FuncId} {args : List AV} {v : AV} {g : Bool} (ho : ops[i]? = some o)
    (hg : ∀ B E F blk rw a w, Rel B E F blk rw st a w → Region.wanted o (yielded ops a.tmps) = g)
    (hc : g = true → CallIs P o st f args) (hp : g = true → Pure P f args v) {x : TV} (hx : (x = .v v ∧ g = true) ∨ x = .opt g (.v v))
    (h : AOps ro P ops rest Q (st.put o.dst x)) : AOps ro P ops (i :: rest) Q st := by
  intro B E F blk rw a w hr
  simp only [wpOpsIn, ho]
  have hw := hg B E F blk rw a w hr
  cases g with
  | false =>
    rw [if_neg (by rw [hw]; simp)]
    refine ⟨fun _ _ => trivial, ?_⟩
    obtain ⟨_, h0⟩ | rfl := hx
    · cases h0
    · exact h B E F blk rw _ w (hr.put o.dst ⟨fun e => by simp at e, fun _ => rfl⟩)
  | true =>
    rw [if_pos hw]
    obtain ⟨cargs, hrun, hargs⟩ := hc rfl B E F blk rw a w hr
    obtain ⟨MM, hm⟩ := hr.mem
    refine uponIn_run hrun (by simp) ⟨fun e => by simp at e, callsR ((hp rfl st.M B E MM w cargs hm.sub hm.sim hargs).mono ?_)⟩
    rintro e w' ⟨y, M', MM', E', ⟨hy, rfl⟩, hxe, hE, hsub, hfr, hs, hb⟩
    subst hy
    have hrel := Rel.called (a := a) hm hr.tmps hr.defs hE hsub hfr hs
    cases e with
    | returned c =>
      have hxv : RelV E' blk rw x c := by
        obtain ⟨rfl, _⟩ | rfl := hx
        · exact hxe
        · exact ⟨fun _ => hxe, fun e => by simp at e⟩
      exact wpOpsR_mono (fun e a' w'' ho => ho.weaken hE hb fun _ _ h => h) rest _ _ (h B E' F blk rw _ w' (hrel.put o.dst hxv))
    | panicked chain => exact hxe.elim
    | outgrown => exact hxe.elim

/-- The value of a call without effect. -/
def cval (grd : Option (Nat × Bool)) (st : St) (v : AV) : Option (Bool × TV) :=
  match grd with
  | none => some (true, .v v)
  | some (d, want) => match gval st d want with
    | some g => some (g, .opt g (.v v))
    | none => none

theorem COps.pure {d : Option Nat} {grd : Option (Nat × Bool)} {f : FuncId} {k : CK} {cs : List COp} (hbody : Has P f) {vs : List AV} {v : AV} {p : Prop} {g : Bool} {x : TV} (hgv : cval grd st v = some (g, x)) (hv : tgt k st = some (f, vs, p)) (hp : g = true → p)
    (hc : g = true → Pure P f vs v) (h : COps ro P T esc cs Q (st.put d x)) : COps ro P T esc ({ dst := d, grd := grd, k := k } :: cs) Q st := by
  intro ops idxs hcl
  obtain ⟨i, is, o, rfl, h1, h2, h3⟩ := hcl.cons
  obtain ⟨k1, k2, k3⟩ := compOp_inv h2 (by intro o' e; simp only at e; rw [e] at hv; cases hv)
  simp only at k1 k2 k3
  have hh := h ops is h3
  rw [k1] at hh
  unfold cval at hgv
  cases grd with
  | none =>
    cases hgv
    exact AOps.pureg h1 (fun B E F blk rw a w hr => by simp [Region.wanted, compG_none k2]) (fun e => callIs_tgt k3 hv (hp e) hbody) hc (.inl ⟨rfl, rfl⟩) hh
  | some dw =>
    obtain ⟨d0, want⟩ := dw
    simp only at hgv
    split at hgv
    · rename_i g' hg'
      cases hgv
      exact AOps.pureg h1 (gval_ok k2 hg') (fun e => callIs_tgt k3 hv (hp e) hbody) hc (.inr rfl) hh
    · cases hgv

/-- A call under a guard. -/
theorem COps.callg {d : Option Nat} {d0 : Nat} {want : Bool} {k : CK} {cs : List COp} (hno : ∀ o, k ≠ .other o) {g : Bool} (hgv : gval st d0 want = some g)
    (h1 : g = true → ∃ f vs p, Has P f ∧ tgt k st = some (f, vs, p) ∧ p ∧ ACalls P f vs st.M fun x M' => match x with
      | .ret v => COps ro P T esc cs Q ({ st with M := M' }.put d (.opt true (.v v)))
      | .panic v => Q (.panic v) { st with M := M' })
    (h2 : g = false → COps ro P T esc cs Q (st.put d (.opt false .junk))) : COps ro P T esc ({ dst := d, grd := some (d0, want), k := k } :: cs) Q st := by
  intro ops idxs hcl
  obtain ⟨i, is, o, rfl, e1, e2, e3⟩ := hcl.cons
  obtain ⟨k1, k2, k3⟩ := compOp_inv e2 hno
  simp only at k1 k2 k3
  intro B E F blk rw a w hr
  simp only [wpOpsIn, e1]
  have hw := gval_ok k2 hgv B E F blk rw a w hr
  cases g with
  | false =>
    rw [if_neg (by rw [hw]; simp)]
    refine ⟨fun _ _ => trivial, ?_⟩
    have := h2 rfl ops is e3
    rw [k1] at this
    exact this B E F blk rw _ w (hr.put o.dst ⟨fun e => by simp at e, fun _ => rfl⟩)
  | true =>
    rw [if_pos hw]
    obtain ⟨f, vs, p, hbody, hv, hp, hcall⟩ := h1 rfl
    obtain ⟨cargs, hrun, hargs⟩ := callIs_tgt k3 hv hp hbody B E F blk rw a w hr
    obtain ⟨MM, hm⟩ := hr.mem
    refine uponIn_run hrun (by simp) ⟨fun e => by simp at e, callsR ((hcall B E MM w cargs hm.sub hm.sim hargs).mono ?_)⟩
    rintro e w' ⟨x, M', MM', E', hR, hx, hE, hsub, hfr, hs, hb⟩
    have hrel := Rel.called (a := a) hm hr.tmps hr.defs hE hsub hfr hs
    cases e with
    | returned c =>
      cases x with
      | ret v =>
        have := hR ops is e3
        rw [k1] at this
        exact wpOpsR_mono (fun e a' w'' ho => ho.weaken hE hb fun _ _ h => h) _ _ _ (this B E' F blk rw _ w' (hrel.put o.dst ⟨fun _ => hx, fun e => by simp at e⟩))
      | panic v => exact hx.elim
    | panicked chain =>
      cases x with
      | ret v => exact hx.elim
      | panic v => exact ⟨.panic v, _, E', blk, rw, hR, hx, hE, hrel, hb⟩
    | outgrown => cases x <;> exact hx.elim

theorem cval_congr {grd : Option (Nat × Bool)} {s s' : St} {v : AV} (h : ∀ d w, grd = some (d, w) → s.tmps[d]? = s'.tmps[d]?) : cval grd s v = cval grd s' v := by
  cases grd with
  | none => rfl
  | some dw => obtain ⟨d, w⟩ := dw; simp only [cval]; rw [gval_congr (h d w rfl)]

/-- In a region whose order is drawn. -/
theorem DOps.pure {cs : List COp} {pr ck : List (List Nat)} {R : List (Nat × Fact)} (hT : TTOk P T) {i : Nat} {d : Option Nat} {grd : Option (Nat × Bool)} {f : FuncId} {k : CK} {chk : List Nat} {l : List (Nat × COp × List Nat)} (hbody : Has P f) {vs : List AV} {v : AV} {p : Prop} {g : Bool} {x : TV} (hkq : k.quiet = false) (hgv : cval grd st v = some (g, x)) (hv : tgt k st = some (f, vs, p)) (hp : g = true → p)
    (hc : g = true → Pure P f vs v) (hf : facts R chk st.loc st.M) (h : DOps ro P T esc cs pr ck Q R l (st.put d x)) : DOps ro P T esc cs pr ck Q R ((i, { dst := d, grd := grd, k := k }, chk) :: l) st := by
  intro ops hx hlt hl
  obtain ⟨hi, hck⟩ := hl i { dst := d, grd := grd, k := k } chk (by simp)
  refine DAny.steps hT hx hlt (fun e => by simp at e) fun N l' e => ?_
  simp only [List.map_cons, List.cons.injEq] at e
  obtain ⟨rfl, rfl⟩ := e
  refine ⟨_, hi, hkq, fun D sa hrun hap B E F blk rw a w hr => ?_⟩
  have hsame := QRun.same hrun fun q hq cq hcq => (hap q hq cq hcq).1
  obtain ⟨o, ho, hco⟩ := hx.get i _ hi
  obtain ⟨k1, k2, k3⟩ := compOp_inv hco (by intro o' e; simp only at e; rw [e] at hv; cases hv)
  simp only at k1 k2 k3
  have hag := hsame.agree
  unfold COp.looks at hag
  have hva : tgt k sa = some (f, vs, p) := by
    rw [← hv]
    exact (tgt_congr hag.left).symm
  have hgva : cval grd sa v = some (g, x) := by
    rw [← hgv]
    refine (cval_congr fun d w e => ?_).symm
    subst e
    exact hag.right d (by simp)
  have hfin : ∀ E' a' w', E.le E' → Below B w w' → Rel B E' F blk rw (sa.put d x) a' w' → ∃ u E'' blk'' rw'', E.le E'' ∧ Rel B E'' F blk'' rw'' (sa.upd d u) a' w' ∧ Below B w w' ∧ (∀ q ∈ D, q ∈ ck.getD i [] → ∀ f, (q, f) ∈ R → f u.loc u.M) ∧ DAny ro P ops cs pr ck Q R (l.map (·.1)) (st.upd d u) := by
    intro E' a' w' hE hb hrel
    refine ⟨⟨sa.loc, sa.rows, sa.M, x⟩, E', blk, rw, hE, hrel, hb, fun q hq' hqc f hfR => ?_, ?_⟩
    · have hf' := facts_of hf q (by rw [← hck]; exact hqc) f hfR
      have e1 : sa.loc = st.loc := hsame.loc
      have e2 : sa.M = st.M := hsame.M
      rw [← e1, ← e2] at hf'
      exact hf'
    · have h2 := h ops hx hlt fun i c chk hm => hl i c chk (List.mem_cons_of_mem _ hm)
      have e1 : sa.loc = st.loc := hsame.loc
      have e2 : sa.rows = st.rows := hsame.rows
      have e3 : sa.M = st.M := hsame.M
      simp only [St.upd, e1, e2, e3]
      exact h2
  have hw : Region.wanted o (yielded ops a.tmps) = g := by
    unfold cval at hgva
    cases grd with
    | none => cases hgva; simp [Region.wanted, compG_none k2]
    | some dw =>
      obtain ⟨d0, want⟩ := dw
      simp only at hgva
      split at hgva
      · rename_i g' hg'
        cases hgva
        exact gval_ok k2 hg' B E F blk rw a w hr
      · cases hgva
  have hxg : (x = .v v ∧ g = true) ∨ x = .opt g (.v v) := by
    unfold cval at hgva
    cases grd with
    | none => cases hgva; exact .inl ⟨rfl, rfl⟩
    | some dw =>
      obtain ⟨d0, want⟩ := dw
      simp only at hgva
      split at hgva
      · cases hgva; exact .inr rfl
      · cases hgva
  unfold wpOpIn
  simp only [ho]
  cases g with
  | false =>
    rw [if_neg (by rw [hw]; simp)]
    refine ⟨fun _ _ => trivial, ?_⟩
    obtain ⟨_, h0⟩ | rfl := hxg
    · cases h0
    · refine hfin E _ w (Env.le.refl E) (Below.refl B w) ?_
      rw [k1]
      exact hr.put o.dst ⟨fun e => by simp at e, fun _ => rfl⟩
  | true =>
    rw [if_pos hw]
    obtain ⟨cargs, hrun', hargs⟩ := callIs_tgt (st := sa) k3 hva (hp rfl) hbody B E F blk rw a w hr
    obtain ⟨MM, hm⟩ := hr.mem
    refine uponIn_run hrun' (by simp) ⟨fun e => by simp at e, callsR ((hc rfl sa.M B E MM w cargs hm.sub hm.sim hargs).mono ?_)⟩
    rintro e w' ⟨y, M', MM', E', ⟨hy, rfl⟩, hxe, hE, hsub, hfr, hs, hb⟩
    subst hy
    have hrel := Rel.called (a := a) hm hr.tmps hr.defs hE hsub hfr hs
    cases e with
    | returned c =>
      have hxv : RelV E' blk rw x c := by
        obtain ⟨rfl, _⟩ | rfl := hxg
        · exact hxe
        · exact ⟨fun _ => hxe, fun e => by simp at e⟩
      refine hfin E' _ w' hE hb ?_
      rw [k1]
      exact hrel.put o.dst hxv
    | panicked chain => exact hxe.elim
    | outgrown => exact hxe.elim
end
end Go.Am
