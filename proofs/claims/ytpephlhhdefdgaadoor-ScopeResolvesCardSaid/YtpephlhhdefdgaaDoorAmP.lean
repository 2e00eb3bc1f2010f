/- Regions whose order is drawn: evaluation. -/
import Derived.Test.YtpephlhhdefdgaaDoorAmO
set_option linter.unusedSectionVars false
set_option linter.unusedVariables false
set_option linter.unusedSimpArgs false
namespace Go.Am
open Go.RowKit
variable [Inhabited LaidBox] {ro : Option Nat}

section
variable {P : Program} {T : TT} {o : Oper} {st : St}
theorem eff_ok (hT : TTOk P T) {esc : List Nat} {k : CK} (hk : compK T esc o = some k) {st1 : St} {tv : TV} {p : Prop} (h : eff k st = some (st1, tv, p)) (hp : p) : OpVal P o st st1 tv := by
  cases ho : o.op with
  | store t p' x =>
    simp only [compK, ho] at hk
    split at hk
    · rename_i j p1 x1 hj hp1 hx
      cases hk
      exact sound_sto ho (hT _ _ hj) rfl (cX_is hp1) (cX_is hx) h hp
    · cases hk
  | alloc e =>
    simp only [compK, ho] at hk
    split at hk
    · rename_i j hj
      split at hk
      · cases hk
        split at h
        · cases h
        · exact sound_al ho (hT _ _ hj) rfl h hp
      · cases hk
    · cases hk
  | box e x =>
    simp only [compK, ho] at hk
    split at hk
    · simp only [Option.map_eq_some_iff] at hk
      obtain ⟨x', hx, rfl⟩ := hk
      split at h
      · cases h
      · exact sound_bx ho (cX_is hx) h hp
    · cases hk
  | binOp op t x y t' =>
    exfalso
    simp only [compK, ho] at hk
    repeat' (split at hk)
    all_goals first | (cases hk; cases h; done) | (cases hk; done) | (simp only [Option.map_eq_some_iff] at hk; obtain ⟨_, _, rfl⟩ := hk; cases h; done)
  | unOp op t x =>
    exfalso
    cases op <;> simp only [compK, ho, Option.map_eq_some_iff, reduceCtorEq] at hk
    all_goals (obtain ⟨_, _, rfl⟩ := hk; cases h)
  | slice t x lo hi mx =>
    exfalso
    cases mx <;> simp only [compK, ho, reduceCtorEq] at hk
    repeat' (split at hk)
    all_goals first | (cases hk; cases h; done) | (cases hk; done) | (simp only [Option.map_eq_some_iff] at hk; obtain ⟨_, _, rfl⟩ := hk; cases h; done)
  | makeMap t r =>
    exfalso
    cases r <;> simp only [compK, ho, reduceCtorEq] at hk
    repeat' (split at hk)
    all_goals first | (cases hk; cases h; done) | (cases hk; done)
  | _ =>
    exfalso
    simp only [compK, ho, reduceCtorEq] at hk
    try (repeat' (split at hk))
    all_goals first | (cases hk; cases h; done) | (cases hk; done) | (simp only [Option.map_eq_some_iff] at hk; obtain ⟨_, _, rfl⟩ := hk; cases h; done)
end

/-! Loud operations see slots, and all memory. -/
structure Same (s s' : St) (l : List Nat) : Prop where
  agree : Agree s s' l
  loc : s'.loc = s.loc
  rows : s'.rows = s.rows
  M : s'.M = s.M
  defs : s'.defs = s.defs

theorem eff_congr {k : CK} {s s' s1 : St} {x : TV} {p : Prop} (h : Same s s' k.looks) (he : eff k s = some (s1, x, p)) :
    s1.tmps = s.tmps ∧ s1.defs = s.defs ∧ eff k s' = some ({ s' with loc := s1.loc, rows := s1.rows, M := s1.M }, x, p) := by
  obtain ⟨h1, h2, h3, h4, h5⟩ := h
  cases k with
  | sto n a b =>
    have e1 : s.get a = s'.get a := Agree.get (x := a) h1.left
    have e2 : s.get b = s'.get b := Agree.get (x := b) h1.right
    simp only [eff, e1, e2] at he
    simp only [eff, h2, h4]
    split at he
    · rename_i cs q hsc
      split at he
      · rename_i i off hp
        split at he
        · rename_i tvs hl
          cases he
          simp [hsc, hp, hl, h3, h4]
        · cases he
      · rename_i r off hp
        split at he
        · rename_i vs us hM hus
          cases he
          simp [hsc, hp, hM, hus, h2, h3]
        · cases he
      · cases he
    · cases he
  | al ty zero =>
    simp only [eff] at he ⊢
    cases he
    simp [h2, h3, h4]
  | bx ty b =>
    have e2 : s.get b = s'.get b := Agree.get (x := b) h1
    simp only [eff, e2] at he
    simp only [eff]
    split at he
    · rename_i cs q hsc
      cases he
      simp [hsc, h2, h3, h4]
    · cases he
  | _ => cases he

theorem effA_congr {k : CK} {s s' s1 : St} {x : TV} {p : Prop} (h : Same s s' k.looks) (he : effA k s = some (s1, x, p)) :
    s1.tmps = s.tmps ∧ s1.defs = s.defs ∧ effA k s' = some ({ s' with loc := s1.loc, rows := s1.rows, M := s1.M }, x, p) := by
  obtain ⟨h1, h2, h3, h4, h5⟩ := h
  cases k with
  | app e sz bytes a b =>
    have e1 : s.get a = s'.get a := Agree.get (x := a) h1.left
    have e2 : s.get b = s'.get b := Agree.get (x := b) h1.right
    simp only [effA, e1, e2] at he
    simp only [effA, h3, h4]
    split at he
    · rename_i own sz2 es2 q hrd
      split at he
      · rename_i i sz1 es hp
        split at he
        · rename_i e' sz' n hl
          cases he
          simp [hrd, hp, hl, h2, h4]
        · cases he
      · rename_i t sz1 es hp
        split at he
        · rename_i e' sz' n hM
          cases he
          simp [hrd, hp, hM, h2, h3]
        · cases he
      · rename_i sz1 es hp
        cases he
        refine ⟨rfl, rfl, ?_⟩
        rw [← h2, ← h3, ← h4]
      · cases he
    · cases he
  | mu m k x =>
    have e1 : s.get m = s'.get m := Agree.get (x := m) h1.left
    have e2 : s.get k = s'.get k := Agree.get (x := k) h1.right.left
    have e3 : s.get x = s'.get x := Agree.get (x := x) h1.right.right
    simp only [effA, e1, e2, e3] at he
    simp only [effA, h4]
    split at he
    · rename_i r p1 b p2 v p3 hm hk hx
      split at he
      · rename_i kvs hM
        cases he
        simp [hm, hk, hx, hM, h2, h3]
      · cases he
    · cases he
  | _ => cases he

def qval (c : COp) (st : St) : Option (TV × Prop) :=
  match c.grd with
  | none => pev c.k true st
  | some (d, want) => match gval st d want with
    | some g => match pev c.k g st with
      | some (y, p) => some (.opt g y, g = true → p)
      | none => none
    | none => none
theorem qval_step {c : COp} {st : St} {x : TV} {p : Prop} (h : qval c st = some (x, p)) (hp : p) : QStep c st x := by
  unfold qval at h
  unfold QStep
  cases hg : c.grd with
  | none => rw [hg] at h; exact ⟨p, h, hp⟩
  | some dw =>
    obtain ⟨d, want⟩ := dw
    rw [hg] at h
    simp only at h ⊢
    split at h
    · rename_i g hgv
      split at h
      · rename_i y q hpe
        cases h
        exact ⟨g, hgv, y, q, hpe, hp, rfl⟩
      · cases h
    · cases h

def qfact (c : COp) (x : TV) (st : St) : Prop :=
  match qval c st with
  | some (y, p) => y = x ∧ p
  | none => False
theorem qfact_step {c : COp} {st : St} {x : TV} (h : qfact c x st) : QStep c st x := by
  unfold qfact at h
  split at h
  · rename_i y p hq
    obtain ⟨rfl, hp⟩ := h
    exact qval_step hq hp
  · exact h.elim

def memB (l : List Nat) (q : Nat) : Bool := l.contains q
def facts : List (Nat × Fact) → List Nat → List (Option (List TV)) → Mem → Prop
  | [], _, _, _ => True
  | (q, f) :: R, chk, loc, M => (match memB chk q with | true => f loc M | false => True) ∧ facts R chk loc M
theorem facts_of {chk : List Nat} {loc : List (Option (List TV))} {M : Mem} : ∀ {R : List (Nat × Fact)}, facts R chk loc M → ∀ q, q ∈ chk → ∀ f, (q, f) ∈ R → f loc M
  | [], _, q, _, f, h => by cases h
  | (q0, f0) :: R, h, q, hq, f, hf => by
    obtain ⟨h1, h2⟩ := h
    rcases List.mem_cons.1 hf with h | h
    · have e1 : q = q0 := congrArg Prod.fst h
      have e2 : f = f0 := congrArg Prod.snd h
      subst e1; subst e2
      have hm : memB chk q = true := by simpa [memB] using hq
      rw [hm] at h1; exact h1
    · exact facts_of h2 q hq f h

def factOf (chk : List Nat) (c : COp) (x : TV) (st : St) : Fact :=
  match chk with
  | [] => fun _ _ => False
  | _ => fun loc M => qfact c x (st.mem loc M)

/-- What is known of a drawn region by its numbers. -/
def DOps (ro : Option Nat) (P : Program) (T : TT) (esc : List Nat) (cs : List COp) (pr ck : List (List Nat)) (Q : AExit → St → Prop) (R : List (Nat × Fact)) (l : List (Nat × COp × List Nat)) (st : St) : Prop :=
  ∀ ops, DCtx T esc ops cs pr → (∀ i, i < cs.length → ∀ m ∈ pr.getD i [], m < cs.length) → (∀ i c chk, (i, c, chk) ∈ l → cs[i]? = some c ∧ ck.getD i [] = chk) → DAny ro P ops cs pr ck Q R (l.map (·.1)) st

def evalD (ro : Option Nat) (P : Program) (T : TT) (esc : List Nat) (cs : List COp) (pr ck : List (List Nat)) (Q : AExit → St → Prop) : List (Nat × COp × List Nat) → List (Nat × Fact) → St → Prop
  | [], R, st => Q .normal st
  | (i, c, chk) :: l, R, st =>
    match c.k.quiet with
    | true => match qval c st with
      | some (x, p) => p ∧ evalD ro P T esc cs pr ck Q l ((i, factOf chk c x st) :: R) (st.put c.dst x)
      | none => DOps ro P T esc cs pr ck Q R ((i, c, chk) :: l) st
    | false => match c.grd with
      | some _ => DOps ro P T esc cs pr ck Q R ((i, c, chk) :: l) st
      | none => match eff c.k st with
        | some (s1, x, p) => p ∧ facts R chk s1.loc s1.M ∧ evalD ro P T esc cs pr ck Q l R (s1.put c.dst x)
        | none => match effA c.k st with
          | some (s1, x, p) => p ∧ facts R chk s1.loc s1.M ∧ evalD ro P T esc cs pr ck Q l R (s1.put c.dst x)
          | none => DOps ro P T esc cs pr ck Q R ((i, c, chk) :: l) st

section
variable {P : Program} {T : TT} {esc : List Nat} {cs : List COp} {pr ck : List (List Nat)} {Q : AExit → St → Prop} {st : St} {R : List (Nat × Fact)}

theorem QRun.same {c : COp} {D : List Nat} {sa : St} (hrun : QRun cs R D sa st) (hap : ∀ q ∈ D, ∀ cq, cs[q]? = some cq → Apart cq c) : Same st sa c.looks := by
  obtain ⟨h1, h2, h3, h4⟩ := hrun.frame
  exact ⟨(QRun.agree (fun q hq cq hcq d hd => (hap q hq cq hcq).looks d hd) hrun).symm, h1.symm, h2.symm, h3.symm, h4.symm⟩

/-- A loud operation with one outcome. -/
theorem DOps.val (hT : TTOk P T) {i : Nat} {c : COp} {chk : List Nat} {l : List (Nat × COp × List Nat)} (hq : c.k.quiet = false) (hg : c.grd = none) (hno : ∀ o, c.k ≠ .other o) {s1 : St} {x : TV} (hs1 : s1.tmps = st.tmps ∧ s1.defs = st.defs)
    (hv : ∀ sa, Same st sa c.looks → ∀ o, compK T esc o = some c.k → OpVal P o sa { sa with loc := s1.loc, rows := s1.rows, M := s1.M } x)
    (hf : facts R chk s1.loc s1.M) (h : DOps ro P T esc cs pr ck Q R l (s1.put c.dst x)) : DOps ro P T esc cs pr ck Q R ((i, c, chk) :: l) st := by
  intro ops hx hlt hl
  obtain ⟨hi, hck⟩ := hl i c chk (by simp)
  refine DAny.steps hT hx hlt (fun e => by simp at e) fun N l' e => ?_
  simp only [List.map_cons, List.cons.injEq] at e
  obtain ⟨rfl, rfl⟩ := e
  refine ⟨c, hi, hq, fun D sa hrun hap B E F blk rw a w hr => ?_⟩
  have hsame := QRun.same hrun fun q hq cq hcq => (hap q hq cq hcq).1
  obtain ⟨o, ho, hc⟩ := hx.get i c hi
  obtain ⟨k1, k2, k3⟩ := compOp_inv hc hno
  rw [hg] at k2
  unfold wpOpIn
  simp only [ho]
  rw [if_pos (by simp [Region.wanted, compG_none k2])]
  obtain ⟨v, w', E', blk', rw', hrun', hE, hb, hr', hvv⟩ := hv sa hsame o k3 B E F blk rw a w hr
  have hst : st.upd c.dst ⟨s1.loc, s1.rows, s1.M, x⟩ = s1.put c.dst x := by
    obtain ⟨e1, e2⟩ := hs1
    unfold St.upd
    congr 1
    cases s1; cases st; simp_all
  have hD : DAny ro P ops cs pr ck Q R (l.map (·.1)) (st.upd c.dst ⟨s1.loc, s1.rows, s1.M, x⟩) := by rw [hst]; exact h ops hx hlt fun i c chk hm => hl i c chk (List.mem_cons_of_mem _ hm)
  have hfin : ∀ a', Rel B E' F blk' rw' (sa.upd c.dst ⟨s1.loc, s1.rows, s1.M, x⟩) a' w' → ∃ u E'' blk'' rw'', E.le E'' ∧ Rel B E'' F blk'' rw'' (sa.upd c.dst u) a' w' ∧ Below B w w' ∧ (∀ q ∈ D, q ∈ ck.getD i [] → ∀ f, (q, f) ∈ R → f u.loc u.M) ∧ DAny ro P ops cs pr ck Q R (l.map (·.1)) (st.upd c.dst u) :=
    fun a' ha' => ⟨⟨s1.loc, s1.rows, s1.M, x⟩, E', blk', rw', hE, ha', hb, fun q hq' hqc f hfR => facts_of hf q (by rw [← hck]; exact hqc) f hfR, hD⟩
  rcases hrun' with hrun' | ⟨hrun', rfl⟩
  · refine uponIn_run hrun' (by simp) ?_
    exact hfin _ (by rw [k1]; exact hr'.put o.dst hvv)
  · refine uponIn_run hrun' (by simp) ?_
    exact hfin _ (by rw [k1]; exact hr'.put o.dst hvv)

theorem evalD_sound (hT : TTOk P T) : ∀ (l : List (Nat × COp × List Nat)) (R : List (Nat × Fact)) (st : St), evalD ro P T esc cs pr ck Q l R st → DOps ro P T esc cs pr ck Q R l st
  | [], R, st, h => fun ops hx hlt hl => DAny.steps hT hx hlt (fun _ => h) fun N l' e => by cases e
  | (i, c, chk) :: l, R, st, h => by
    unfold evalD at h
    split at h
    · rename_i hk
      split at h
      · rename_i x p hq
        obtain ⟨hp, h⟩ := h
        intro ops hx hlt hl
        obtain ⟨hi, hck⟩ := hl i c chk (by simp)
        refine DAny.quiet hi hk (qval_step hq hp) (f := factOf chk c x st) (fun _ loc M hf => ?_) (evalD_sound hT l _ _ h ops hx hlt fun i c chk hm => hl i c chk (List.mem_cons_of_mem _ hm))
        cases chk with
        | nil => exact hf.elim
        | cons a b => exact qfact_step hf
      · exact h
    · rename_i hk
      split at h
      · exact h
      · rename_i hg
        split at h
        · rename_i s1 x p he
          obtain ⟨hp, hf, h⟩ := h
          have hc0 := eff_congr (s := st) (s' := st) ⟨fun _ _ => rfl, rfl, rfl, rfl, rfl⟩ he
          refine DOps.val hT hk hg (by intro o e; rw [e] at he; cases he) ⟨hc0.1, hc0.2.1⟩ (fun sa hs o hko => ?_) hf (evalD_sound hT l _ _ h)
          have := eff_congr (s := st) (s' := sa) ⟨(by have := hs.agree; unfold COp.looks at this; exact this.left), hs.loc, hs.rows, hs.M, hs.defs⟩ he
          exact eff_ok hT hko this.2.2 hp
        · split at h
          · rename_i s1 x p he
            obtain ⟨hp, hf, h⟩ := h
            have hc0 := effA_congr (s := st) (s' := st) ⟨fun _ _ => rfl, rfl, rfl, rfl, rfl⟩ he
            refine DOps.val hT hk hg (by intro o e; rw [e] at he; cases he) ⟨hc0.1, hc0.2.1⟩ (fun sa hs o hko => ?_) hf (evalD_sound hT l _ _ h)
            have := effA_congr (s := st) (s' := sa) ⟨(by have := hs.agree; unfold COp.looks at this; exact this.left), hs.loc, hs.rows, hs.M, hs.defs⟩ he
            exact effA_ok hT hko this.2.2 hp
          · exact h

/-- The static part. -/
structure DrawOk (cs : List COp) (pr : List (List Nat)) (ck : List (List Nat)) (l : List (Nat × COp × List Nat)) : Prop where
  can : ∃ can : List Nat, l = can.map (fun i => (i, cs.getD i ⟨none, none, .recov⟩, ck.getD i [])) ∧ goodB pr ck cs can = true ∧ (List.range cs.length).all (fun i => can.contains i) = true
  lt : (pr.all fun p => p.all fun m => decide (m < cs.length)) = true

theorem AWp.draw {id : Nat} {ops : Array Oper} (hm : P.follows .mixedOrders = true) (hx : DCtx T esc ops cs pr) {l : List (Nat × COp × List Nat)} (hok : DrawOk cs pr ck l) (h : DOps ro P T esc cs pr ck Q [] l st) : AWp ro P (.region id ops true) Q st := by
  obtain ⟨⟨can, hl, hg, hall⟩, hlt⟩ := hok
  intro B E F blk rw a w hr
  have hgood := goodB_spec hg
  have hlt' : ∀ i, i < cs.length → ∀ m ∈ pr.getD i [], m < cs.length := by
    intro i hi m hm
    simp only [List.all_eq_true, decide_eq_true_eq] at hlt
    rcases Nat.lt_or_ge i pr.length with h' | h'
    · have : pr.getD i [] = pr[i] := by simp [List.getD_eq_getElem?_getD, List.getElem?_eq_getElem h']
      rw [this] at hm
      exact hlt _ (List.getElem_mem h') m hm
    · have : pr.getD i [] = [] := by simp [List.getD_eq_getElem?_getD, List.getElem?_eq_none h']
      rw [this] at hm; cases hm
  have hmap : l.map (·.1) = can := by
    rw [hl, List.map_map]
    exact List.map_id' can
  have hmem : ∀ i, i < cs.length ↔ i ∈ can := by
    intro i
    refine ⟨fun hi => ?_, fun hi => Good.lt hgood hi⟩
    simp only [List.all_eq_true, List.mem_range] at hall
    simpa using hall i hi
  refine wpIn_region_any hm ?_
  have hd := h ops hx hlt' (fun i c chk hin => by
    rw [hl, List.mem_map] at hin
    obtain ⟨j, hj, he⟩ := hin
    cases he
    have hji := (hmem i).2 hj
    exact ⟨by rw [List.getD_eq_getElem?_getD, List.getElem?_eq_getElem hji]; rfl, rfl⟩)
  rw [hmap] at hd
  have hr' : Rel B E F blk rw st a { w with drawn := w.drawn + 1 } := by
    obtain ⟨MM, hmm⟩ := hr.mem
    exact ⟨hr.tmps, hr.defs, MM, hmm.mono_env (hmm.sim.drewN rfl)⟩
  have := hd [] st (by simpa using hgood) (fun q hq i hi hqi => by simpa using (hmem i).1 hi) rfl B E F blk rw a { w with drawn := w.drawn + 1 } (Array.replicate ops.size false) hr' ⟨by simp [hx.size], fun i hi => by
    have hs : i < ops.size := by rw [hx.size]; exact hi
    simp [Array.getD_eq_getD_getElem?, hs]
    exact (hmem i).1 hi⟩
  have hlen : ([] : List Nat).length + can.length = ops.size := by
    rw [hx.size]
    simp only [List.length_nil, Nat.zero_add]
    refine Nat.le_antisymm ?_ ?_
    · have := List.Nodup.length_le_of_subset (Good.nodup hgood) (l₂ := List.range cs.length) fun i hi => by rw [List.mem_range]; exact (hmem i).2 hi
      simpa using this
    · have := List.Nodup.length_le_of_subset (List.nodup_range (n := cs.length)) (l₂ := can) fun i hi => (hmem i).1 (by simpa using hi)
      simpa using this
  rw [hlen] at this
  refine wpAnyR_mono (fun e a w' ho => ?_) _ _ _ _ this
  exact ho.weaken (Env.le.refl E) ⟨rfl, rfl, rfl, Nat.le_refl _, fun k hk => rfl⟩ fun _ _ h => h
end
end Go.Am
