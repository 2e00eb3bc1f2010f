import Derived.Test.YticifcoffgoajaaDoorAm2
import Derived.Orders
import Derived.RangeFuncRecord
/- Regions whose order is drawn: one order is enough. -/
set_option linter.unusedSectionVars false
set_option linter.unusedVariables false
set_option linter.unusedSimpArgs false
namespace Go.Am
open Go.RowKit
variable [Inhabited LaidBox] {ro : Option Nat}

def Opd.looks : Opd → List Nat
  | .t i => [i]
  | _ => []
def oLooks : Option Opd → List Nat
  | some x => x.looks
  | none => []
def CK.looks : CK → List Nat
  | .mv x | .no x | .ng x | .ln _ x | .fl _ _ _ x | .fa _ x | .ld _ _ x | .nc x | .mi _ x | .ex x _ | .cv _ x | .cvs x | .nl _ _ x | .tas _ _ _ x => x.looks
  | .pick c a b => c.looks ++ (a.looks ++ b.looks)
  | .ar _ x y | .qr _ x y | .ic _ x y | .sc _ x y | .cat x y | .bc _ x y | .mn _ x y | .si x y | .ia _ x y | .iaa _ _ x y | .ai _ _ _ x y | .seq _ _ x y => x.looks ++ y.looks
  | .ss x lo hi | .sls _ x lo hi => x.looks ++ (oLooks lo ++ oLooks hi)
  | .mf _ a b => a.flatMap Opd.looks ++ b.flatMap Opd.looks
  | .bd _ ps => ps.flatMap fun p => p.2.2.looks
  | .bs _ _ ps => ps.flatMap Opd.looks
  | .sto _ p x => p.looks ++ x.looks
  | .bx _ x | .bxS _ x => x.looks
  | .iag _ _ i => i.looks
  | .app _ _ _ s x => s.looks ++ x.looks
  | .mks _ _ _ _ l c => l.looks ++ c.looks
  | .lk _ _ m k => m.looks ++ k.looks
  | .mu m k x => m.looks ++ (k.looks ++ x.looks)
  | .call _ xs => xs.flatMap Opd.looks
  | .callv f xs | .dfr f xs => f.looks ++ xs.flatMap Opd.looks
  | .pan x => x.looks
  | _ => []
def COp.looks (c : COp) : List Nat := c.k.looks ++ (match c.grd with | some (d, _) => [d] | none => [])
/-- Reads memory. -/
def CK.memk : CK → Bool
  | .ld _ _ _ | .lk _ _ _ _ => true
  | _ => false
/-- A value of slots and memory alone. -/
def CK.quiet : CK → Bool
  | .mv _ | .pick _ _ _ | .ar _ _ _ | .qr _ _ _ | .ic _ _ _ | .sc _ _ _ | .cat _ _ | .bc _ _ _ | .nl _ _ _ | .no _ | .ng _ | .si _ _ | .ln _ _ | .ss _ _ _ | .sls _ _ _ _ | .fl _ _ _ _ | .fa _ _ | .ia _ _ _ | .iaa _ _ _ _ | .iag _ _ _
  | .ld _ _ _ | .nc _ | .mi _ _ | .mf _ _ _ | .ex _ _ | .cv _ _ | .cvs _ | .bd _ _ | .bs _ _ _ | .mn _ _ _ | .tas _ _ _ _ | .lk _ _ _ _ => true
  | _ => false

section congr
variable {s s' : St}
def Agree (s s' : St) (l : List Nat) : Prop := ∀ t ∈ l, s.tmps[t]? = s'.tmps[t]?
theorem Agree.left {l m : List Nat} (h : Agree s s' (l ++ m)) : Agree s s' l := fun t ht => h t (List.mem_append.2 (.inl ht))
theorem Agree.right {l m : List Nat} (h : Agree s s' (l ++ m)) : Agree s s' m := fun t ht => h t (List.mem_append.2 (.inr ht))
theorem Agree.symm {l : List Nat} (h : Agree s s' l) : Agree s' s l := fun t ht => (h t ht).symm
theorem Agree.get {x : Opd} (h : Agree s s' x.looks) : s.get x = s'.get x := by
  cases x with
  | t i => simp only [St.get]; rw [h i (by simp [Opd.looks])]
  | _ => rfl
theorem Agree.flat {α : Type} {f : α → List Nat} {l : List α} (h : Agree s s' (l.flatMap f)) : ∀ x ∈ l, Agree s s' (f x) := fun x hx t ht => h t (List.mem_flatMap.2 ⟨x, hx, ht⟩)
theorem bound_congr {g : Bool} {d : Int} {x : Option Opd} (h : Agree s s' (oLooks x)) : bound g d s.get x = bound g d s'.get x := by
  cases x with
  | none => rfl
  | some x => simp only [bound]; rw [Agree.get (x := x) h]
theorem rdL_congr {g : Bool} : ∀ {xs : List Opd}, (∀ x ∈ xs, Agree s s' x.looks) → rdL g s.get xs = rdL g s'.get xs
  | [], _ => rfl
  | x :: xs, h => by
    simp only [rdL]
    rw [Agree.get (h x (by simp)), rdL_congr fun y hy => h y (by simp [hy])]
theorem fillA_congr {g : Bool} : ∀ {ps : List (Nat × Nat × Opd)} {zero : List AV}, (∀ p ∈ ps, Agree s s' p.2.2.looks) → fillA zero g s.get ps = fillA zero g s'.get ps
  | [], zero, _ => rfl
  | (off, n, x) :: ps, zero, h => by
    have e : s.get x = s'.get x := Agree.get (h (off, n, x) (by simp))
    have ih := fun z => fillA_congr (g := g) (zero := z) (ps := ps) fun p hp => h p (by simp [hp])
    simp only [fillA, e, ih]

theorem pev_congr {k : CK} {g : Bool} (h : Agree s s' k.looks) (hm : k.memk = true → s.loc = s'.loc ∧ s.M = s'.M) : pev k g s = pev k g s' := by
  cases k with
  | mv x => simp only [pev]; rw [Agree.get h]
  | pick c a b => simp only [pev]; rw [Agree.get (x := c) h.left, Agree.get (x := a) h.right.left, Agree.get (x := b) h.right.right]
  | ar op x y => simp only [pev]; rw [Agree.get (x := x) h.left, Agree.get (x := y) h.right]
  | qr op x y => simp only [pev]; rw [Agree.get (x := x) h.left, Agree.get (x := y) h.right]
  | ic op x y => simp only [pev]; rw [Agree.get (x := x) h.left, Agree.get (x := y) h.right]
  | sc op x y => simp only [pev]; rw [Agree.get (x := x) h.left, Agree.get (x := y) h.right]
  | cat x y => simp only [pev]; rw [Agree.get (x := x) h.left, Agree.get (x := y) h.right]
  | bc op x y => simp only [pev]; rw [Agree.get (x := x) h.left, Agree.get (x := y) h.right]
  | mn op x y => simp only [pev]; rw [Agree.get (x := x) h.left, Agree.get (x := y) h.right]
  | si x y => simp only [pev]; rw [Agree.get (x := x) h.left, Agree.get (x := y) h.right]
  | ia n x y => simp only [pev]; rw [Agree.get (x := x) h.left, Agree.get (x := y) h.right]
  | nl op k x => simp only [pev]; rw [Agree.get h]
  | no x => simp only [pev]; rw [Agree.get h]
  | ng x => simp only [pev]; rw [Agree.get h]
  | ln b x => cases b <;> (simp only [pev]; rw [Agree.get h])
  | ss x lo hi => simp only [pev]; rw [Agree.get (x := x) h.left, bound_congr h.right.left]; split <;> (try rfl); rw [bound_congr h.right.right]
  | sls n x lo hi => simp only [pev]; rw [Agree.get (x := x) h.left, bound_congr h.right.left]; split <;> (try rfl); rw [bound_congr h.right.right]
  | fl o n a x => simp only [pev]; rw [Agree.get h]
  | fa o x => simp only [pev]; rw [Agree.get h]
  | iaa len n x i => simp only [pev]; rw [Agree.get (x := i) h.right, Agree.get (x := x) h.left]
  | iag gl len i => simp only [pev]; rw [Agree.get h]
  | ld n a x => obtain ⟨h1, h2⟩ := hm rfl; simp only [pev]; rw [Agree.get h, h1, h2]
  | lk ok z m k => obtain ⟨h1, h2⟩ := hm rfl; simp only [pev]; rw [Agree.get (x := m) h.left, Agree.get (x := k) h.right, h2]
  | nc x => simp only [pev]; rw [Agree.get h]
  | mi t x => simp only [pev]; rw [Agree.get h]
  | mf fn a b => simp only [pev]; rw [rdL_congr h.left.flat, rdL_congr h.right.flat]
  | ex x i => simp only [pev]; rw [Agree.get h]
  | cv k x => simp only [pev]; rw [Agree.get h]
  | cvs x => simp only [pev]; rw [Agree.get h]
  | bd z ps => simp only [pev]; rw [fillA_congr h.flat]
  | bs e n ps => simp only [pev]; rw [rdL_congr h.flat]
  | tas ok t z x => simp only [pev]; rw [Agree.get h]
  | _ => rfl

theorem gval_congr {d : Nat} {want : Bool} (h : s.tmps[d]? = s'.tmps[d]?) : gval s d want = gval s' d want := by
  simp only [gval]; rw [h]
end congr

/-! Quiet operations, one behind the other. -/
def QStep (c : COp) (s : St) (x : TV) : Prop :=
  match c.grd with
  | none => ∃ p, pev c.k true s = some (x, p) ∧ p
  | some (d, want) => ∃ g, gval s d want = some g ∧ ∃ y p, pev c.k g s = some (y, p) ∧ (g = true → p) ∧ x = .opt g y

theorem QStep.congr {c : COp} {s s' : St} {x : TV} (h : Agree s s' c.looks) (hm : c.k.memk = true → s.loc = s'.loc ∧ s.M = s'.M) (hq : QStep c s x) : QStep c s' x := by
  unfold COp.looks at h
  unfold QStep at hq ⊢
  cases hg : c.grd with
  | none =>
    simp only [hg] at hq ⊢
    obtain ⟨p, h1, h2⟩ := hq
    exact ⟨p, by rw [← pev_congr h.left hm]; exact h1, h2⟩
  | some dw =>
    obtain ⟨d, want⟩ := dw
    simp only [hg] at hq h ⊢
    obtain ⟨g, h0, y, p, h1, h2⟩ := hq
    exact ⟨g, by rw [← gval_congr (h.right d (by simp))]; exact h0, y, p, by rw [← pev_congr h.left hm]; exact h1, h2⟩

def St.mem (s : St) (loc : List (Option (List TV))) (M : Mem) : St := { s with loc := loc, M := M }

abbrev Fact := List (Option (List TV)) → Mem → Prop
/-- A list of quiet operations, and what is known of those that read memory. -/
def QRun (cs : List COp) (R : List (Nat × Fact)) : List Nat → St → St → Prop
  | [], s, s' => s = s'
  | q :: D, s, s' => ∃ c x, cs[q]? = some c ∧ c.k.quiet = true ∧ QStep c s x ∧ (c.k.memk = true → ∃ f, (q, f) ∈ R ∧ ∀ loc M, f loc M → QStep c (s.mem loc M) x) ∧ QRun cs R D (s.put c.dst x) s'

theorem QRun.snoc {cs : List COp} {R : List (Nat × Fact)} : ∀ {D : List Nat} {s s1 : St} (h : QRun cs R D s s1) {q : Nat} {c : COp} {x : TV} (hc : cs[q]? = some c) (hk : c.k.quiet = true) (hq : QStep c s1 x) (hf : c.k.memk = true → ∃ f, (q, f) ∈ R ∧ ∀ loc M, f loc M → QStep c (s1.mem loc M) x), QRun cs R (D ++ [q]) s (s1.put c.dst x)
  | [], s, s1, h, q, c, x, hc, hk, hq, hf => by
    have h : s = s1 := h
    subst h
    exact ⟨c, x, hc, hk, hq, hf, rfl⟩
  | q0 :: D, s, s1, h, q, c, x, hc, hk, hq, hf => by
    obtain ⟨c0, x0, h1, h2, h3, h4, h5⟩ := h
    exact ⟨c0, x0, h1, h2, h3, h4, QRun.snoc h5 hc hk hq hf⟩
theorem QRun.more {cs : List COp} {R R' : List (Nat × Fact)} (hR : ∀ y ∈ R, y ∈ R') : ∀ {D : List Nat} {s s1 : St} (h : QRun cs R D s s1), QRun cs R' D s s1
  | [], s, s1, h => h
  | q0 :: D, s, s1, h => by
    obtain ⟨c0, x0, h1, h2, h3, h4, h5⟩ := h
    exact ⟨c0, x0, h1, h2, h3, fun e => let ⟨f, k1, k2⟩ := h4 e; ⟨f, hR _ k1, k2⟩, QRun.more hR h5⟩

/-- Apart: neither sees what the other writes. -/
def apart (a b : COp) : Bool :=
  (match a.dst with
   | some d => !(b.looks).contains d && b.dst != some d
   | none => true) &&
  (match b.dst with
   | some d => !(a.looks).contains d
   | none => true)
structure Apart (a b : COp) : Prop where
  looks : ∀ d, a.dst = some d → d ∉ b.looks
  dst : ∀ d, a.dst = some d → b.dst ≠ some d
  back : ∀ d, b.dst = some d → d ∉ a.looks
theorem apart_spec {a b : COp} (h : apart a b = true) : Apart a b := by
  unfold apart at h
  rw [Bool.and_eq_true] at h
  obtain ⟨h1, h2⟩ := h
  refine ⟨fun d hd => ?_, fun d hd => ?_, fun d hd => ?_⟩
  · simp only [hd, Bool.and_eq_true, Bool.not_eq_true', List.contains_eq_mem, decide_eq_false_iff_not] at h1; exact h1.1
  · simp only [hd, Bool.and_eq_true, bne_iff_ne, ne_eq] at h1; exact h1.2
  · simp only [hd, Bool.not_eq_true', List.contains_eq_mem, decide_eq_false_iff_not] at h2; exact h2

theorem St.put_agree (s : St) (d : Option Nat) (x : TV) (l : List Nat) (h : ∀ e, d = some e → e ∉ l) : Agree s (s.put d x) l := by
  intro t ht
  cases d with
  | none => rfl
  | some e =>
    have hne : e ≠ t := by rintro rfl; exact h e rfl ht
    simp [St.put, List.getElem?_set_ne hne]
theorem St.put_loc (s : St) (d : Option Nat) (x : TV) : (s.put d x).loc = s.loc := by cases d <;> rfl
theorem St.put_M (s : St) (d : Option Nat) (x : TV) : (s.put d x).M = s.M := by cases d <;> rfl
theorem St.put_rows (s : St) (d : Option Nat) (x : TV) : (s.put d x).rows = s.rows := by cases d <;> rfl
theorem St.put_defs (s : St) (d : Option Nat) (x : TV) : (s.put d x).defs = s.defs := by cases d <;> rfl
theorem St.put_put (s : St) (d e : Option Nat) (x y : TV) (h : ∀ i, d = some i → e ≠ some i) : (s.put d x).put e y = (s.put e y).put d x := by
  cases d with
  | none => rfl
  | some d =>
    cases e with
    | none => rfl
    | some e =>
      have hne : d ≠ e := by rintro rfl; exact h d rfl rfl
      simp only [St.put]
      rw [List.set_comm x y hne]

theorem QStep.put {c : COp} {s : St} {x : TV} {d : Option Nat} {y : TV} (h : QStep c s x) (hd : ∀ e, d = some e → e ∉ c.looks) : QStep c (s.put d y) x :=
  h.congr (St.put_agree s d y _ hd) fun _ => ⟨(St.put_loc s d y).symm, (St.put_M s d y).symm⟩
theorem QStep.unput {c : COp} {s : St} {x : TV} {d : Option Nat} {y : TV} (h : QStep c (s.put d y) x) (hd : ∀ e, d = some e → e ∉ c.looks) : QStep c s x :=
  h.congr (St.put_agree s d y _ hd).symm fun _ => ⟨St.put_loc s d y, St.put_M s d y⟩
theorem St.put_mem (s : St) (d : Option Nat) (y : TV) (loc : List (Option (List TV))) (M : Mem) : (s.put d y).mem loc M = (s.mem loc M).put d y := by cases d <;> rfl

/-- One of them first. -/
theorem QRun.front {cs : List COp} {R : List (Nat × Fact)} {k : Nat} {ck : COp} (hk : cs[k]? = some ck) : ∀ {D1 D2 : List Nat} {s s1 : St}, (∀ q ∈ D1, ∀ cq, cs[q]? = some cq → Apart cq ck) → QRun cs R (D1 ++ k :: D2) s s1 →
    ∃ x, QStep ck s x ∧ QRun cs R (D1 ++ D2) (s.put ck.dst x) s1
  | [], D2, s, s1, ha, h => by
    obtain ⟨c0, x0, h1, h2, h3, h4, h5⟩ := h
    rw [hk] at h1; cases h1
    exact ⟨x0, h3, h5⟩
  | q :: D1, D2, s, s1, ha, h => by
    obtain ⟨c0, x0, h1, h2, h3, h4, h5⟩ := h
    have hap := ha q (by simp) c0 h1
    obtain ⟨x, k1, k2⟩ := QRun.front hk (fun q' hq' => ha q' (by simp [hq'])) h5
    refine ⟨x, k1.unput hap.looks, c0, x0, h1, h2, h3.put hap.back, fun e => ?_, ?_⟩
    · obtain ⟨f, f1, f2⟩ := h4 e
      exact ⟨f, f1, fun loc M hf => by rw [St.put_mem]; exact (f2 loc M hf).put hap.back⟩
    · rw [St.put_put _ _ _ _ _ fun i hi e => hap.dst i e hi] 
      exact k2

/-- Only slots change. -/
theorem QRun.frame {cs : List COp} {R : List (Nat × Fact)} : ∀ {D : List Nat} {s s1 : St}, QRun cs R D s s1 → s1.loc = s.loc ∧ s1.rows = s.rows ∧ s1.M = s.M ∧ s1.defs = s.defs
  | [], s, s1, h => by have h : s = s1 := h; subst h; exact ⟨rfl, rfl, rfl, rfl⟩
  | q :: D, s, s1, h => by
    obtain ⟨c0, x0, h1, h2, h3, h4, h5⟩ := h
    obtain ⟨k1, k2, k3, k4⟩ := QRun.frame h5
    rw [St.put_loc] at k1; rw [St.put_rows] at k2; rw [St.put_M] at k3; rw [St.put_defs] at k4
    exact ⟨k1, k2, k3, k4⟩
theorem QRun.agree {cs : List COp} {R : List (Nat × Fact)} {l : List Nat} : ∀ {D : List Nat} {s s1 : St}, (∀ q ∈ D, ∀ cq, cs[q]? = some cq → ∀ d, cq.dst = some d → d ∉ l) → QRun cs R D s s1 → Agree s s1 l
  | [], s, s1, ha, h => by have h : s = s1 := h; subst h; exact fun _ _ => rfl
  | q :: D, s, s1, ha, h => by
    obtain ⟨c0, x0, h1, h2, h3, h4, h5⟩ := h
    have k := QRun.agree (fun q' hq' => ha q' (by simp [hq'])) h5
    have k0 := St.put_agree s c0.dst x0 l (ha q (by simp) c0 h1)
    exact fun t ht => (k0 t ht).trans (k t ht)

/-- What a loud operation does. -/
structure Upd where
  loc : List (Option (List TV))
  rows : List (TypeId × Nat × Nat)
  M : Mem
  v : TV
def St.upd (s : St) (d : Option Nat) (u : Upd) : St := ({ s with loc := u.loc, rows := u.rows, M := u.M } : St).put d u.v

theorem St.upd_put (s : St) (d e : Option Nat) (u : Upd) (y : TV) (h : ∀ i, d = some i → e ≠ some i) : (s.put e y).upd d u = (s.upd d u).put e y := by
  simp only [St.upd]
  have : ({ s.put e y with loc := u.loc, rows := u.rows, M := u.M } : St) = ({ s with loc := u.loc, rows := u.rows, M := u.M } : St).put e y := by cases e <;> rfl
  rw [this, St.put_put]
  intro i hi hd
  exact h i hd hi

/-- The others behind a loud one. -/
theorem QRun.upd {cs : List COp} {R : List (Nat × Fact)} {c : COp} {u : Upd} : ∀ {D : List Nat} {s s1 : St}, (∀ q ∈ D, ∀ cq, cs[q]? = some cq → Apart cq c) → (∀ q ∈ D, ∀ cq, cs[q]? = some cq → cq.k.memk = true → ∀ f, (q, f) ∈ R → f u.loc u.M) → QRun cs R D s s1 → QRun cs R D (s.upd c.dst u) (s1.upd c.dst u)
  | [], s, s1, ha, hf, h => by have h : s = s1 := h; subst h; rfl
  | q :: D, s, s1, ha, hf, h => by
    obtain ⟨c0, x0, h1, h2, h3, h4, h5⟩ := h
    have hap := ha q (by simp) c0 h1
    have ih := QRun.upd (fun q' hq' => ha q' (by simp [hq'])) (fun q' hq' => hf q' (by simp [hq'])) h5
    rw [St.upd_put _ _ _ _ _ fun i hi e => hap.dst i e hi] at ih
    have hmem : ∀ {x : TV}, QStep c0 (s.mem u.loc u.M) x → QStep c0 (s.upd c.dst u) x := by
      intro x hx
      have h1 : QStep c0 ({ s with loc := u.loc, rows := u.rows, M := u.M } : St) x := QStep.congr (s := s.mem u.loc u.M) (fun _ _ => rfl) (fun _ => ⟨rfl, rfl⟩) hx
      exact h1.put hap.back
    have hbase : QStep c0 (s.mem u.loc u.M) x0 := by
      cases hmk : c0.k.memk with
      | false => exact QStep.congr (s := s) (s' := s.mem u.loc u.M) (fun _ _ => rfl) (fun e => by rw [hmk] at e; cases e) h3
      | true =>
        obtain ⟨f, f1, f2⟩ := h4 hmk
        exact f2 _ _ (hf q (by simp) c0 h1 hmk f f1)
    refine ⟨c0, x0, h1, h2, hmem hbase, fun e => ?_, ih⟩
    obtain ⟨f, f1, f2⟩ := h4 e
    refine ⟨f, f1, fun loc M hh => ?_⟩
    have h2 := (f2 loc M hh)
    have h3 : QStep c0 (({ s with loc := u.loc, rows := u.rows, M := u.M } : St).mem loc M) x0 := QStep.congr (s := s.mem loc M) (fun _ _ => rfl) (fun _ => ⟨rfl, rfl⟩) h2
    simp only [St.upd]
    rw [St.put_mem]
    exact h3.put hap.back
end Go.Am
/- Regions whose order is drawn: the rule. -/
set_option linter.unusedSectionVars false
set_option linter.unusedVariables false
set_option linter.unusedSimpArgs false
namespace Go.Am
open Go.RowKit
variable [Inhabited LaidBox] {ro : Option Nat}

/-! What is resolved of an operation. -/
theorem compOp_inv {T : TT} {esc : List Nat} {ops : Array Oper} {o : Oper} {c : COp} (h : compOp T esc ops o = c) (hk : ∀ o, c.k ≠ .other o) : c.dst = o.dst ∧ compG ops o = some c.grd ∧ compK T esc o = some c.k := by
  unfold compOp at h
  split at h
  · rename_i g hg
    subst h
    refine ⟨rfl, hg, ?_⟩
    simp only at hk
    cases hc : compK T esc o with
    | none => exact absurd (by simp [hc]) (hk o)
    | some k => simp
  · subst h
    exact absurd rfl (hk o)
theorem compG_none {ops : Array Oper} {o : Oper} (h : compG ops o = some none) : o.guard = none := by
  unfold compG at h
  split at h
  · assumption
  · split at h <;> simp at h

theorem wpAnyR_mono {P : Program} {md : Region.Mode} {ops : Array Oper} {Q Q' : Exit → Act → World → Prop} (hQ : ∀ e a w, Q e a w → Q' e a w) : ∀ (n : Nat) (listed : Array Bool) (a : Act) (w : World), wpAnyIn (wf ro) 0 P md ops Q n listed a w → wpAnyIn (wf ro) 0 P md ops Q' n listed a w
  | 0, listed, a, w, h => ⟨h.1, hQ _ _ _ h.2⟩
  | n + 1, listed, a, w, h => by
    refine ⟨fun e => hQ _ _ _ (h.1 e), fun i hi => ?_⟩
    have := h.2 i hi
    unfold wpOpIn at this ⊢
    cases ho : ops[i]? with
    | none => simp only [ho] at this ⊢; exact wpAnyR_mono hQ n _ _ _ this
    | some o =>
      simp only [ho] at this ⊢
      split
      · rename_i hw
        rw [if_pos hw] at this
        exact Oper.wpR_mono (fun a w hh => wpAnyR_mono hQ n _ a w hh) hQ this
      · rename_i hw
        rw [if_neg hw] at this
        exact ⟨this.1, wpAnyR_mono hQ n _ _ _ this.2⟩

/-- Reached through what must stand before. -/
def reach (pr : List (List Nat)) : Nat → Nat → Nat → Bool
  | 0, _, _ => false
  | n + 1, q, k => (pr.getD k []).any fun m => m == q || reach pr n q m

/-- The order of a list, and who is apart from whom. -/
def Good (pr : List (List Nat)) (ck : List (List Nat)) (cs : List COp) : List Nat → Prop
  | [] => True
  | i :: rem => (∃ c, cs[i]? = some c ∧ i < pr.length ∧ (∀ m ∈ pr.getD i [], m < cs.length ∧ m ∉ i :: rem) ∧
      (c.k.quiet = true → ∀ k ∈ rem, ∀ c', cs[k]? = some c' → (i ∈ pr.getD k [] ∨ Apart c c') ∧ (c'.k.quiet = false → c.k.memk = true → i ∈ ck.getD k [] ∨ reach pr cs.length i k = true)) ∧
      (c.k.quiet = false → ∀ k ∈ rem, ∃ m ∈ pr.getD k [], m ∈ i :: rem)) ∧ i ∉ rem ∧ Good pr ck cs rem

def goodB (pr : List (List Nat)) (ck : List (List Nat)) (cs : List COp) : List Nat → Bool
  | [] => true
  | i :: rem => (match cs[i]? with
    | some c => (decide (i < pr.length) && (pr.getD i []).all (fun m => decide (m < cs.length) && !(i :: rem).contains m)) &&
      (match c.k.quiet with
       | true => rem.all fun k => match cs[k]? with
         | some c' => ((pr.getD k []).contains i || apart c c') && (c'.k.quiet || (!c.k.memk || ((ck.getD k []).contains i || reach pr cs.length i k)))
         | none => true
       | false => rem.all fun k => (pr.getD k []).any fun m => (i :: rem).contains m)
    | none => false) && (!rem.contains i && goodB pr ck cs rem)

theorem goodB_spec {pr ck : List (List Nat)} {cs : List COp} : ∀ {l : List Nat}, goodB pr ck cs l = true → Good pr ck cs l
  | [], _ => trivial
  | i :: rem, h => by
    unfold goodB at h
    rw [Bool.and_eq_true] at h
    obtain ⟨h1, h2⟩ := h
    rw [Bool.and_eq_true] at h2
    refine ⟨?_, ?_, goodB_spec h2.2⟩
    · cases hc : cs[i]? with
      | none => rw [hc] at h1; cases h1
      | some c =>
        rw [hc] at h1
        simp only [Bool.and_eq_true, decide_eq_true_eq, List.all_eq_true] at h1
        obtain ⟨⟨h3, h4⟩, h5⟩ := h1
        refine ⟨c, rfl, h3, fun m hm => ?_, fun hq => ?_, fun hq => ?_⟩
        · have := h4 m hm
          refine ⟨this.1, ?_⟩
          have h := this.2
          simpa using h
        · rw [hq] at h5
          simp only [List.all_eq_true] at h5
          intro k hk c' hc'
          have := h5 k hk
          rw [hc'] at this
          simp only [Bool.and_eq_true, Bool.or_eq_true] at this
          refine ⟨?_, fun hq' hm => ?_⟩
          · rcases this.1 with h | h
            · exact .inl (by simpa using h)
            · exact .inr (apart_spec h)
          · rcases this.2 with h | h | h | h
            · rw [hq'] at h; cases h
            · rw [hm] at h; cases h
            · exact .inl (by simpa using h)
            · exact .inr h
        · rw [hq] at h5
          simp only [List.all_eq_true, List.any_eq_true] at h5
          intro k hk
          obtain ⟨m, hm1, hm2⟩ := h5 k hk
          exact ⟨m, hm1, by simpa using hm2⟩
    · have := h2.1
      simpa using this

structure DCtx (T : TT) (esc : List Nat) (ops : Array Oper) (cs : List COp) (pr : List (List Nat)) : Prop where
  size : ops.size = cs.length
  get : ∀ (i : Nat) c, cs[i]? = some c → ∃ o, ops[i]? = some o ∧ compOp T esc ops o = c
  pr : ∀ (i : Nat) o, ops[i]? = some o → pr.getD i [] = (o.after.toList.filter (Region.binds .any)).map (·.on)

structure Listed (n : Nat) (listed : Array Bool) (L : List Nat) : Prop where
  size : listed.size = n
  iff : ∀ i, i < n → (listed.getD i true = false ↔ i ∈ L)

theorem Listed.done {n : Nat} {listed : Array Bool} {L : List Nat} (h : Listed n listed L) {i : Nat} (hi : i < n) : listed.getD i false = true ↔ i ∉ L := by
  rw [← h.iff i hi]
  have hs : i < listed.size := by rw [h.size]; exact hi
  simp [Array.getD_eq_getD_getElem?, hs]

theorem Listed.set {n : Nat} {listed : Array Bool} {L L' : List Nat} (h : Listed n listed L) {i : Nat} (hL : ∀ j, j ∈ L' ↔ j ∈ L ∧ j ≠ i) : Listed n (listed.setIfInBounds i true) L' := by
  refine ⟨by simp [h.size], fun j hj => ?_⟩
  rw [hL]
  by_cases e : j = i
  · subst e
    have hs : j < listed.size := by rw [h.size]; exact hj
    simp [Array.getD_eq_getD_getElem?, hs]
  · rw [← h.iff j hj]
    have : (listed.setIfInBounds i true)[j]? = listed[j]? := by rw [Array.getElem?_setIfInBounds]; simp [Ne.symm e]
    simp [Array.getD_eq_getD_getElem?, this, e]

section
variable {P : Program} {T : TT} {esc : List Nat} {ops : Array Oper} {cs : List COp} {pr ck : List (List Nat)}

theorem DCtx.mem_ready (hx : DCtx T esc ops cs pr) {listed : Array Bool} {L : List Nat} (hL : Listed cs.length listed L) {i : Nat} : i ∈ Region.ready .any ops listed ↔ i < cs.length ∧ i ∈ L ∧ ∀ m ∈ pr.getD i [], listed.getD m false = true := by
  unfold Region.ready
  rw [List.mem_filter, List.mem_range, hx.size]
  constructor
  · rintro ⟨h1, h2⟩
    rw [Bool.and_eq_true] at h2
    obtain ⟨h2, h3⟩ := h2
    have h2' : listed.getD i true = false := by simpa using h2
    refine ⟨h1, (hL.iff i h1).1 h2', ?_⟩
    have hlt : i < ops.size := by rw [hx.size]; exact h1
    have ho : ops[i]? = some ops[i] := Array.getElem?_eq_getElem hlt
    rw [ho] at h3
    simp only [Option.map_some, Option.getD_some, Array.all_eq_true_iff_forall_mem] at h3
    rw [hx.pr i _ ho]
    intro m hm
    rw [List.mem_map] at hm
    obtain ⟨e, he, rfl⟩ := hm
    rw [List.mem_filter] at he
    have := h3 e (by simpa using he.1)
    rw [Bool.or_eq_true] at this
    rcases this with h | h
    · rw [he.2] at h; cases h
    · exact h
  · rintro ⟨h1, h2, h3⟩
    refine ⟨h1, ?_⟩
    rw [Bool.and_eq_true]
    refine ⟨by simpa using (hL.iff i h1).2 h2, ?_⟩
    have hlt : i < ops.size := by rw [hx.size]; exact h1
    have ho : ops[i]? = some ops[i] := Array.getElem?_eq_getElem hlt
    rw [ho]
    simp only [Option.map_some, Option.getD_some, Array.all_eq_true_iff_forall_mem]
    intro e he
    rw [Bool.or_eq_true]
    cases hb : Region.binds .any e with
    | false => exact .inl rfl
    | true =>
      refine .inr (h3 e.on ?_)
      rw [hx.pr i _ ho, List.mem_map]
      exact ⟨e, by rw [List.mem_filter]; exact ⟨by simpa using he, hb⟩, rfl⟩

/-- What is done is closed. -/
def Down (n : Nat) (pr : List (List Nat)) (L : List Nat) : Prop := ∀ q ∈ L, ∀ i, i < n → q ∈ pr.getD i [] → i ∈ L

theorem Down.remove {n : Nat} {L L' : List Nat} (h : Down n pr L) {k : Nat} (hk : ∀ m ∈ pr.getD k [], m ∉ L) (hL : ∀ j, j ∈ L' ↔ j ∈ L ∧ j ≠ k) : Down n pr L' := by
  intro q hq i hi hqi
  rw [hL] at hq ⊢
  refine ⟨h q hq.1 i hi hqi, ?_⟩
  rintro rfl
  exact hk q hqi hq.1

theorem Down.reach {L : List Nat} {n : Nat} (h : Down n pr L) (hpr : ∀ i, i < n → ∀ m ∈ pr.getD i [], m < n) : ∀ {f q k : Nat}, k < n → (∀ m ∈ pr.getD k [], m ∉ L) → reach pr f q k = true → q ∉ L
  | 0, q, k, _, _, e => by cases e
  | f + 1, q, k, hk, hm, e => by
    unfold Am.reach at e
    rw [List.any_eq_true] at e
    obtain ⟨m, hm1, hm2⟩ := e
    rw [Bool.or_eq_true] at hm2
    rcases hm2 with h1 | h1
    · have : m = q := by simpa using h1
      subst this; exact hm m hm1
    · have hmn := hpr k hk m hm1
      refine Down.reach h hpr hmn (fun m' hm' hin => ?_) h1
      exact hm m hm1 (h m' hin m hmn hm')

theorem Good.suffix : ∀ {D l : List Nat}, Good pr ck cs (D ++ l) → Good pr ck cs l
  | [], _, h => h
  | _ :: D, _, h => Good.suffix (D := D) h.2.2
theorem Good.drop {k : Nat} : ∀ {D1 D2 : List Nat}, (∀ q ∈ D1, ∀ c, cs[q]? = some c → c.k.quiet = true) → Good pr ck cs (D1 ++ k :: D2) → Good pr ck cs (D1 ++ D2)
  | [], D2, _, h => h.2.2
  | i :: D1, D2, hq, h => by
    obtain ⟨⟨c, h1, h2, h3, h4, h5⟩, h6, h7⟩ := h
    have hsub : ∀ x, x ∈ D1 ++ D2 → x ∈ D1 ++ k :: D2 := fun x hx => by
      rcases List.mem_append.1 hx with h | h
      · exact List.mem_append.2 (.inl h)
      · exact List.mem_append.2 (.inr (List.mem_cons_of_mem _ h))
    refine ⟨⟨c, h1, h2, fun m hm => ⟨(h3 m hm).1, fun hin => ?_⟩, fun e k' hk' => h4 e k' (hsub k' hk'), fun e => ?_⟩, fun hin => h6 (hsub i hin), Good.drop (fun q hqm => hq q (List.mem_cons_of_mem _ hqm)) h7⟩
    · rcases List.mem_cons.1 hin with h | h
      · exact (h3 m hm).2 (by rw [h]; exact List.mem_cons_self)
      · exact (h3 m hm).2 (List.mem_cons_of_mem _ (hsub m h))
    · rw [hq i (by simp) c h1] at e; cases e
theorem Good.apart {k : Nat} {c' : COp} (hk : cs[k]? = some c') : ∀ {D1 D2 : List Nat}, (∀ q ∈ D1, ∀ c, cs[q]? = some c → c.k.quiet = true) → Good pr ck cs (D1 ++ k :: D2) → (∀ m ∈ pr.getD k [], m ∉ D1) →
    ∀ q ∈ D1, ∀ cq, cs[q]? = some cq → Apart cq c' ∧ (c'.k.quiet = false → cq.k.memk = true → q ∈ ck.getD k [] ∨ Am.reach pr cs.length q k = true)
  | [], D2, _, h, _, q, hq, _, _ => by cases hq
  | i :: D1, D2, hqu, h, hp, q, hq, cq, hcq => by
    obtain ⟨⟨c, h1, h2, h3, h4, h5⟩, h6, h7⟩ := h
    rcases List.mem_cons.1 hq with rfl | hq'
    · rw [hcq] at h1; cases h1
      have := h4 (hqu q (by simp) cq hcq) k (by simp) c' hk
      refine ⟨?_, this.2⟩
      rcases this.1 with h | h
      · exact absurd List.mem_cons_self (hp q h)
      · exact h
    · exact Good.apart hk (fun q hqm => hqu q (List.mem_cons_of_mem _ hqm)) h7 (fun m hm hin => hp m hm (List.mem_cons_of_mem _ hin)) q hq' cq hcq
theorem Good.preds {i : Nat} : ∀ {L : List Nat}, Good pr ck cs L → i ∈ L → ∀ m ∈ pr.getD i [], m < cs.length
  | [], _, h, _, _ => by cases h
  | j :: L, h, hi, m, hm => by
    rcases List.mem_cons.1 hi with rfl | hi'
    · exact (h.1.choose_spec.2.2.1 m hm).1
    · exact Good.preds h.2.2 hi' m hm
theorem Good.lt {i : Nat} : ∀ {L : List Nat}, Good pr ck cs L → i ∈ L → i < cs.length
  | [], _, h => by cases h
  | j :: L, h, hi => by
    rcases List.mem_cons.1 hi with rfl | hi'
    · obtain ⟨⟨c, h1, _⟩, _⟩ := h
      rcases Nat.lt_or_ge i cs.length with h' | h'
      · exact h'
      · rw [List.getElem?_eq_none h'] at h1; cases h1
    · exact Good.lt h.2.2 hi'
theorem Good.nodup : ∀ {L : List Nat}, Good pr ck cs L → L.Nodup
  | [], _ => List.nodup_nil
  | j :: L, h => List.nodup_cons.2 ⟨h.2.1, Good.nodup h.2.2⟩

/-- A quiet operation, carried out. -/
theorem QStep.wp (hT : TTOk P T) (hx : DCtx T esc ops cs pr) {i : Nat} {c : COp} (hi : cs[i]? = some c) (hk : c.k.quiet = true) {s : St} {x : TV} (hq : QStep c s x) {B : Nat} {E : Env} {F : Mem} {blk rw : List Nat} {a : Act} {w : World} (hr : Rel B E F blk rw s a w) {Q : Exit → Act → World → Prop} {K : Act → World → Prop}
    (h : ∀ E' blk' rw' a' w', E.le E' → Rel B E' F blk' rw' (s.put c.dst x) a' w' → Below B w w' → K a' w') : wpOpIn (wf ro) 0 P ops Q i K a w := by
  obtain ⟨o, ho, hc⟩ := hx.get i c hi
  obtain ⟨k1, k2, k3⟩ := compOp_inv hc (by intro o' e; rw [e] at hk; cases hk)
  unfold wpOpIn
  simp only [ho]
  unfold QStep at hq
  cases hg : c.grd with
  | none =>
    rw [hg] at hq k2
    obtain ⟨p, h1, h2⟩ := hq
    rw [if_pos (by simp [Region.wanted, compG_none k2])]
    obtain ⟨v, w', E', blk', rw', hrun, hE, hb, hr', hv⟩ := pev_ok hT k3 h1 h2 B E F blk rw a w hr
    rcases hrun with hrun | ⟨hrun, rfl⟩
    · refine uponIn_run hrun (by simp) ?_
      exact h E' blk' rw' _ w' hE (by rw [k1]; exact hr'.put o.dst hv) hb
    · refine uponIn_run hrun (by simp) ?_
      exact h E' blk' rw' _ w' hE (by rw [k1]; exact hr'.put o.dst hv) hb
  | some dw =>
    obtain ⟨d, want⟩ := dw
    rw [hg] at hq k2
    obtain ⟨g, h0, y, p, h1, h2, rfl⟩ := hq
    have hw := gval_ok k2 h0 B E F blk rw a w hr
    cases g with
    | false =>
      rw [if_neg (by rw [hw]; simp)]
      refine ⟨fun _ _ => trivial, ?_⟩
      exact h E blk rw _ w (Env.le.refl E) (by rw [k1]; exact hr.put o.dst ⟨fun e => by simp at e, fun _ => rfl⟩) (Below.refl B w)
    | true =>
      rw [if_pos hw]
      obtain ⟨v, w', E', blk', rw', hrun, hE, hb, hr', hv⟩ := pev_ok hT k3 h1 (h2 rfl) B E F blk rw a w hr
      rcases hrun with hrun | ⟨hrun, rfl⟩
      · refine uponIn_run hrun (by simp) ?_
        exact h E' blk' rw' _ w' hE (by rw [k1]; exact hr'.put o.dst ⟨fun _ => hv, fun e => by simp at e⟩) hb
      · refine uponIn_run hrun (by simp) ?_
        exact h E' blk' rw' _ w' hE (by rw [k1]; exact hr'.put o.dst ⟨fun _ => hv, fun e => by simp at e⟩) hb
end

/-- From whatever has been held back. -/
def DAny (ro : Option Nat) (P : Program) (ops : Array Oper) (cs : List COp) (pr ck : List (List Nat)) (Q : AExit → St → Prop) (R : List (Nat × Fact)) (l : List Nat) (st : St) : Prop :=
  ∀ D sa, Good pr ck cs (D ++ l) → Down cs.length pr (D ++ l) → QRun cs R D sa st → ∀ B E F blk rw a w listed, Rel B E F blk rw sa a w → Listed cs.length listed (D ++ l) → wpAnyIn (wf ro) 0 P .any ops (Out B E F w Q) (D.length + l.length) listed a w

section
variable {P : Program} {T : TT} {esc : List Nat} {ops : Array Oper} {cs : List COp} {pr ck : List (List Nat)} {Q : AExit → St → Prop} {st : St} {R : List (Nat × Fact)}

theorem QRun.quiet : ∀ {D : List Nat} {s s1 : St}, QRun cs R D s s1 → ∀ q ∈ D, ∀ c, cs[q]? = some c → c.k.quiet = true
  | [], _, _, _, q, hq, _, _ => by cases hq
  | q0 :: D, s, s1, h, q, hq, c, hc => by
    obtain ⟨c0, x0, h1, h2, h3, h4, h5⟩ := h
    rcases List.mem_cons.1 hq with rfl | hq'
    · rw [h1] at hc; cases hc; exact h2
    · exact QRun.quiet h5 q hq' c hc

theorem QRun.memf : ∀ {D : List Nat} {s s1 : St}, QRun cs R D s s1 → ∀ q ∈ D, ∃ c, cs[q]? = some c
  | [], _, _, _, q, hq => by cases hq
  | q0 :: D, s, s1, h, q, hq => by
    obtain ⟨c0, x0, h1, h2, h3, h4, h5⟩ := h
    rcases List.mem_cons.1 hq with rfl | hq'
    · exact ⟨c0, h1⟩
    · exact QRun.memf h5 q hq'

theorem DAny.quiet {i : Nat} {l : List Nat} {c : COp} (hi : cs[i]? = some c) (hk : c.k.quiet = true) {x : TV} (hq : QStep c st x) {f : Fact} (hf : c.k.memk = true → ∀ loc M, f loc M → QStep c (st.mem loc M) x)
    (h : DAny ro P ops cs pr ck Q ((i, f) :: R) l (st.put c.dst x)) : DAny ro P ops cs pr ck Q R (i :: l) st := by
  intro D sa hg hd hrun B E F blk rw a w listed hr hL
  have e : (D ++ [i]) ++ l = D ++ i :: l := by simp
  have := h (D ++ [i]) sa (by rw [e]; exact hg) (by rw [e]; exact hd) (QRun.snoc (hrun.more fun y hy => List.mem_cons_of_mem _ hy) hi hk hq fun e => ⟨f, by simp, hf e⟩) B E F blk rw a w listed hr (by rw [e]; exact hL)
  simpa [Nat.add_assoc, Nat.add_comm 1] using this

/-- The steps until the next loud one. -/
theorem DAny.steps (hT : TTOk P T) (hx : DCtx T esc ops cs pr) (hlt : ∀ i, i < cs.length → ∀ m ∈ pr.getD i [], m < cs.length) {l : List Nat} (h0 : l = [] → Q .normal st)
    (h1 : ∀ N l', l = N :: l' → ∃ c, cs[N]? = some c ∧ c.k.quiet = false ∧ ∀ (D : List Nat) sa, QRun cs R D sa st → (∀ q ∈ D, ∀ cq, cs[q]? = some cq → Apart cq c ∧ (cq.k.memk = true → q ∈ ck.getD N [])) → ∀ B E F blk rw a w, Rel B E F blk rw sa a w →
      wpOpIn (wf ro) 0 P ops (Out B E F w Q) N (fun a' w' => ∃ u E' blk' rw', E.le E' ∧ Rel B E' F blk' rw' (sa.upd c.dst u) a' w' ∧ Below B w w' ∧ (∀ q ∈ D, q ∈ ck.getD N [] → ∀ f, (q, f) ∈ R → f u.loc u.M) ∧ DAny ro P ops cs pr ck Q R l' (st.upd c.dst u)) a w) :
    DAny ro P ops cs pr ck Q R l st := by
  intro D
  induction hn : D.length generalizing D with
  | zero =>
    have : D = [] := List.eq_nil_of_length_eq_zero hn
    subst this
    intro sa hg hd hrun B E F blk rw a w listed hr hL
    have hs : sa = st := hrun
    subst hs
    cases l with
    | nil =>
      refine ⟨?_, Out.here hr .normal .normal trivial (h0 rfl)⟩
      refine List.eq_nil_iff_forall_not_mem.2 fun i hi => ?_
      have := ((hx.mem_ready hL).1 hi).2.1
      simp at this
    | cons N l' =>
      simp only [List.length_nil, Nat.zero_add, List.length_cons, List.nil_append] at hg hd hL ⊢
      have hready : N ∈ Region.ready .any ops listed := by
        rw [hx.mem_ready hL]
        refine ⟨Good.lt hg (by simp), by simp, fun m hm => ?_⟩
        obtain ⟨⟨c, k1, k2, k3, k4, k5⟩, _⟩ := hg
        rw [hL.done (k3 m hm).1]
        exact (k3 m hm).2
      refine ⟨fun e => (by rw [e] at hready; cases hready), fun i hi => ?_⟩
      obtain ⟨c, hc, hq, hN⟩ := h1 N l' rfl
      obtain ⟨hi1, hi2, hi3⟩ := (hx.mem_ready hL).1 hi
      have hiN : i = N := by
        rcases List.mem_cons.1 hi2 with h | h
        · exact h
        · obtain ⟨⟨c', k1, k2, k3, k4, k5⟩, _⟩ := hg
          rw [hc] at k1; cases k1
          obtain ⟨m, hm1, hm2⟩ := k5 hq i h
          have hmn := Good.preds (i := i) (show Good pr ck cs (N :: l') from ⟨⟨c, hc, k2, k3, k4, k5⟩, by assumption⟩) (by simp [h]) m hm1
          have := hi3 m hm1
          rw [hL.done hmn] at this
          exact absurd hm2 this
      subst hiN
      refine wpOpIn_mono (fun a' w' hh => ?_) (hN [] sa rfl (fun q hq => by cases hq) B E F blk rw a w hr)
      obtain ⟨u, E', blk', rw', hE, hr', hb, hf, hd'⟩ := hh
      have hset : ∀ j, j ∈ l' ↔ j ∈ i :: l' ∧ j ≠ i := fun j => by
        have := hg.2.1
        constructor
        · intro hj; exact ⟨List.mem_cons_of_mem _ hj, by rintro rfl; exact this hj⟩
        · rintro ⟨hj, hne⟩
          rcases List.mem_cons.1 hj with h | h
          · exact absurd h hne
          · exact h
      have hpm : ∀ m ∈ pr.getD i [], m ∉ i :: l' := fun m hm => (hg.1.choose_spec.2.2.1 m hm).2
      have := hd' [] (sa.upd c.dst u) hg.2.2 (hd.remove hpm hset) rfl B E' F blk' rw' a' w' _ hr' (hL.set hset)
      simp only [List.length_nil, Nat.zero_add] at this
      exact wpAnyR_mono (fun e a w ho => ho.weaken hE hb fun _ _ h => h) _ _ _ _ this
  | succ n ih =>
    intro sa hg hd hrun B E F blk rw a w listed hr hL
    have hqu := QRun.quiet hrun
    have hfuel : n + 1 + l.length = (n + l.length) + 1 := by omega
    rw [hfuel]
    have hnod := Good.nodup hg
    obtain ⟨k0, D0, hD0⟩ : ∃ k0 D0, D = k0 :: D0 := by
      cases D with
      | nil => simp at hn
      | cons k D => exact ⟨k, D, rfl⟩
    have hready : k0 ∈ Region.ready .any ops listed := by
      rw [hx.mem_ready hL]
      subst hD0
      refine ⟨Good.lt hg (by simp), by simp, fun m hm => ?_⟩
      obtain ⟨⟨c, k1, k2, k3, k4, k5⟩, _⟩ := hg
      rw [hL.done (k3 m hm).1]
      exact (k3 m hm).2
    refine ⟨fun e => (by rw [e] at hready; cases hready), fun i hi => ?_⟩
    obtain ⟨hi1, hi2, hi3⟩ := (hx.mem_ready hL).1 hi
    have hpi : ∀ m ∈ pr.getD i [], m ∉ D ++ l := fun m hm => by
      rw [← hL.done (Good.preds hg hi2 m hm)]; exact hi3 m hm
    rcases List.mem_append.1 hi2 with hiD | hil
    · obtain ⟨D1, D2, rfl⟩ := List.append_of_mem hiD
      obtain ⟨c, hc⟩ := QRun.memf hrun i hiD
      have hck := hqu i hiD c hc
      have hg' : Good pr ck cs (D1 ++ i :: (D2 ++ l)) := by simpa using hg
      have hqu1 : ∀ q ∈ D1, ∀ c, cs[q]? = some c → c.k.quiet = true := fun q hq => hqu q (List.mem_append.2 (.inl hq))
      have hap := Good.apart hc hqu1 hg' (fun m hm hin => hpi m hm (by simp [hin]))
      obtain ⟨x, hx1, hx2⟩ := QRun.front hc (fun q hq cq hcq => (hap q hq cq hcq).1) hrun
      refine QStep.wp hT hx hc hck hx1 hr fun E' blk' rw' a' w' hE hr' hb => ?_
      have hset : ∀ j, j ∈ (D1 ++ D2) ++ l ↔ j ∈ (D1 ++ i :: D2) ++ l ∧ j ≠ i := fun j => by
        have hn1 : (D1 ++ i :: (D2 ++ l)).Nodup := by simpa using hnod
        have hi' : i ∉ D1 ∧ i ∉ D2 ++ l := by
          rw [List.nodup_append] at hn1
          obtain ⟨a1, a2, a3⟩ := hn1
          exact ⟨fun h => a3 i h i (by simp) rfl, (List.nodup_cons.1 a2).1⟩
        simp only [List.mem_append, List.mem_cons]
        simp only [List.mem_append, not_or] at hi'
        constructor
        · rintro ((h | h) | h)
          · exact ⟨.inl (.inl h), by rintro rfl; exact hi'.1 h⟩
          · exact ⟨.inl (.inr (.inr h)), by rintro rfl; exact hi'.2.1 h⟩
          · exact ⟨.inr h, by rintro rfl; exact hi'.2.2 h⟩
        · rintro ⟨(h | h | h) | h, hne⟩
          · exact .inl (.inl h)
          · exact absurd h hne
          · exact .inl (.inr h)
          · exact .inr h
      have hgd : Good pr ck cs ((D1 ++ D2) ++ l) := by
        have := Good.drop (D1 := D1) (D2 := D2 ++ l) (k := i) hqu1 hg'
        simpa using this
      have hlen : (D1 ++ D2).length = n := by simp at hn ⊢; omega
      have := ih (D1 ++ D2) hlen (sa.put c.dst x) hgd (hd.remove hpi hset) hx2 B E' F blk' rw' a' w' _ hr' (hL.set hset)
      exact wpAnyR_mono (fun e a w ho => ho.weaken hE hb fun _ _ h => h) _ _ _ _ this
    · cases l with
      | nil => cases hil
      | cons N l' =>
        obtain ⟨c, hc, hq, hN⟩ := h1 N l' rfl
        have hgs := Good.suffix hg
        have hiN : i = N := by
          rcases List.mem_cons.1 hil with h | h
          · exact h
          · obtain ⟨⟨c', k1, k2, k3, k4, k5⟩, _⟩ := hgs
            rw [hc] at k1; cases k1
            obtain ⟨m, hm1, hm2⟩ := k5 hq i h
            exact absurd (List.mem_append.2 (.inr hm2)) (hpi m hm1)
        subst hiN
        have hap := Good.apart hc hqu hg (fun m hm hin => hpi m hm (List.mem_append.2 (.inl hin)))
        have hck : ∀ q ∈ D, ∀ cq, cs[q]? = some cq → Apart cq c ∧ (cq.k.memk = true → q ∈ ck.getD i []) := fun q hq' cq hcq => by
          obtain ⟨j1, j2⟩ := hap q hq' cq hcq
          refine ⟨j1, fun hm => ?_⟩
          rcases j2 hq hm with h | h
          · exact h
          · exact absurd (List.mem_append.2 (.inl hq')) (Down.reach hd hlt hi1 hpi h)
        refine wpOpIn_mono (fun a' w' hh => ?_) (hN D sa hrun hck B E F blk rw a w hr)
        obtain ⟨u, E', blk', rw', hE, hr', hb, hf, hd'⟩ := hh
        have hset : ∀ j, j ∈ D ++ l' ↔ j ∈ D ++ i :: l' ∧ j ≠ i := fun j => by
          have hi' : i ∉ D ∧ i ∉ l' := by
            rw [List.nodup_append] at hnod
            obtain ⟨a1, a2, a3⟩ := hnod
            exact ⟨fun h => a3 i h i (by simp) rfl, (List.nodup_cons.1 a2).1⟩
          simp only [List.mem_append, List.mem_cons]
          constructor
          · rintro (h | h)
            · exact ⟨.inl h, by rintro rfl; exact hi'.1 h⟩
            · exact ⟨.inr (.inr h), by rintro rfl; exact hi'.2 h⟩
          · rintro ⟨h | h | h, hne⟩
            · exact .inl h
            · exact absurd h hne
            · exact .inr h
        have hgd : Good pr ck cs (D ++ l') := Good.drop hqu hg
        have hrun' : QRun cs R D (sa.upd c.dst u) (st.upd c.dst u) :=
          QRun.upd (fun q hq' cq hcq => (hck q hq' cq hcq).1) (fun q hq' cq hcq hm f hf' => hf q hq' ((hck q hq' cq hcq).2 hm) f hf') hrun
        have := hd' D (sa.upd c.dst u) hgd (hd.remove hpi hset) hrun' B E' F blk' rw' a' w' _ hr' (hL.set hset)
        have e : n + (i :: l').length = D.length + l'.length := by simp only [List.length_cons]; omega
        rw [e]
        exact wpAnyR_mono (fun e a w ho => ho.weaken hE hb fun _ _ h => h) _ _ _ _ this
end
end Go.Am
/- Regions whose order is drawn: evaluation. -/
set_option linter.unusedSectionVars false
set_option linter.unusedVariables false
set_option linter.unusedSimpArgs false
namespace Go.Am
open Go.RowKit
variable [Inhabited LaidBox] {ro : Option Nat}

section
variable {P : Program} {T : TT} {o : Oper} {st : St}
theorem eff_ok (hT : TTOk P T) {esc : List Nat} {k : CK} (hk : compK T esc o = some k) {st1 : St} {tv : TV} {p : Prop} (h : eff k st = some (st1, tv, p)) (hp : p) : OpVal P o st st1 tv := by
  cases ho : o.op with
  | store t p' x =>
    simp only [compK, ho] at hk
    split at hk
    · rename_i j p1 x1 hj hp1 hx
      cases hk
      exact sound_sto ho (hT _ _ hj) rfl (cX_is hp1) (cX_is hx) h hp
    · cases hk
  | alloc e =>
    simp only [compK, ho] at hk
    split at hk
    · rename_i j hj
      split at hk
      · cases hk
        split at h
        · cases h
        · exact sound_al ho (hT _ _ hj) rfl h hp
      · cases hk
    · cases hk
  | box e x =>
    simp only [compK, ho] at hk
    split at hk
    · simp only [Option.map_eq_some_iff] at hk
      obtain ⟨x', hx, rfl⟩ := hk
      split at h
      · cases h
      · exact sound_bx ho (cX_is hx) h hp
    · cases hk
  | binOp op t x y t' =>
    exfalso
    simp only [compK, ho] at hk
    repeat' (split at hk)
    all_goals first | (cases hk; cases h; done) | (cases hk; done) | (have hia := iaK_isIa hk; cases k <;> first | (cases hia; done) | (cases h; done)) | (simp only [Option.map_eq_some_iff] at hk; obtain ⟨_, _, rfl⟩ := hk; cases h; done)
  | unOp op t x =>
    exfalso
    cases op <;> simp only [compK, ho, Option.map_eq_some_iff, reduceCtorEq] at hk
    all_goals (obtain ⟨_, _, rfl⟩ := hk; cases h)
  | slice t x lo hi mx =>
    exfalso
    cases mx <;> simp only [compK, ho, reduceCtorEq] at hk
    repeat' (split at hk)
    all_goals first | (cases hk; cases h; done) | (cases hk; done) | (have hia := iaK_isIa hk; cases k <;> first | (cases hia; done) | (cases h; done)) | (simp only [Option.map_eq_some_iff] at hk; obtain ⟨_, _, rfl⟩ := hk; cases h; done)
  | makeMap t r =>
    exfalso
    cases r <;> simp only [compK, ho, reduceCtorEq] at hk
    repeat' (split at hk)
    all_goals first | (cases hk; cases h; done) | (cases hk; done)
  | _ =>
    exfalso
    simp only [compK, ho, reduceCtorEq] at hk
    try (repeat' (split at hk))
    all_goals first | (cases hk; cases h; done) | (cases hk; done) | (have hia := iaK_isIa hk; cases k <;> first | (cases hia; done) | (cases h; done)) | (simp only [Option.map_eq_some_iff] at hk; obtain ⟨_, _, rfl⟩ := hk; cases h; done)
end

/-! Loud operations see slots, and all memory. -/
structure Same (s s' : St) (l : List Nat) : Prop where
  agree : Agree s s' l
  loc : s'.loc = s.loc
  rows : s'.rows = s.rows
  M : s'.M = s.M
  defs : s'.defs = s.defs

theorem eff_congr {k : CK} {s s' s1 : St} {x : TV} {p : Prop} (h : Same s s' k.looks) (he : eff k s = some (s1, x, p)) :
    s1.tmps = s.tmps ∧ s1.defs = s.defs ∧ eff k s' = some ({ s' with loc := s1.loc, rows := s1.rows, M := s1.M }, x, p) := by
  obtain ⟨h1, h2, h3, h4, h5⟩ := h
  cases k with
  | sto n a b =>
    have e1 : s.get a = s'.get a := Agree.get (x := a) h1.left
    have e2 : s.get b = s'.get b := Agree.get (x := b) h1.right
    simp only [eff, e1, e2] at he
    simp only [eff, h2, h4]
    split at he
    · rename_i cs q hsc
      split at he
      · rename_i i off hp
        split at he
        · rename_i tvs hl
          cases he
          simp [hsc, hp, hl, h3, h4]
        · cases he
      · rename_i r off hp
        split at he
        · rename_i vs us hM hus
          cases he
          simp [hsc, hp, hM, hus, h2, h3]
        · cases he
      · cases he
    · cases he
  | al ty zero =>
    simp only [eff] at he ⊢
    cases he
    simp [h2, h3, h4]
  | bx ty b =>
    have e2 : s.get b = s'.get b := Agree.get (x := b) h1
    simp only [eff, e2] at he
    simp only [eff]
    split at he
    · rename_i cs q hsc
      cases he
      simp [hsc, h2, h3, h4]
    · cases he
  | _ => cases he

theorem effA_congr {k : CK} {s s' s1 : St} {x : TV} {p : Prop} (h : Same s s' k.looks) (he : effA k s = some (s1, x, p)) :
    s1.tmps = s.tmps ∧ s1.defs = s.defs ∧ effA k s' = some ({ s' with loc := s1.loc, rows := s1.rows, M := s1.M }, x, p) := by
  obtain ⟨h1, h2, h3, h4, h5⟩ := h
  cases k with
  | app e sz bytes a b =>
    have e1 : s.get a = s'.get a := Agree.get (x := a) h1.left
    have e2 : s.get b = s'.get b := Agree.get (x := b) h1.right
    simp only [effA, e1, e2] at he
    simp only [effA, h3, h4]
    split at he
    · rename_i own sz2 es2 q hrd
      split at he
      · rename_i i sz1 es hp
        split at he
        · rename_i e' sz' n hl
          cases he
          simp [hrd, hp, hl, h2, h4]
        · cases he
      · rename_i t sz1 es hp
        split at he
        · rename_i e' sz' n hM
          cases he
          simp [hrd, hp, hM, h2, h3]
        · cases he
      · rename_i sz1 es hp
        cases he
        refine ⟨rfl, rfl, ?_⟩
        rw [← h2, ← h3, ← h4]
      · cases he
    · cases he
  | mu m k x =>
    have e1 : s.get m = s'.get m := Agree.get (x := m) h1.left
    have e2 : s.get k = s'.get k := Agree.get (x := k) h1.right.left
    have e3 : s.get x = s'.get x := Agree.get (x := x) h1.right.right
    simp only [effA, e1, e2, e3] at he
    simp only [effA, h4]
    split at he
    · rename_i r p1 b p2 v p3 hm hk hx
      split at he
      · rename_i kvs hM
        cases he
        simp [hm, hk, hx, hM, h2, h3]
      · cases he
    · cases he
  | _ => cases he

def qval (c : COp) (st : St) : Option (TV × Prop) :=
  match c.grd with
  | none => pev c.k true st
  | some (d, want) => match gval st d want with
    | some g => match pev c.k g st with
      | some (y, p) => some (.opt g y, g = true → p)
      | none => none
    | none => none
theorem qval_step {c : COp} {st : St} {x : TV} {p : Prop} (h : qval c st = some (x, p)) (hp : p) : QStep c st x := by
  unfold qval at h
  unfold QStep
  cases hg : c.grd with
  | none => rw [hg] at h; exact ⟨p, h, hp⟩
  | some dw =>
    obtain ⟨d, want⟩ := dw
    rw [hg] at h
    simp only at h ⊢
    split at h
    · rename_i g hgv
      split at h
      · rename_i y q hpe
        cases h
        exact ⟨g, hgv, y, q, hpe, hp, rfl⟩
      · cases h
    · cases h

def qfact (c : COp) (x : TV) (st : St) : Prop :=
  match qval c st with
  | some (y, p) => y = x ∧ p
  | none => False
theorem qfact_step {c : COp} {st : St} {x : TV} (h : qfact c x st) : QStep c st x := by
  unfold qfact at h
  split at h
  · rename_i y p hq
    obtain ⟨rfl, hp⟩ := h
    exact qval_step hq hp
  · exact h.elim

def memB (l : List Nat) (q : Nat) : Bool := l.contains q
def facts : List (Nat × Fact) → List Nat → List (Option (List TV)) → Mem → Prop
  | [], _, _, _ => True
  | (q, f) :: R, chk, loc, M => (match memB chk q with | true => f loc M | false => True) ∧ facts R chk loc M
theorem facts_of {chk : List Nat} {loc : List (Option (List TV))} {M : Mem} : ∀ {R : List (Nat × Fact)}, facts R chk loc M → ∀ q, q ∈ chk → ∀ f, (q, f) ∈ R → f loc M
  | [], _, q, _, f, h => by cases h
  | (q0, f0) :: R, h, q, hq, f, hf => by
    obtain ⟨h1, h2⟩ := h
    rcases List.mem_cons.1 hf with h | h
    · have e1 : q = q0 := congrArg Prod.fst h
      have e2 : f = f0 := congrArg Prod.snd h
      subst e1; subst e2
      have hm : memB chk q = true := by simpa [memB] using hq
      rw [hm] at h1; exact h1
    · exact facts_of h2 q hq f h

def factOf (chk : List Nat) (c : COp) (x : TV) (st : St) : Fact :=
  match chk with
  | [] => fun _ _ => False
  | _ => fun loc M => qfact c x (st.mem loc M)

/-- What is known of a drawn region by its numbers. -/
def DOps (ro : Option Nat) (P : Program) (T : TT) (esc : List Nat) (cs : List COp) (pr ck : List (List Nat)) (Q : AExit → St → Prop) (R : List (Nat × Fact)) (l : List (Nat × COp × List Nat)) (st : St) : Prop :=
  ∀ ops, DCtx T esc ops cs pr → (∀ i, i < cs.length → ∀ m ∈ pr.getD i [], m < cs.length) → (∀ i c chk, (i, c, chk) ∈ l → cs[i]? = some c ∧ ck.getD i [] = chk) → DAny ro P ops cs pr ck Q R (l.map (·.1)) st

def evalD (ro : Option Nat) (P : Program) (T : TT) (esc : List Nat) (cs : List COp) (pr ck : List (List Nat)) (Q : AExit → St → Prop) : List (Nat × COp × List Nat) → List (Nat × Fact) → St → Prop
  | [], R, st => Q .normal st
  | (i, c, chk) :: l, R, st =>
    match c.k.quiet with
    | true => match qval c st with
      | some (x, p) => p ∧ evalD ro P T esc cs pr ck Q l ((i, factOf chk c x st) :: R) (st.put c.dst x)
      | none => DOps ro P T esc cs pr ck Q R ((i, c, chk) :: l) st
    | false => match c.grd with
      | some _ => DOps ro P T esc cs pr ck Q R ((i, c, chk) :: l) st
      | none => match eff c.k st with
        | some (s1, x, p) => p ∧ facts R chk s1.loc s1.M ∧ evalD ro P T esc cs pr ck Q l R (s1.put c.dst x)
        | none => match effA c.k st with
          | some (s1, x, p) => p ∧ facts R chk s1.loc s1.M ∧ evalD ro P T esc cs pr ck Q l R (s1.put c.dst x)
          | none => DOps ro P T esc cs pr ck Q R ((i, c, chk) :: l) st

section
variable {P : Program} {T : TT} {esc : List Nat} {cs : List COp} {pr ck : List (List Nat)} {Q : AExit → St → Prop} {st : St} {R : List (Nat × Fact)}

theorem QRun.same {c : COp} {D : List Nat} {sa : St} (hrun : QRun cs R D sa st) (hap : ∀ q ∈ D, ∀ cq, cs[q]? = some cq → Apart cq c) : Same st sa c.looks := by
  obtain ⟨h1, h2, h3, h4⟩ := hrun.frame
  exact ⟨(QRun.agree (fun q hq cq hcq d hd => (hap q hq cq hcq).looks d hd) hrun).symm, h1.symm, h2.symm, h3.symm, h4.symm⟩

/-- A loud operation with one outcome. -/
theorem DOps.val (hT : TTOk P T) {i : Nat} {c : COp} {chk : List Nat} {l : List (Nat × COp × List Nat)} (hq : c.k.quiet = false) (hg : c.grd = none) (hno : ∀ o, c.k ≠ .other o) {s1 : St} {x : TV} (hs1 : s1.tmps = st.tmps ∧ s1.defs = st.defs)
    (hv : ∀ sa, Same st sa c.looks → ∀ o, compK T esc o = some c.k → OpVal P o sa { sa with loc := s1.loc, rows := s1.rows, M := s1.M } x)
    (hf : facts R chk s1.loc s1.M) (h : DOps ro P T esc cs pr ck Q R l (s1.put c.dst x)) : DOps ro P T esc cs pr ck Q R ((i, c, chk) :: l) st := by
  intro ops hx hlt hl
  obtain ⟨hi, hck⟩ := hl i c chk (by simp)
  refine DAny.steps hT hx hlt (fun e => by simp at e) fun N l' e => ?_
  simp only [List.map_cons, List.cons.injEq] at e
  obtain ⟨rfl, rfl⟩ := e
  refine ⟨c, hi, hq, fun D sa hrun hap B E F blk rw a w hr => ?_⟩
  have hsame := QRun.same hrun fun q hq cq hcq => (hap q hq cq hcq).1
  obtain ⟨o, ho, hc⟩ := hx.get i c hi
  obtain ⟨k1, k2, k3⟩ := compOp_inv hc hno
  rw [hg] at k2
  unfold wpOpIn
  simp only [ho]
  rw [if_pos (by simp [Region.wanted, compG_none k2])]
  obtain ⟨v, w', E', blk', rw', hrun', hE, hb, hr', hvv⟩ := hv sa hsame o k3 B E F blk rw a w hr
  have hst : st.upd c.dst ⟨s1.loc, s1.rows, s1.M, x⟩ = s1.put c.dst x := by
    obtain ⟨e1, e2⟩ := hs1
    unfold St.upd
    congr 1
    cases s1; cases st; simp_all
  have hD : DAny ro P ops cs pr ck Q R (l.map (·.1)) (st.upd c.dst ⟨s1.loc, s1.rows, s1.M, x⟩) := by rw [hst]; exact h ops hx hlt fun i c chk hm => hl i c chk (List.mem_cons_of_mem _ hm)
  have hfin : ∀ a', Rel B E' F blk' rw' (sa.upd c.dst ⟨s1.loc, s1.rows, s1.M, x⟩) a' w' → ∃ u E'' blk'' rw'', E.le E'' ∧ Rel B E'' F blk'' rw'' (sa.upd c.dst u) a' w' ∧ Below B w w' ∧ (∀ q ∈ D, q ∈ ck.getD i [] → ∀ f, (q, f) ∈ R → f u.loc u.M) ∧ DAny ro P ops cs pr ck Q R (l.map (·.1)) (st.upd c.dst u) :=
    fun a' ha' => ⟨⟨s1.loc, s1.rows, s1.M, x⟩, E', blk', rw', hE, ha', hb, fun q hq' hqc f hfR => facts_of hf q (by rw [← hck]; exact hqc) f hfR, hD⟩
  rcases hrun' with hrun' | ⟨hrun', rfl⟩
  · refine uponIn_run hrun' (by simp) ?_
    exact hfin _ (by rw [k1]; exact hr'.put o.dst hvv)
  · refine uponIn_run hrun' (by simp) ?_
    exact hfin _ (by rw [k1]; exact hr'.put o.dst hvv)

theorem evalD_sound (hT : TTOk P T) : ∀ (l : List (Nat × COp × List Nat)) (R : List (Nat × Fact)) (st : St), evalD ro P T esc cs pr ck Q l R st → DOps ro P T esc cs pr ck Q R l st
  | [], R, st, h => fun ops hx hlt hl => DAny.steps hT hx hlt (fun _ => h) fun N l' e => by cases e
  | (i, c, chk) :: l, R, st, h => by
    unfold evalD at h
    split at h
    · rename_i hk
      split at h
      · rename_i x p hq
        obtain ⟨hp, h⟩ := h
        intro ops hx hlt hl
        obtain ⟨hi, hck⟩ := hl i c chk (by simp)
        refine DAny.quiet hi hk (qval_step hq hp) (f := factOf chk c x st) (fun _ loc M hf => ?_) (evalD_sound hT l _ _ h ops hx hlt fun i c chk hm => hl i c chk (List.mem_cons_of_mem _ hm))
        cases chk with
        | nil => exact hf.elim
        | cons a b => exact qfact_step hf
      · exact h
    · rename_i hk
      split at h
      · exact h
      · rename_i hg
        split at h
        · rename_i s1 x p he
          obtain ⟨hp, hf, h⟩ := h
          have hc0 := eff_congr (s := st) (s' := st) ⟨fun _ _ => rfl, rfl, rfl, rfl, rfl⟩ he
          refine DOps.val hT hk hg (by intro o e; rw [e] at he; cases he) ⟨hc0.1, hc0.2.1⟩ (fun sa hs o hko => ?_) hf (evalD_sound hT l _ _ h)
          have := eff_congr (s := st) (s' := sa) ⟨(by have := hs.agree; unfold COp.looks at this; exact this.left), hs.loc, hs.rows, hs.M, hs.defs⟩ he
          exact eff_ok hT hko this.2.2 hp
        · split at h
          · rename_i s1 x p he
            obtain ⟨hp, hf, h⟩ := h
            have hc0 := effA_congr (s := st) (s' := st) ⟨fun _ _ => rfl, rfl, rfl, rfl, rfl⟩ he
            refine DOps.val hT hk hg (by intro o e; rw [e] at he; cases he) ⟨hc0.1, hc0.2.1⟩ (fun sa hs o hko => ?_) hf (evalD_sound hT l _ _ h)
            have := effA_congr (s := st) (s' := sa) ⟨(by have := hs.agree; unfold COp.looks at this; exact this.left), hs.loc, hs.rows, hs.M, hs.defs⟩ he
            exact effA_ok hT hko this.2.2 hp
          · exact h

/-- The static part. -/
structure DrawOk (cs : List COp) (pr : List (List Nat)) (ck : List (List Nat)) (l : List (Nat × COp × List Nat)) : Prop where
  can : ∃ can : List Nat, l = can.map (fun i => (i, cs.getD i ⟨none, none, .recov⟩, ck.getD i [])) ∧ goodB pr ck cs can = true ∧ (List.range cs.length).all (fun i => can.contains i) = true
  lt : (pr.all fun p => p.all fun m => decide (m < cs.length)) = true

theorem AWp.draw {id : Nat} {ops : Array Oper} (hm : P.follows .mixedOrders = true) (hx : DCtx T esc ops cs pr) {l : List (Nat × COp × List Nat)} (hok : DrawOk cs pr ck l) (h : DOps ro P T esc cs pr ck Q [] l st) : AWp ro P (.region id ops true) Q st := by
  obtain ⟨⟨can, hl, hg, hall⟩, hlt⟩ := hok
  intro B E F blk rw a w hr
  have hgood := goodB_spec hg
  have hlt' : ∀ i, i < cs.length → ∀ m ∈ pr.getD i [], m < cs.length := by
    intro i hi m hm
    simp only [List.all_eq_true, decide_eq_true_eq] at hlt
    rcases Nat.lt_or_ge i pr.length with h' | h'
    · have : pr.getD i [] = pr[i] := by simp [List.getD_eq_getElem?_getD, List.getElem?_eq_getElem h']
      rw [this] at hm
      exact hlt _ (List.getElem_mem h') m hm
    · have : pr.getD i [] = [] := by simp [List.getD_eq_getElem?_getD, List.getElem?_eq_none h']
      rw [this] at hm; cases hm
  have hmap : l.map (·.1) = can := by
    rw [hl, List.map_map]
    exact List.map_id' can
  have hmem : ∀ i, i < cs.length ↔ i ∈ can := by
    intro i
    refine ⟨fun hi => ?_, fun hi => Good.lt hgood hi⟩
    simp only [List.all_eq_true, List.mem_range] at hall
    simpa using hall i hi
  refine wpIn_region_any hm ?_
  have hd := h ops hx hlt' (fun i c chk hin => by
    rw [hl, List.mem_map] at hin
    obtain ⟨j, hj, he⟩ := hin
    cases he
    have hji := (hmem i).2 hj
    exact ⟨by rw [List.getD_eq_getElem?_getD, List.getElem?_eq_getElem hji]; rfl, rfl⟩)
  rw [hmap] at hd
  have hr' : Rel B E F blk rw st a { w with drawn := w.drawn + 1 } := by
    obtain ⟨MM, hmm⟩ := hr.mem
    exact ⟨hr.tmps, hr.defs, MM, hmm.mono_env (hmm.sim.drewN rfl)⟩
  have := hd [] st (by simpa using hgood) (fun q hq i hi hqi => by simpa using (hmem i).1 hi) rfl B E F blk rw a { w with drawn := w.drawn + 1 } (Array.replicate ops.size false) hr' ⟨by simp [hx.size], fun i hi => by
    have hs : i < ops.size := by rw [hx.size]; exact hi
    simp [Array.getD_eq_getD_getElem?, hs]
    exact (hmem i).1 hi⟩
  have hlen : ([] : List Nat).length + can.length = ops.size := by
    rw [hx.size]
    simp only [List.length_nil, Nat.zero_add]
    refine Nat.le_antisymm ?_ ?_
    · have := List.Nodup.length_le_of_subset (Good.nodup hgood) (l₂ := List.range cs.length) fun i hi => by rw [List.mem_range]; exact (hmem i).2 hi
      simpa using this
    · have := List.Nodup.length_le_of_subset (List.nodup_range (n := cs.length)) (l₂ := can) fun i hi => (hmem i).1 (by simpa using hi)
      simpa using this
  rw [hlen] at this
  refine wpAnyR_mono (fun e a w' ho => ?_) _ _ _ _ this
  exact ho.weaken (Env.le.refl E) ⟨rfl, rfl, rfl, Nat.le_refl _, fun k hk => rfl⟩ fun _ _ h => h
end
end Go.Am
/- The evaluation of regions and of code in the resolved form. -/
set_option linter.unusedSectionVars false
set_option linter.unusedVariables false
set_option linter.unusedSimpArgs false
namespace Go.Am
open Go.RowKit
variable [Inhabited LaidBox] {ro : Option Nat}

/-! Lists of operations. -/
def CompL (T : TT) (esc : List Nat) (ops : Array Oper) : List Nat → List COp → Prop
  | [], [] => True
  | i :: is, c :: cs => (∃ o, ops[i]? = some o ∧ compOp T esc ops o = c) ∧ CompL T esc ops is cs
  | _, _ => False

def COps (ro : Option Nat) (P : Program) (T : TT) (esc : List Nat) (cs : List COp) (Q : AExit → St → Prop) (st : St) : Prop :=
  ∀ ops idxs, CompL T esc ops idxs cs → AOps ro P ops idxs Q st

def evalC (ro : Option Nat) (P : Program) (T : TT) (esc : List Nat) (Q : AExit → St → Prop) : List COp → St → Prop
  | [], st => Q .normal st
  | c :: cs, st =>
    match c.grd with
    | none =>
      match c.k with
      | .alS ty zero => ∀ r, st.M (.b r) = none → evalC ro P T esc Q cs ({ st with M := st.M.set (.b r) (.cells zero) }.put c.dst (.v (.ptr r 0)))
      | .mm => ∀ r, st.M (.b r) = none → evalC ro P T esc Q cs ({ st with M := st.M.set (.b r) (.map []) }.put c.dst (.v (.map r)))
      | .bxS ty x =>
        match rd true (st.get x) with
        | some (v, p) => p ∧ (∀ y ∈ v.cells, y.one = true) ∧ ∀ r, st.M (.b r) = none → evalC ro P T esc Q cs ({ st with M := st.M.set (.b r) (.cells v.cells) }.put c.dst (.v (.ptr r 0)))
        | none => COps ro P T esc (c :: cs) Q st
      | k =>
        match pev k true st with
        | some (x, p) => p ∧ evalC ro P T esc Q cs (st.put c.dst x)
        | none =>
          match eff k st with
          | some (st1, x, p) => p ∧ evalC ro P T esc Q cs (st1.put c.dst x)
          | none =>
            match effA k st with
            | some (st1, x, p) => p ∧ evalC ro P T esc Q cs (st1.put c.dst x)
            | none => COps ro P T esc (c :: cs) Q st
    | some (d, want) =>
      match gval st d want with
      | some g =>
        match pev c.k g st with
        | some (x, p) => (g = true → p) ∧ evalC ro P T esc Q cs (st.put c.dst (.opt g x))
        | none => COps ro P T esc (c :: cs) Q st
      | none => COps ro P T esc (c :: cs) Q st

section
variable {P : Program} {T : TT} {esc : List Nat} {Q : AExit → St → Prop} {st : St}

theorem CompL.cons {ops : Array Oper} {idxs : List Nat} {c : COp} {cs : List COp} (h : CompL T esc ops idxs (c :: cs)) : ∃ i is o, idxs = i :: is ∧ ops[i]? = some o ∧ compOp T esc ops o = c ∧ CompL T esc ops is cs := by
  cases idxs with
  | nil => exact h.elim
  | cons i is =>
    obtain ⟨⟨o, h1, h2⟩, h3⟩ := h
    exact ⟨i, is, o, rfl, h1, h2, h3⟩

theorem COps.nil (h : Q .normal st) : COps ro P T esc [] Q st := by
  intro ops idxs hc
  cases idxs with
  | nil => exact AOps.nil h
  | cons i is => exact hc.elim

theorem pev_other {o : Oper} {g : Bool} : pev (.other o) g st = none := rfl
theorem eff_other {o : Oper} : eff (.other o) st = none := rfl

theorem pev_rd_mono {k : CK} {g : Bool} (hg : g = true) : pev k g st = pev k true st := by rw [hg]

theorem compK_mm {o : Oper} (k3 : compK T esc o = some .mm) : ∃ t, o.op = .makeMap t none := by
  cases ho : o.op with
  | call c =>
    exfalso
    simp only [compK, ho] at k3
    repeat' (split at k3)
    all_goals first | (cases k3; done) | (cases iaK_isIa k3; done) | (simp at k3; done)
  | binOp op t x y t' =>
    exfalso
    simp only [compK, ho] at k3
    repeat' (split at k3)
    all_goals first | (cases k3; done) | (cases iaK_isIa k3; done) | (simp at k3; done)
  | unOp op t x => cases op <;> simp [compK, ho] at k3
  | slice t x lo hi mx =>
    exfalso
    cases mx <;> simp only [compK, ho, reduceCtorEq] at k3
    repeat' (split at k3)
    all_goals first | (cases k3; done) | (cases iaK_isIa k3; done) | (simp at k3; done)
  | makeMap t r =>
    cases r with
    | none => exact ⟨t, rfl⟩
    | some r => simp [compK, ho] at k3
  | box t x =>
    exfalso
    simp only [compK, ho] at k3
    split at k3
    · simp only [Option.map_eq_some_iff] at k3
      obtain ⟨_, _, k3⟩ := k3
      split at k3 <;> cases k3
    · cases k3
  | alloc t =>
    exfalso
    simp only [compK, ho] at k3
    split at k3
    · split at k3
      · simp only [Option.some.injEq] at k3
        split at k3 <;> cases k3
      · cases k3
    · cases k3
  | _ =>
    exfalso
    simp only [compK, ho, reduceCtorEq] at k3
    try (repeat' (split at k3))
    all_goals first | (cases k3; done) | (cases iaK_isIa k3; done) | (simp at k3; done)

/-- A new map. -/
theorem AOps.namedMap {ops : Array Oper} {i : Nat} {rest : List Nat} {Q : AExit → St → Prop} {o : Oper} (ho : ops[i]? = some o) (hg : o.guard = none) (hmm : ∃ t, o.op = .makeMap t none)
    (h : ∀ r, st.M (.b r) = none → AOps ro P ops rest Q ({ st with M := st.M.set (.b r) (.map []) }.put o.dst (.v (.map r)))) : AOps ro P ops (i :: rest) Q st := by
  intro B E F blk rw a w hr
  simp only [wpOpsIn, ho]
  rw [if_pos (by simp [Region.wanted, hg])]
  obtain ⟨t, hop⟩ := hmm
  obtain ⟨MM, hm⟩ := hr.mem
  obtain ⟨G, nr, hs⟩ := hm.sim
  have hnone : MM (.b w.heap.size) = none := hs.dom_none (Nat.le_refl _)
  have hM : st.M (.b w.heap.size) = none := by
    cases h : st.M (.b w.heap.size) with
    | none => rfl
    | some x => rw [hm.sub _ x h] at hnone; cases hnone
  have hrun : (execOp a.eval o).run P w = .ok (.value (.map (some w.heap.size))) (w.alloc (.map #[] 0)) := by
    simp only [execOp, hop]
    simp [Instr.makeMap]
  have hb := (Below.refl B w).alloc hs.base (.map #[] 0)
  have hrel : Rel B E F blk rw { st with M := st.M.set (.b w.heap.size) (.map []) } a (w.alloc (.map #[] 0)) := ⟨hr.tmps, hr.defs, _, hm.newM hnone ⟨_, _, hs.new_map⟩⟩
  refine uponIn_run hrun (by simp) ?_
  exact wpOpsR_mono (fun e a' w'' ho => ho.weaken (Env.le.refl E) hb fun _ _ h => h) rest _ _ (h w.heap.size hM B E F blk rw _ _ (hrel.put o.dst (Rep.map _)))

theorem evalC_sound (hT : TTOk P T) : ∀ (cs : List COp) (st : St), evalC ro P T esc Q cs st → COps ro P T esc cs Q st
  | [], st, h => COps.nil h
  | c :: cs, st, h => by
    unfold evalC at h
    split at h
    · rename_i hgr
      split at h
      · rename_i ty zero hk
        intro ops idxs hc
        obtain ⟨i, is, o, rfl, h1, h2, h3⟩ := hc.cons
        obtain ⟨k1, k2, k3⟩ := compOp_inv h2 (by rw [hk]; simp)
        rw [hgr] at k2
        rw [hk] at k3
        have hal : ∃ t j, o.op = .alloc t ∧ TIOk P t j ∧ zero = j.zero.cells := by
          cases ho : o.op with
          | alloc t =>
            simp only [compK, ho] at k3
            split at k3
            · rename_i j hj
              split at k3
              · simp only [Option.some.injEq] at k3
                split at k3
                · cases k3; exact ⟨_, j, rfl, hT _ _ hj, rfl⟩
                · cases k3
              · cases k3
            · cases k3
          | binOp op t x y t' =>
            exfalso
            simp only [compK, ho] at k3
            repeat' (split at k3)
            all_goals first | (cases k3; done) | (cases iaK_isIa k3; done) | (simp at k3; done)
          | unOp op t x => cases op <;> simp [compK, ho] at k3
          | slice t x lo hi mx =>
            exfalso
            cases mx <;> simp only [compK, ho, reduceCtorEq] at k3
            repeat' (split at k3)
            all_goals first | (cases k3; done) | (cases iaK_isIa k3; done) | (simp at k3; done)
          | makeMap t r =>
            exfalso
            cases r <;> simp only [compK, ho, reduceCtorEq] at k3
            repeat' (split at k3)
            all_goals first | (cases k3; done)
          | box t x =>
            exfalso
            simp only [compK, ho] at k3
            split at k3
            · simp only [Option.map_eq_some_iff] at k3
              obtain ⟨_, _, k3⟩ := k3
              split at k3 <;> cases k3
            · cases k3
          | _ =>
            exfalso
            simp only [compK, ho, reduceCtorEq] at k3
            try (repeat' (split at k3))
            all_goals first | (cases k3; done) | (cases iaK_isIa k3; done) | (simp at k3; done)
        obtain ⟨t, j, ho, hj, rfl⟩ := hal
        refine AOps.named h1 (compG_none k2) (run_alS ho hj) fun r hr => ?_
        rw [← k1]
        exact evalC_sound hT cs _ (h r hr) ops is h3
      · rename_i hk
        intro ops idxs hc
        obtain ⟨i, is, o, rfl, h1, h2, h3⟩ := hc.cons
        obtain ⟨k1, k2, k3⟩ := compOp_inv h2 (by rw [hk]; simp)
        rw [hgr] at k2
        rw [hk] at k3
        refine AOps.namedMap h1 (compG_none k2) (compK_mm k3) fun r hr => ?_
        rw [← k1]
        exact evalC_sound hT cs _ (h r hr) ops is h3
      · rename_i ty x hk
        split at h
        · rename_i v p hrd
          obtain ⟨hp, hone, h⟩ := h
          intro ops idxs hc
          obtain ⟨i, is, o, rfl, h1, h2, h3⟩ := hc.cons
          obtain ⟨k1, k2, k3⟩ := compOp_inv h2 (by rw [hk]; simp)
          rw [hgr] at k2
          rw [hk] at k3
          have hbx : ∃ t x', o.op = .box t x' ∧ IsOpd x x' := by
            cases ho : o.op with
            | box t x' =>
              simp only [compK, ho] at k3
              split at k3
              · simp only [Option.map_eq_some_iff] at k3
                obtain ⟨x1, hx1, k3⟩ := k3
                split at k3
                · cases k3; exact ⟨_, x', rfl, cX_is hx1⟩
                · cases k3
              · cases k3
            | alloc t =>
              exfalso
              simp only [compK, ho] at k3
              split at k3
              · split at k3
                · simp only [Option.some.injEq] at k3
                  split at k3 <;> cases k3
                · cases k3
              · cases k3
            | binOp op t x y t' =>
              exfalso
              simp only [compK, ho] at k3
              repeat' (split at k3)
              all_goals first | (cases k3; done) | (cases iaK_isIa k3; done) | (simp at k3; done)
            | unOp op t x => cases op <;> simp [compK, ho] at k3
            | slice t x lo hi mx =>
              exfalso
              cases mx <;> simp only [compK, ho, reduceCtorEq] at k3
              repeat' (split at k3)
              all_goals first | (cases k3; done) | (cases iaK_isIa k3; done) | (simp at k3; done)
            | makeMap t r =>
              exfalso
              cases r <;> simp only [compK, ho, reduceCtorEq] at k3
              repeat' (split at k3)
              all_goals first | (cases k3; done)
            | _ =>
              exfalso
              simp only [compK, ho, reduceCtorEq] at k3
              try (repeat' (split at k3))
              all_goals first | (cases k3; done) | (cases iaK_isIa k3; done) | (simp at k3; done)
          obtain ⟨t, x', ho, hx⟩ := hbx
          refine AOps.named h1 (compG_none k2) (run_bxS ho hx hrd hp hone) fun r hr => ?_
          rw [← k1]
          exact evalC_sound hT cs _ (h r hr) ops is h3
        · exact h
      · split at h
        · rename_i x p hpev
          obtain ⟨hp, h⟩ := h
          intro ops idxs hc
          obtain ⟨i, is, o, rfl, h1, h2, h3⟩ := hc.cons
          obtain ⟨k1, k2, k3⟩ := compOp_inv h2 (by intro o' e; rw [e] at hpev; cases hpev)
          rw [hgr] at k2
          refine AOps.value h1 (compG_none k2) (pev_ok hT k3 hpev hp) ?_
          rw [← k1]
          exact evalC_sound hT cs _ h ops is h3
        · split at h
          · rename_i st1 x p heff
            obtain ⟨hp, h⟩ := h
            intro ops idxs hc
            obtain ⟨i, is, o, rfl, h1, h2, h3⟩ := hc.cons
            obtain ⟨k1, k2, k3⟩ := compOp_inv h2 (by intro o' e; rw [e] at heff; cases heff)
            rw [hgr] at k2
            refine AOps.value h1 (compG_none k2) (eff_ok hT k3 heff hp) ?_
            rw [← k1]
            exact evalC_sound hT cs _ h ops is h3
          · split at h
            · rename_i st1 x p heff
              obtain ⟨hp, h⟩ := h
              intro ops idxs hc
              obtain ⟨i, is, o, rfl, h1, h2, h3⟩ := hc.cons
              obtain ⟨k1, k2, k3⟩ := compOp_inv h2 (by intro o' e; rw [e] at heff; cases heff)
              rw [hgr] at k2
              refine AOps.value h1 (compG_none k2) (effA_ok hT k3 heff hp) ?_
              rw [← k1]
              exact evalC_sound hT cs _ h ops is h3
            · exact h
    · rename_i d want hgr
      split at h
      · rename_i g hgv
        split at h
        · rename_i x p hpev
          obtain ⟨hp, h⟩ := h
          intro ops idxs hc
          obtain ⟨i, is, o, rfl, h1, h2, h3⟩ := hc.cons
          obtain ⟨k1, k2, k3⟩ := compOp_inv h2 (by intro o' e; rw [e] at hpev; cases hpev)
          rw [hgr] at k2
          refine AOps.guarded h1 (gval_ok k2 hgv) (fun hgt => pev_ok hT k3 (by rw [← hgt]; exact hpev) (hp hgt)) ?_
          rw [← k1]
          exact evalC_sound hT cs _ h ops is h3
        · exact h
      · exact h
end

/-! Code. -/
inductive CC where
  | skip
  | reg (draw : Bool) (ops : List COp)
  | dreg (cs : List COp) (pr : List (List Nat))
  | seq (a b : CC)
  | cond (x : Opd) (a b : CC)
  | block (id : Nat) (a : CC)
  | loop (a : CC)
  | rangeF (x : Opd) (ps : Array Tmp) (a b : CC)
  | exit (id : Nat)
  | ret
  | other (c : Code)

def comp (T : TT) (esc : List Nat) : Code → CC
  | .skip => .skip
  | .region _ ops true => .dreg (ops.toList.map (compOp T esc ops)) (ops.toList.map fun o => (o.after.toList.filter (Region.binds .any)).map (·.on))
  | .region _ ops false => .reg false (ops.toList.map (compOp T esc ops))
  | .seq a b => .seq (comp T esc a) (comp T esc b)
  | .cond c a b => match cX T 0 c with
    | some x => .cond x (comp T esc a) (comp T esc b)
    | none => .other (.cond c a b)
  | .block id a => .block id (comp T esc a)
  | .loop a => .loop (comp T esc a)
  | .rangeFunc g ps a b => match cX T 0 g with
    | some x => .rangeF x ps (comp T esc a) (comp T esc b)
    | none => .other (.rangeFunc g ps a b)
  | .exit id => .exit id
  | .ret => .ret
  | c => .other c

def CWp (ro : Option Nat) (P : Program) (T : TT) (esc : List Nat) (cc : CC) (Q : AExit → St → Prop) (st : St) : Prop := ∀ c, comp T esc c = cc → AWp ro P c Q st
def CLoop (ro : Option Nat) (P : Program) (T : TT) (esc : List Nat) (cc : CC) (Q : AExit → St → Prop) (st : St) : Prop := ∀ c, comp T esc c = cc → ALoop ro P c Q st

section
variable {P : Program} {T : TT} {esc : List Nat} {Q : AExit → St → Prop} {st : St}

theorem CompL.all (ops : Array Oper) : ∀ (l : List Oper) (k : Nat), (∀ (j : Nat) o, l[j]? = some o → ops[k + j]? = some o) → CompL T esc ops (List.range' k l.length) (l.map (compOp T esc ops))
  | [], k, h => trivial
  | o :: l, k, h => by
    simp only [List.length_cons, List.range'_succ, List.map_cons]
    exact ⟨⟨o, by simpa using h 0 o (by simp), rfl⟩, CompL.all ops l (k + 1) fun j o' hj => by
      have := h (j + 1) o' (by simpa using hj)
      rwa [show k + 1 + j = k + (j + 1) by omega]⟩

theorem CWp.skip (h : Q .normal st) : CWp ro P T esc .skip Q st := by
  intro c hc
  cases c with
  | skip => exact AWp.skip h
  | cond x a b => simp only [comp] at hc; split at hc <;> cases hc
  | rangeFunc g ps a b => simp only [comp] at hc; split at hc <;> cases hc
  | region id ops draw => cases draw <;> cases hc
  | _ => cases hc
theorem CWp.ret (h : Q .ret st) : CWp ro P T esc .ret Q st := by
  intro c hc
  cases c with
  | ret => exact AWp.ret h
  | cond x a b => simp only [comp] at hc; split at hc <;> cases hc
  | rangeFunc g ps a b => simp only [comp] at hc; split at hc <;> cases hc
  | region id ops draw => cases draw <;> cases hc
  | _ => cases hc
theorem CWp.exit {id : Nat} (h : Q (.exit id) st) : CWp ro P T esc (.exit id) Q st := by
  intro c hc
  cases c with
  | exit id => cases hc; exact AWp.exit h
  | cond x a b => simp only [comp] at hc; split at hc <;> cases hc
  | rangeFunc g ps a b => simp only [comp] at hc; split at hc <;> cases hc
  | region id ops draw => cases draw <;> cases hc
  | _ => cases hc
theorem CWp.seq {a b : CC} (h : CWp ro P T esc a (thenA (CWp ro P T esc b Q) Q) st) : CWp ro P T esc (.seq a b) Q st := by
  intro c hc
  cases c with
  | seq x y =>
    cases hc
    refine AWp.seq ((h x rfl).mono ?_)
    intro e st' hq
    cases e with
    | normal => exact hq y rfl
    | _ => exact hq
  | cond x a b => simp only [comp] at hc; split at hc <;> cases hc
  | rangeFunc g ps a b => simp only [comp] at hc; split at hc <;> cases hc
  | region id ops draw => cases draw <;> cases hc
  | _ => cases hc
theorem CWp.block {id : Nat} {a : CC} (h : CWp ro P T esc a (blockA id Q) st) : CWp ro P T esc (.block id a) Q st := by
  intro c hc
  cases c with
  | block id x => cases hc; exact AWp.block (h x rfl)
  | cond x a b => simp only [comp] at hc; split at hc <;> cases hc
  | rangeFunc g ps a b => simp only [comp] at hc; split at hc <;> cases hc
  | region id ops draw => cases draw <;> cases hc
  | _ => cases hc
theorem CWp.loop {a : CC} (h : CLoop ro P T esc a Q st) : CWp ro P T esc (.loop a) Q st := by
  intro c hc
  cases c with
  | loop x => cases hc; exact AWp.loop (h x rfl)
  | cond x a b => simp only [comp] at hc; split at hc <;> cases hc
  | rangeFunc g ps a b => simp only [comp] at hc; split at hc <;> cases hc
  | region id ops draw => cases draw <;> cases hc
  | _ => cases hc
theorem CLoop.unroll {a : CC} (h : CWp ro P T esc a (thenA (CLoop ro P T esc a Q) Q) st) : CLoop ro P T esc a Q st := by
  intro c hc
  refine ALoop.unroll ((h c hc).mono ?_)
  intro e st' hq
  cases e with
  | normal => exact hq c hc
  | _ => exact hq
theorem CWp.mono {a : CC} {Q' : AExit → St → Prop} (h : CWp ro P T esc a Q st) (hQ : ∀ x st, Q x st → Q' x st) : CWp ro P T esc a Q' st := fun c hc => (h c hc).mono hQ
theorem CLoop.mono {a : CC} {Q' : AExit → St → Prop} (h : CLoop ro P T esc a Q st) (hQ : ∀ x st, Q x st → Q' x st) : CLoop ro P T esc a Q' st := fun c hc => (h c hc).mono hQ
theorem CWp.cond {x : Opd} {b : Bool} {p q : CC} (hx : st.get x = .v (.bool b)) (ht : b = true → CWp ro P T esc p Q st) (hf : b = false → CWp ro P T esc q Q st) : CWp ro P T esc (.cond x p q) Q st := by
  intro c hc
  cases c with
  | cond y a d =>
    simp only [comp] at hc
    split at hc
    · rename_i x' hx'
      cases hc
      refine AWp.cond (cX_is hx') hx ?_
      cases b
      · exact hf rfl d rfl
      · exact ht rfl a rfl
    · cases hc
  | rangeFunc g ps a b => simp only [comp] at hc; split at hc <;> cases hc
  | region id ops draw => cases draw <;> cases hc
  | _ => cases hc
theorem CWp.reg (hT : TTOk P T) {cs : List COp} (h : evalC ro P T esc Q cs st) : CWp ro P T esc (.reg false cs) Q st := by
  intro c hc
  cases c with
  | region id ops draw =>
    cases draw with
    | true => cases hc
    | false =>
    simp only [comp] at hc
    cases hc
    refine AWp.region (evalC_sound hT _ _ h ops _ ?_)
    have := CompL.all (T := T) (esc := esc) ops ops.toList 0 (fun j o hj => by simpa using hj)
    simpa [List.range_eq_range'] using this
  | cond x a b => simp only [comp] at hc; split at hc <;> cases hc
  | rangeFunc g ps a b => simp only [comp] at hc; split at hc <;> cases hc
  | _ => cases hc

theorem ACalls.of_cc {f : FuncId} {fn : Func} {c : Code} {args : List AV} {M : Mem} {R : AEnd → Mem → Prop} (k : Nat) (cc : CC) (hf : P.funcs[f]? = some fn) (hb : fn.body = some c) (hn : fn.ntmps - args.length = k) (hc : comp T esc c = cc)
    (h : CWp none P T esc cc (Fin P fn R) { tmps := args.map .v ++ List.replicate k .junk, loc := [], rows := [], defs := [], M := M }) : ACalls P f args M R :=
  ACalls.of_wp k hf hb hn (h c hc)

theorem compK_call {o : Oper} {f : FuncId} {xs : List Opd} (k3 : compK T esc o = some (.call f xs)) : ∃ c, o.op = .call c ∧ c.callee = .value (.func f) ∧ cXL T c.argTypes.toList c.args.toList = some xs := by
  cases ho : o.op with
  | call c =>
    simp only [compK, ho] at k3
    split at k3
    · rename_i f' hcal
      simp only [Option.map_eq_some_iff] at k3
      obtain ⟨xs', hxs, he⟩ := k3
      cases he
      exact ⟨c, rfl, hcal, hxs⟩
    all_goals
      exfalso
      try (repeat' (split at k3))
      all_goals first | (cases k3; done) | (cases iaK_isIa k3; done) | (simp at k3; done)
  | binOp op t x y t' =>
    exfalso
    simp only [compK, ho] at k3
    repeat' (split at k3)
    all_goals first | (cases k3; done) | (cases iaK_isIa k3; done) | (simp at k3; done)
  | unOp op t x => cases op <;> simp [compK, ho] at k3
  | slice t x lo hi mx =>
    exfalso
    cases mx <;> simp only [compK, ho, reduceCtorEq] at k3
    repeat' (split at k3)
    all_goals first | (cases k3; done) | (cases iaK_isIa k3; done) | (simp at k3; done)
  | makeMap t r =>
    exfalso
    cases r <;> simp only [compK, ho, reduceCtorEq] at k3
    repeat' (split at k3)
    all_goals first | (cases k3; done)
  | box t x =>
    exfalso
    simp only [compK, ho] at k3
    split at k3
    · simp only [Option.map_eq_some_iff] at k3
      obtain ⟨_, _, k3⟩ := k3
      split at k3 <;> cases k3
    · cases k3
  | alloc t =>
    exfalso
    simp only [compK, ho] at k3
    split at k3
    · split at k3
      · simp only [Option.some.injEq] at k3
        split at k3 <;> cases k3
      · cases k3
    · cases k3
  | _ =>
    exfalso
    simp only [compK, ho, reduceCtorEq] at k3
    try (repeat' (split at k3))
    all_goals first | (cases k3; done) | (cases iaK_isIa k3; done) | (simp at k3; done)

theorem compK_callv {o : Oper} {fo : Opd} {xs : List Opd} (k3 : compK T esc o = some (.callv fo xs)) : ∃ c y, o.op = .call c ∧ c.callee = .value y ∧ IsOpd fo y ∧ cXL T c.argTypes.toList c.args.toList = some xs := by
  cases ho : o.op with
  | call c =>
    simp only [compK, ho] at k3
    split at k3
    · simp at k3
    · rename_i y hno hcal
      split at k3
      · rename_i f1 xs1 hf hxs
        cases k3
        exact ⟨c, y, rfl, hcal, cX_is hf, hxs⟩
      · cases k3
    all_goals
      exfalso
      try (repeat' (split at k3))
      all_goals first | (cases k3; done) | (cases iaK_isIa k3; done) | (simp at k3; done)
  | binOp op t x y t' =>
    exfalso
    simp only [compK, ho] at k3
    repeat' (split at k3)
    all_goals first | (cases k3; done) | (cases iaK_isIa k3; done) | (simp at k3; done)
  | unOp op t x => cases op <;> simp [compK, ho] at k3
  | slice t x lo hi mx =>
    exfalso
    cases mx <;> simp only [compK, ho, reduceCtorEq] at k3
    repeat' (split at k3)
    all_goals first | (cases k3; done) | (cases iaK_isIa k3; done) | (simp at k3; done)
  | makeMap t r =>
    exfalso
    cases r <;> simp only [compK, ho, reduceCtorEq] at k3
    repeat' (split at k3)
    all_goals first | (cases k3; done)
  | box t x =>
    exfalso
    simp only [compK, ho] at k3
    split at k3
    · simp only [Option.map_eq_some_iff] at k3
      obtain ⟨_, _, k3⟩ := k3
      split at k3 <;> cases k3
    · cases k3
  | alloc t =>
    exfalso
    simp only [compK, ho] at k3
    split at k3
    · split at k3
      · simp only [Option.some.injEq] at k3
        split at k3 <;> cases k3
      · cases k3
    · cases k3
  | _ =>
    exfalso
    simp only [compK, ho, reduceCtorEq] at k3
    try (repeat' (split at k3))
    all_goals first | (cases k3; done) | (cases iaK_isIa k3; done) | (simp at k3; done)

/-- A call of a function. -/
theorem callIs_call {o : Oper} {c : Call} {f : FuncId} {xs : List Opd} {vs : List AV} {p : Prop} (ho : o.op = .call c) (hc : c.callee = .value (.func f)) (hx : xs.length = c.args.toList.length ∧ ∀ (i : Nat) (x : Opd), xs[i]? = some x → ∃ y, c.args.toList[i]? = some y ∧ IsOpd x y) (hbody : ∃ fn, P.funcs[f]? = some fn ∧ fn.body.isNone = false ∧ fn.name ≠ "runtime.NumGoroutine")
    (hv : rdL true st.get xs = some (vs, p)) (hp : p) : CallIs P o st f vs := by
  intro B E F blk rw a w hr
  have hrep := rdL_rep hr hx.1 hx.2 hv hp
  obtain ⟨fn, h1, h2, h3⟩ := hbody
  refine ⟨c.args.map a.eval, ?_, by simpa using hrep⟩
  simp only [execOp, ho, resolve, hc, Act.eval, Deferred.ofValue, Sem.run_bind, Sem.run_pure, Result.andThen_ok, invoke, callFunc, run_program, h1]
  have h3' : (fn.name == "runtime.NumGoroutine") = false := by simpa using h3
  simp [h2, h3', Act.eval]

/-- What a call needs of the callee. -/
def Has (P : Program) (f : FuncId) : Prop := ∃ fn, P.funcs[f]? = some fn ∧ fn.body.isNone = false ∧ fn.name ≠ "runtime.NumGoroutine"

/-- Whom a call calls, with what. -/
def tgt (k : CK) (st : St) : Option (FuncId × List AV × Prop) :=
  match k with
  | .call f xs => match rdL true st.get xs with
    | some (vs, p) => some (f, vs, p)
    | none => none
  | .callv fo xs => match rd true (st.get fo), rdL true st.get xs with
    | some (.fn (.func g) a b, p), some (vs, q) => some (g, a ++ vs ++ b, p ∧ q)
    | _, _ => none
  | _ => none

theorem tgt_congr {k : CK} {s s' : St} (h : Agree s s' k.looks) : tgt k s = tgt k s' := by
  cases k with
  | call f xs => simp only [tgt]; rw [rdL_congr (Agree.flat h)]
  | callv fo xs => simp only [tgt]; rw [Agree.get (x := fo) h.left, rdL_congr (Agree.flat h.right)]
  | _ => rfl

theorem callIs_tgt {k : CK} {o : Oper} {f : FuncId} {vs : List AV} {p : Prop} (hk : compK T esc o = some k) (hv : tgt k st = some (f, vs, p)) (hp : p) (hbody : Has P f) : CallIs P o st f vs := by
  cases k with
  | call f' xs =>
    obtain ⟨c, ho, hc, hxs⟩ := compK_call hk
    simp only [tgt] at hv
    split at hv
    · rename_i vs' p' hr
      cases hv
      exact callIs_call ho hc (cXL_is hxs) hbody hr hp
    · cases hv
  | callv fo xs =>
    obtain ⟨c, y, ho, hc, hy, hxs⟩ := compK_callv hk
    simp only [tgt] at hv
    split at hv
    · rename_i g a b p' vs' q' h1 h2
      cases hv
      obtain ⟨hp1, hp2⟩ := hp
      intro B E F blk rw ac w hr
      have hrep := rdL_rep hr (cXL_is hxs).1 (cXL_is hxs).2 h2 hp2
      obtain ⟨a', b', e1, e2, e3⟩ := (hr.rd hy h1 hp1).fn_inv
      obtain ⟨fn, h1, h2, h3⟩ := hbody
      refine ⟨a'.toArray ++ c.args.map ac.eval ++ b'.toArray, ?_, ?_⟩
      · simp only [execOp, ho, resolve, hc, e1, Deferred.ofValue, Sem.run_bind, Sem.run_pure, Result.andThen_ok, invoke, callFunc, run_program, h1]
        have h3' : (fn.name == "runtime.NumGoroutine") = false := by simpa using h3
        simp [h2, h3']
      · simp only [Array.toList_append, Array.toList_map]
        exact (e2.append (by simpa using hrep)).append e3
    · cases hv
  | _ => cases hv

theorem COps.call {d : Option Nat} {f : FuncId} {k : CK} {cs : List COp} (hbody : Has P f) {vs : List AV} {p : Prop} (hv : tgt k st = some (f, vs, p)) (hp : p)
    (h : ACalls P f vs st.M fun x M' => match x with
      | .ret v => COps ro P T esc cs Q ({ st with M := M' }.put d (.v v))
      | .panic v => Q (.panic v) { st with M := M' }) : COps ro P T esc ({ dst := d, grd := none, k := k } :: cs) Q st := by
  intro ops idxs hc
  obtain ⟨i, is, o, rfl, h1, h2, h3⟩ := hc.cons
  obtain ⟨k1, k2, k3⟩ := compOp_inv h2 (by intro o' e; simp only at e; rw [e] at hv; cases hv)
  simp only at k1 k2 k3
  refine AOps.call h1 (compG_none k2) (callIs_tgt k3 hv hp hbody) (h.mono ?_)
  intro x M' hx
  cases x with
  | ret v =>
    rw [← k1]
    exact hx ops is h3
  | panic v => exact hx
end


section
variable {P : Program} {T : TT} {esc : List Nat} {Q : AExit → St → Prop} {st : St}
theorem dctx_of {id : Nat} {ops : Array Oper} : DCtx T esc ops (ops.toList.map (compOp T esc ops)) (ops.toList.map fun o => (o.after.toList.filter (Region.binds .any)).map (·.on)) := by
  refine ⟨by simp, fun i c hc => ?_, fun i o ho => ?_⟩
  · rw [List.getElem?_map, Option.map_eq_some_iff] at hc
    obtain ⟨o, h1, h2⟩ := hc
    exact ⟨o, by simpa using h1, h2⟩
  · rw [List.getD_eq_getElem?_getD, List.getElem?_map]
    have : ops.toList[i]? = some o := by simpa using ho
    rw [this]
    rfl

theorem CWp.dreg (hm : P.follows .mixedOrders = true) (hT : TTOk P T) {cs : List COp} {pr ck : List (List Nat)} {l : List (Nat × COp × List Nat)} (hok : DrawOk cs pr ck l) (h : evalD ro P T esc cs pr ck Q l [] st) : CWp ro P T esc (.dreg cs pr) Q st := by
  intro c hc
  cases c with
  | region id ops draw =>
    cases draw with
    | false => cases hc
    | true =>
      simp only [comp] at hc
      cases hc
      exact AWp.draw hm (dctx_of (id := id)) hok (evalD_sound hT _ _ _ h)
  | cond x a b => simp only [comp] at hc; split at hc <;> cases hc
  | rangeFunc g ps a b => simp only [comp] at hc; split at hc <;> cases hc
  | _ => cases hc

theorem DOps.call {cs : List COp} {pr ck : List (List Nat)} {R : List (Nat × Fact)} (hT : TTOk P T) {i : Nat} {d : Option Nat} {f : FuncId} {k : CK} {chk : List Nat} {l : List (Nat × COp × List Nat)} (hbody : Has P f) {vs : List AV} {p : Prop} (hkq : k.quiet = false) (hv : tgt k st = some (f, vs, p)) (hp : p)
    (h : ACalls P f vs st.M fun x M' => match x with
      | .ret v => facts R chk st.loc M' ∧ DOps ro P T esc cs pr ck Q R l ({ st with M := M' }.put d (.v v))
      | .panic v => ∀ sa : St, sa.M = M' → sa.defs = st.defs → Q (.panic v) sa) : DOps ro P T esc cs pr ck Q R ((i, { dst := d, grd := none, k := k }, chk) :: l) st := by
  intro ops hx hlt hl
  obtain ⟨hi, hck⟩ := hl i { dst := d, grd := none, k := k } chk (by simp)
  refine DAny.steps hT hx hlt (fun e => by simp at e) fun N l' e => ?_
  simp only [List.map_cons, List.cons.injEq] at e
  obtain ⟨rfl, rfl⟩ := e
  refine ⟨_, hi, hkq, fun D sa hrun hap B E F blk rw a w hr => ?_⟩
  have hsame := QRun.same hrun fun q hq cq hcq => (hap q hq cq hcq).1
  obtain ⟨o, ho, hc⟩ := hx.get i _ hi
  obtain ⟨k1, k2, k3⟩ := compOp_inv hc (by intro o' e; simp only at e; rw [e] at hv; cases hv)
  simp only at k1 k2 k3
  unfold wpOpIn
  simp only [ho]
  rw [if_pos (by simp [Region.wanted, compG_none k2])]
  have hva : tgt k sa = some (f, vs, p) := by
    rw [← hv]
    have := hsame.agree
    unfold COp.looks at this
    exact (tgt_congr this.left).symm
  obtain ⟨cargs, hrun', hargs⟩ := callIs_tgt (st := sa) k3 hva hp hbody B E F blk rw a w hr
  obtain ⟨MM, hm⟩ := hr.mem
  have hMe : sa.M = st.M := hsame.M
  rw [hMe] at hm
  refine uponIn_run hrun' (by simp) ⟨fun e => by simp at e, callsR ((h B E MM w cargs hm.sub hm.sim hargs).mono ?_)⟩
  rintro e w' ⟨x, M', MM', E', hR, hxe, hE, hsub, hfr, hs, hb⟩
  rw [← hMe] at hm hfr
  have hrel := Rel.called (a := a) hm hr.tmps hr.defs hE hsub hfr hs
  cases e with
  | returned c =>
    cases x with
    | ret v =>
      obtain ⟨hf, hd⟩ := hR
      refine ⟨⟨sa.loc, sa.rows, M', .v v⟩, E', blk, rw, hE, ?_, hb, fun q hq' hqc f hfR => ?_, ?_⟩
      · show Rel B E' F blk rw (({ sa with M := M' } : St).put d (.v v)) (a.put o.dst c) w'
        rw [k1]
        exact hrel.put o.dst (x := .v v) hxe
      · have hf' := facts_of hf q (by rw [← hck]; exact hqc) f hfR
        have : sa.loc = st.loc := hsame.loc
        rw [← this] at hf'
        exact hf'
      · have h2 := hd ops hx hlt fun i c chk hm => hl i c chk (List.mem_cons_of_mem _ hm)
        have e1 : sa.loc = st.loc := hsame.loc
        have e2 : sa.rows = st.rows := hsame.rows
        simp only [St.upd, e1, e2]
        exact h2
    | panic v => exact hxe.elim
  | panicked chain =>
    cases x with
    | ret v => exact hxe.elim
    | panic v => exact ⟨.panic v, _, E', blk, rw, hR { sa with M := M' } rfl hsame.defs, hxe, hE, hrel, hb⟩
  | outgrown => cases x <;> exact hxe.elim
end
end Go.Am

namespace Go.Am
/-- A table of types as a list. -/
def lookT : List (Nat × TI) → Nat → Option TI
  | [], _ => none
  | (k, i) :: l, t => match Nat.beq k t with
    | true => some i
    | false => lookT l t
def AllOk (P : Program) : List (Nat × TI) → Prop
  | [] => True
  | (k, i) :: l => TIOk P k i ∧ AllOk P l
theorem lookT_ok {P : Program} : ∀ {l : List (Nat × TI)}, AllOk P l → TTOk P (lookT l)
  | [], _, t, i, h => by cases h
  | (k, j) :: l, h, t, i, ht => by
    unfold lookT at ht
    split at ht
    · rename_i hk
      cases ht
      have : k = t := Nat.eq_of_beq_eq_true hk
      subst this
      exact h.1
    · exact lookT_ok h.2 t i ht
end Go.Am
/- Calls under guards, calls without effect. -/
set_option linter.unusedSectionVars false
set_option linter.unusedVariables false
set_option linter.unusedSimpArgs false
namespace Go.Am
open Go.RowKit
variable [Inhabited LaidBox] {ro : Option Nat}

/-- A contract without effect. -/
def Pure (P : Program) (f : FuncId) (args : List AV) (v : AV) : Prop := ∀ M, ACalls P f args M fun e M' => e = .ret v ∧ M' = M

section
variable {P : Program} {T : TT} {esc : List Nat} {Q : AExit → St → Prop} {st : St}

theorem AOps.pureg {ops : Array Oper} {i : Nat} {rest : List Nat} {o : Oper} {f : FuncId} {args : List AV} {v : AV} {g : Bool} (ho : ops[i]? = some o)
    (hg : ∀ B E F blk rw a w, Rel B E F blk rw st a w → Region.wanted o (yielded ops a.tmps) = g)
    (hc : g = true → CallIs P o st f args) (hp : g = true → Pure P f args v) {x : TV} (hx : (x = .v v ∧ g = true) ∨ x = .opt g (.v v))
    (h : AOps ro P ops rest Q (st.put o.dst x)) : AOps ro P ops (i :: rest) Q st := by
  intro B E F blk rw a w hr
  simp only [wpOpsIn, ho]
  have hw := hg B E F blk rw a w hr
  cases g with
  | false =>
    rw [if_neg (by rw [hw]; simp)]
    refine ⟨fun _ _ => trivial, ?_⟩
    obtain ⟨_, h0⟩ | rfl := hx
    · cases h0
    · exact h B E F blk rw _ w (hr.put o.dst ⟨fun e => by simp at e, fun _ => rfl⟩)
  | true =>
    rw [if_pos hw]
    obtain ⟨cargs, hrun, hargs⟩ := hc rfl B E F blk rw a w hr
    obtain ⟨MM, hm⟩ := hr.mem
    refine uponIn_run hrun (by simp) ⟨fun e => by simp at e, callsR ((hp rfl st.M B E MM w cargs hm.sub hm.sim hargs).mono ?_)⟩
    rintro e w' ⟨y, M', MM', E', ⟨hy, rfl⟩, hxe, hE, hsub, hfr, hs, hb⟩
    subst hy
    have hrel := Rel.called (a := a) hm hr.tmps hr.defs hE hsub hfr hs
    cases e with
    | returned c =>
      have hxv : RelV E' blk rw x c := by
        obtain ⟨rfl, _⟩ | rfl := hx
        · exact hxe
        · exact ⟨fun _ => hxe, fun e => by simp at e⟩
      exact wpOpsR_mono (fun e a' w'' ho => ho.weaken hE hb fun _ _ h => h) rest _ _ (h B E' F blk rw _ w' (hrel.put o.dst hxv))
    | panicked chain => exact hxe.elim
    | outgrown => exact hxe.elim

/-- The value of a call without effect. -/
def cval (grd : Option (Nat × Bool)) (st : St) (v : AV) : Option (Bool × TV) :=
  match grd with
  | none => some (true, .v v)
  | some (d, want) => match gval st d want with
    | some g => some (g, .opt g (.v v))
    | none => none

theorem COps.pure {d : Option Nat} {grd : Option (Nat × Bool)} {f : FuncId} {k : CK} {cs : List COp} (hbody : Has P f) {vs : List AV} {v : AV} {p : Prop} {g : Bool} {x : TV} (hgv : cval grd st v = some (g, x)) (hv : tgt k st = some (f, vs, p)) (hp : g = true → p)
    (hc : g = true → Pure P f vs v) (h : COps ro P T esc cs Q (st.put d x)) : COps ro P T esc ({ dst := d, grd := grd, k := k } :: cs) Q st := by
  intro ops idxs hcl
  obtain ⟨i, is, o, rfl, h1, h2, h3⟩ := hcl.cons
  obtain ⟨k1, k2, k3⟩ := compOp_inv h2 (by intro o' e; simp only at e; rw [e] at hv; cases hv)
  simp only at k1 k2 k3
  have hh := h ops is h3
  rw [k1] at hh
  unfold cval at hgv
  cases grd with
  | none =>
    cases hgv
    exact AOps.pureg h1 (fun B E F blk rw a w hr => by simp [Region.wanted, compG_none k2]) (fun e => callIs_tgt k3 hv (hp e) hbody) hc (.inl ⟨rfl, rfl⟩) hh
  | some dw =>
    obtain ⟨d0, want⟩ := dw
    simp only at hgv
    split at hgv
    · rename_i g' hg'
      cases hgv
      exact AOps.pureg h1 (gval_ok k2 hg') (fun e => callIs_tgt k3 hv (hp e) hbody) hc (.inr rfl) hh
    · cases hgv

/-- A call under a guard. -/
theorem COps.callg {d : Option Nat} {d0 : Nat} {want : Bool} {k : CK} {cs : List COp} (hno : ∀ o, k ≠ .other o) {g : Bool} (hgv : gval st d0 want = some g)
    (h1 : g = true → ∃ f vs p, Has P f ∧ tgt k st = some (f, vs, p) ∧ p ∧ ACalls P f vs st.M fun x M' => match x with
      | .ret v => COps ro P T esc cs Q ({ st with M := M' }.put d (.opt true (.v v)))
      | .panic v => Q (.panic v) { st with M := M' })
    (h2 : g = false → COps ro P T esc cs Q (st.put d (.opt false .junk))) : COps ro P T esc ({ dst := d, grd := some (d0, want), k := k } :: cs) Q st := by
  intro ops idxs hcl
  obtain ⟨i, is, o, rfl, e1, e2, e3⟩ := hcl.cons
  obtain ⟨k1, k2, k3⟩ := compOp_inv e2 hno
  simp only at k1 k2 k3
  intro B E F blk rw a w hr
  simp only [wpOpsIn, e1]
  have hw := gval_ok k2 hgv B E F blk rw a w hr
  cases g with
  | false =>
    rw [if_neg (by rw [hw]; simp)]
    refine ⟨fun _ _ => trivial, ?_⟩
    have := h2 rfl ops is e3
    rw [k1] at this
    exact this B E F blk rw _ w (hr.put o.dst ⟨fun e => by simp at e, fun _ => rfl⟩)
  | true =>
    rw [if_pos hw]
    obtain ⟨f, vs, p, hbody, hv, hp, hcall⟩ := h1 rfl
    obtain ⟨cargs, hrun, hargs⟩ := callIs_tgt k3 hv hp hbody B E F blk rw a w hr
    obtain ⟨MM, hm⟩ := hr.mem
    refine uponIn_run hrun (by simp) ⟨fun e => by simp at e, callsR ((hcall B E MM w cargs hm.sub hm.sim hargs).mono ?_)⟩
    rintro e w' ⟨x, M', MM', E', hR, hx, hE, hsub, hfr, hs, hb⟩
    have hrel := Rel.called (a := a) hm hr.tmps hr.defs hE hsub hfr hs
    cases e with
    | returned c =>
      cases x with
      | ret v =>
        have := hR ops is e3
        rw [k1] at this
        exact wpOpsR_mono (fun e a' w'' ho => ho.weaken hE hb fun _ _ h => h) _ _ _ (this B E' F blk rw _ w' (hrel.put o.dst ⟨fun _ => hx, fun e => by simp at e⟩))
      | panic v => exact hx.elim
    | panicked chain =>
      cases x with
      | ret v => exact hx.elim
      | panic v => exact ⟨.panic v, _, E', blk, rw, hR, hx, hE, hrel, hb⟩
    | outgrown => cases x <;> exact hx.elim

theorem cval_congr {grd : Option (Nat × Bool)} {s s' : St} {v : AV} (h : ∀ d w, grd = some (d, w) → s.tmps[d]? = s'.tmps[d]?) : cval grd s v = cval grd s' v := by
  cases grd with
  | none => rfl
  | some dw => obtain ⟨d, w⟩ := dw; simp only [cval]; rw [gval_congr (h d w rfl)]

/-- In a region whose order is drawn. -/
theorem DOps.pure {cs : List COp} {pr ck : List (List Nat)} {R : List (Nat × Fact)} (hT : TTOk P T) {i : Nat} {d : Option Nat} {grd : Option (Nat × Bool)} {f : FuncId} {k : CK} {chk : List Nat} {l : List (Nat × COp × List Nat)} (hbody : Has P f) {vs : List AV} {v : AV} {p : Prop} {g : Bool} {x : TV} (hkq : k.quiet = false) (hgv : cval grd st v = some (g, x)) (hv : tgt k st = some (f, vs, p)) (hp : g = true → p)
    (hc : g = true → Pure P f vs v) (hf : facts R chk st.loc st.M) (h : DOps ro P T esc cs pr ck Q R l (st.put d x)) : DOps ro P T esc cs pr ck Q R ((i, { dst := d, grd := grd, k := k }, chk) :: l) st := by
  intro ops hx hlt hl
  obtain ⟨hi, hck⟩ := hl i { dst := d, grd := grd, k := k } chk (by simp)
  refine DAny.steps hT hx hlt (fun e => by simp at e) fun N l' e => ?_
  simp only [List.map_cons, List.cons.injEq] at e
  obtain ⟨rfl, rfl⟩ := e
  refine ⟨_, hi, hkq, fun D sa hrun hap B E F blk rw a w hr => ?_⟩
  have hsame := QRun.same hrun fun q hq cq hcq => (hap q hq cq hcq).1
  obtain ⟨o, ho, hco⟩ := hx.get i _ hi
  obtain ⟨k1, k2, k3⟩ := compOp_inv hco (by intro o' e; simp only at e; rw [e] at hv; cases hv)
  simp only at k1 k2 k3
  have hag := hsame.agree
  unfold COp.looks at hag
  have hva : tgt k sa = some (f, vs, p) := by
    rw [← hv]
    exact (tgt_congr hag.left).symm
  have hgva : cval grd sa v = some (g, x) := by
    rw [← hgv]
    refine (cval_congr fun d w e => ?_).symm
    subst e
    exact hag.right d (by simp)
  have hfin : ∀ E' a' w', E.le E' → Below B w w' → Rel B E' F blk rw (sa.put d x) a' w' → ∃ u E'' blk'' rw'', E.le E'' ∧ Rel B E'' F blk'' rw'' (sa.upd d u) a' w' ∧ Below B w w' ∧ (∀ q ∈ D, q ∈ ck.getD i [] → ∀ f, (q, f) ∈ R → f u.loc u.M) ∧ DAny ro P ops cs pr ck Q R (l.map (·.1)) (st.upd d u) := by
    intro E' a' w' hE hb hrel
    refine ⟨⟨sa.loc, sa.rows, sa.M, x⟩, E', blk, rw, hE, hrel, hb, fun q hq' hqc f hfR => ?_, ?_⟩
    · have hf' := facts_of hf q (by rw [← hck]; exact hqc) f hfR
      have e1 : sa.loc = st.loc := hsame.loc
      have e2 : sa.M = st.M := hsame.M
      rw [← e1, ← e2] at hf'
      exact hf'
    · have h2 := h ops hx hlt fun i c chk hm => hl i c chk (List.mem_cons_of_mem _ hm)
      have e1 : sa.loc = st.loc := hsame.loc
      have e2 : sa.rows = st.rows := hsame.rows
      have e3 : sa.M = st.M := hsame.M
      simp only [St.upd, e1, e2, e3]
      exact h2
  have hw : Region.wanted o (yielded ops a.tmps) = g := by
    unfold cval at hgva
    cases grd with
    | none => cases hgva; simp [Region.wanted, compG_none k2]
    | some dw =>
      obtain ⟨d0, want⟩ := dw
      simp only at hgva
      split at hgva
      · rename_i g' hg'
        cases hgva
        exact gval_ok k2 hg' B E F blk rw a w hr
      · cases hgva
  have hxg : (x = .v v ∧ g = true) ∨ x = .opt g (.v v) := by
    unfold cval at hgva
    cases grd with
    | none => cases hgva; exact .inl ⟨rfl, rfl⟩
    | some dw =>
      obtain ⟨d0, want⟩ := dw
      simp only at hgva
      split at hgva
      · cases hgva; exact .inr rfl
      · cases hgva
  unfold wpOpIn
  simp only [ho]
  cases g with
  | false =>
    rw [if_neg (by rw [hw]; simp)]
    refine ⟨fun _ _ => trivial, ?_⟩
    obtain ⟨_, h0⟩ | rfl := hxg
    · cases h0
    · refine hfin E _ w (Env.le.refl E) (Below.refl B w) ?_
      rw [k1]
      exact hr.put o.dst ⟨fun e => by simp at e, fun _ => rfl⟩
  | true =>
    rw [if_pos hw]
    obtain ⟨cargs, hrun', hargs⟩ := callIs_tgt (st := sa) k3 hva (hp rfl) hbody B E F blk rw a w hr
    obtain ⟨MM, hm⟩ := hr.mem
    refine uponIn_run hrun' (by simp) ⟨fun e => by simp at e, callsR ((hc rfl sa.M B E MM w cargs hm.sub hm.sim hargs).mono ?_)⟩
    rintro e w' ⟨y, M', MM', E', ⟨hy, rfl⟩, hxe, hE, hsub, hfr, hs, hb⟩
    subst hy
    have hrel := Rel.called (a := a) hm hr.tmps hr.defs hE hsub hfr hs
    cases e with
    | returned c =>
      have hxv : RelV E' blk rw x c := by
        obtain ⟨rfl, _⟩ | rfl := hxg
        · exact hxe
        · exact ⟨fun _ => hxe, fun e => by simp at e⟩
      refine hfin E' _ w' hE hb ?_
      rw [k1]
      exact hrel.put o.dst hxv
    | panicked chain => exact hxe.elim
    | outgrown => exact hxe.elim
end
end Go.Am
/- Words for proofs over resolved code: the simp set, forgetting slots, entering functions. -/
set_option linter.unusedSectionVars false
set_option linter.unusedVariables false
set_option linter.unusedSimpArgs false
namespace Go.Am
open Go.RowKit
variable [Inhabited LaidBox] {ro : Option Nat}

attribute [go_sem] Nat.le_refl tgt findS setS cval evalC Int.toNat_natCast evalD qval qfact factOf facts memB CK.quiet CK.memk St.mem effA pev eff St.get St.put rd lp gval icmp scmp bcmp arith quorem nlB isNil bound fillA rdL pickT pickL extL TV.ext TV.sc AV.cells InR thenA blockA tupV
  List.getElem?_cons_succ List.getElem?_cons_zero Option.getD_some Option.getD_none List.set_cons_succ List.set_cons_zero List.map_cons List.map_nil List.cons_append List.nil_append
  List.replicate_succ List.replicate_zero List.length_cons List.length_nil List.take_succ_cons List.take_zero List.drop_succ_cons List.drop_zero List.getElem?_nil
  and_true true_and implies_true forall_const Bool.true_and Bool.and_true Bool.true_eq_false Bool.false_eq_true Option.map_some Option.map_none
  cond_true cond_false Bool.not_true Bool.not_false if_true if_false ite_true ite_false decide_true decide_false

@[go_sem] theorem am_cond_false (a b : Bool) : (bif a then b else false) = (a && b) := by cases a <;> rfl
@[go_sem] theorem am_cond_true (a b : Bool) : (bif a then true else b) = (a || b) := by cases a <;> rfl
@[go_sem] theorem am_beq_true (a : Bool) : (a == true) = a := by cases a <;> rfl
@[go_sem] theorem am_beq_false (a : Bool) : (a == false) = !a := by cases a <;> rfl
@[go_sem] theorem am_imp_self (a : Prop) : (a → a) = True := by simp
@[go_sem] theorem am_imp_imp (a : Prop) : (a → a → a) = True := by simp
@[go_sem] theorem am_not_imp (a : Bool) : (a = false → (!a) = true) = True := by cases a <;> simp
@[go_sem] theorem am_and_imp (a b : Bool) : ((a && b) = true → a = true) = True := by cases a <;> cases b <;> simp
@[go_sem] theorem am_and_imp' (a b : Bool) : ((a && b) = true → b = true) = True := by cases a <;> cases b <;> simp
@[go_sem] theorem am_imp_and (a b : Bool) : (a = true → b = true → (a && b) = true) = True := by cases a <;> cases b <;> simp
@[go_sem] theorem am_mem_one (p : AV → Prop) (x : AV) : (∀ y ∈ [x], p y) = p x := by simp
@[go_sem] theorem am_mem_cons (p : AV → Prop) (x : AV) (l : List AV) : (∀ y ∈ x :: l, p y) = (p x ∧ ∀ y ∈ l, p y) := by simp
@[go_sem] theorem am_mem_nil (p : AV → Prop) : (∀ y ∈ ([] : List AV), p y) = True := by simp
@[go_sem] theorem am_nat_add (a : Nat) : 0 + a = a := Nat.zero_add a

@[go_sem] theorem am_one_bool (b : Bool) : (AV.bool b).one = true := rfl
@[go_sem] theorem am_one_int (k : IntKind) (n : Int) : (AV.int k n).one = true := rfl
@[go_sem] theorem am_one_str (s : List UInt8) : (AV.str s).one = true := rfl
@[go_sem] theorem am_one_nilp  : (AV.nilp ).one = true := rfl
@[go_sem] theorem am_one_ptr (r o : Nat) : (AV.ptr r o).one = true := rfl
@[go_sem] theorem am_one_eptr (n : Nat) (es : List AV) (i o : Nat) : (AV.eptr n es i o).one = true := rfl
@[go_sem] theorem am_one_sl (w : Own) (n : Nat) (es : List AV) : (AV.sl w n es).one = true := rfl
@[go_sem] theorem am_one_map (r : Nat) : (AV.map r).one = true := rfl
@[go_sem] theorem am_one_nilmap  : (AV.nilmap ).one = true := rfl
@[go_sem] theorem am_one_fn (f : Fn) (a b : List AV) : (AV.fn f a b).one = true := rfl
@[go_sem] theorem am_one_nilfn  : (AV.nilfn ).one = true := rfl
@[go_sem] theorem am_one_iface (t : TypeId) (v : AV) : (AV.iface t v).one = true := rfl
@[go_sem] theorem am_one_niliface  : (AV.niliface ).one = true := rfl
@[go_sem] theorem am_one_raw (c : Value) : (AV.raw c).one = true := rfl
@[go_sem] theorem am_one_agg (l : List AV) : (AV.agg l).one = false := rfl
@[go_sem] theorem am_one_tup (l : List AV) : (AV.tup l).one = false := rfl
@[go_sem] theorem am_one_junk  : (AV.junk ).one = false := rfl

/-- One operation at a time. -/
theorem evalC_cons {P : Program} {T : TT} {esc : List Nat} {Q : AExit → St → Prop} {c : COp} {cs : List COp} {st : St} (hk : c.k.quiet = true) : evalC ro P T esc Q (c :: cs) st = (match qval c st with
    | some (x, p) => (match c.grd with
      | none => p ∧ evalC ro P T esc Q cs (st.put c.dst x)
      | some _ => p ∧ evalC ro P T esc Q cs (st.put c.dst x))
    | none => evalC ro P T esc Q (c :: cs) st) := by
  obtain ⟨d, g, k⟩ := c
  cases g with
  | none =>
    simp only [qval]
    cases hp : pev k true st with
    | none => rfl
    | some xp =>
      obtain ⟨x, p⟩ := xp
      cases k <;> first | (simp only [evalC, hp]; done) | (cases hk; done)
  | some dw =>
    obtain ⟨d0, w⟩ := dw
    simp only [qval]
    cases hg : gval st d0 w with
    | none => rfl
    | some g =>
      simp only []
      cases hp : pev k g st with
      | none => rfl
      | some xp =>
        obtain ⟨x, p⟩ := xp
        simp only [evalC, hg, hp]
theorem evalD_cons {P : Program} {T : TT} {esc : List Nat} {cs : List COp} {pr ck : List (List Nat)} {Q : AExit → St → Prop} {i : Nat} {c : COp} {chk : List Nat} {l : List (Nat × COp × List Nat)} {R : List (Nat × Fact)} {st : St} (hk : c.k.quiet = true) : evalD ro P T esc cs pr ck Q ((i, c, chk) :: l) R st = (match qval c st with
    | some (x, p) => p ∧ evalD ro P T esc cs pr ck Q l ((i, factOf chk c x st) :: R) (st.put c.dst x)
    | none => evalD ro P T esc cs pr ck Q ((i, c, chk) :: l) R st) := by
  cases hq : qval c st with
  | none => rfl
  | some xp =>
    obtain ⟨x, p⟩ := xp
    show evalD ro P T esc cs pr ck Q ((i, c, chk) :: l) R st = _
    simp only [evalD, hk, hq]

theorem evalD_step {P : Program} {T : TT} {esc : List Nat} {cs : List COp} {pr ck : List (List Nat)} {Q : AExit → St → Prop} {i : Nat} {c : COp} {chk : List Nat} {l : List (Nat × COp × List Nat)} {R : List (Nat × Fact)} {st : St}
    (h : match qval c st with
      | some (x, p) => p ∧ evalD ro P T esc cs pr ck Q l ((i, factOf chk c x st) :: R) (st.put c.dst x)
      | none => False) (hk : c.k.quiet = true := by decide) : evalD ro P T esc cs pr ck Q ((i, c, chk) :: l) R st := by
  rw [evalD_cons hk]
  split at h
  · exact h
  · exact h.elim
theorem evalC_step {P : Program} {T : TT} {esc : List Nat} {Q : AExit → St → Prop} {c : COp} {cs : List COp} {st : St}
    (h : match qval c st with
      | some (x, p) => (match c.grd with
        | none => p ∧ evalC ro P T esc Q cs (st.put c.dst x)
        | some _ => p ∧ evalC ro P T esc Q cs (st.put c.dst x))
      | none => False) (hk : c.k.quiet = true := by decide) : evalC ro P T esc Q (c :: cs) st := by
  rw [evalC_cons hk]
  split at h
  · exact h
  · exact h.elim

/-- Slots of which nothing is known any more. -/
def Junked : List TV → List TV → Prop
  | [], [] => True
  | a :: as, b :: bs => (b = .junk ∨ b = a) ∧ Junked as bs
  | _, _ => False

theorem Junked.rel {E : Env} {blk rw : List Nat} : ∀ {as bs : List TV} {cs : List Value}, Junked as bs → RelVL E blk rw as cs → RelVL E blk rw bs cs
  | [], [], _, _, h => h
  | a :: as, b :: bs, _, hj, .cons _ c _ cs h ht => by
    refine .cons _ _ _ _ ?_ (Junked.rel hj.2 ht)
    rcases hj.1 with rfl | rfl
    · trivial
    · exact h
  | [], _ :: _, _, hj, _ => hj.elim
  | _ :: _, [], _, hj, _ => hj.elim

theorem Junked.Rel {B : Nat} {E : Env} {F : Mem} {blk rw : List Nat} {st : St} {a : Act} {w : World} {t : List TV} (hj : Junked st.tmps t) (hr : Rel B E F blk rw st a w) : Rel B E F blk rw { st with tmps := t } a w :=
  ⟨hj.rel hr.tmps, hr.defs, hr.mem⟩

section
variable {P : Program} {T : TT} {esc : List Nat} {Q : AExit → St → Prop} {st : St}
theorem CLoop.junk {cc : CC} {t : List TV} (h : CLoop ro P T esc cc Q { st with tmps := t }) (hj : Junked st.tmps t) : CLoop ro P T esc cc Q st :=
  fun c hc B E F blk rw a w hr => h c hc B E F blk rw a w (hj.Rel hr)
theorem CWp.junk {cc : CC} {t : List TV} (h : CWp ro P T esc cc Q { st with tmps := t }) (hj : Junked st.tmps t) : CWp ro P T esc cc Q st :=
  fun c hc B E F blk rw a w hr => h c hc B E F blk rw a w (hj.Rel hr)

/-- A nil slice in a slot gets a name: from now on it is a row of the call's own. -/
theorem CWp.own {cc : CC} {i sz : Nat} (e : TypeId) (hi : st.tmps[i]? = some (.v (.sl .full sz []))) (h : CWp ro P T esc cc Q { st with tmps := st.tmps.set i (.lsl st.rows.length sz []), rows := st.rows ++ [(e, sz, 0)] }) : CWp ro P T esc cc Q st := by
  intro c hc B E F blk rw a w hr
  obtain ⟨E', rw', hE, hr'⟩ := hr.own_tmp e hi
  exact Code.wpIn_mono (fun e a' w' ho => ho.weaken hE (Below.refl B w) fun _ _ h => h) (h c hc B E' F blk rw' a w hr')
theorem CLoop.own {cc : CC} {i sz : Nat} (e : TypeId) (hi : st.tmps[i]? = some (.v (.sl .full sz []))) (h : CLoop ro P T esc cc Q { st with tmps := st.tmps.set i (.lsl st.rows.length sz []), rows := st.rows ++ [(e, sz, 0)] }) : CLoop ro P T esc cc Q st := by
  intro c hc B E F blk rw a w hr
  obtain ⟨E', rw', hE, hr'⟩ := hr.own_tmp e hi
  exact (h c hc B E' F blk rw' a w hr').mono fun e a' w' ho => ho.weaken hE (Below.refl B w) fun _ _ h => h
/-- A nil slice in a field of a variable that memory speaks of gets a name. -/
theorem CWp.ownM {cc : CC} {r k sz : Nat} {cs : List AV} (e : TypeId) (hM : st.M (.b r) = some (.cells cs)) (hk : cs[k]? = some (.sl .full sz []))
    (h : ∀ t, st.M (.w t) = none → CWp ro P T esc cc Q { st with M := (st.M.set (.w t) (.row e sz 0)).set (.b r) (.cells (cs.set k (.sl (.srow t) sz []))) }) : CWp ro P T esc cc Q st := by
  intro c hc B E F blk rw a w hr
  obtain ⟨E', t, hE, ht, hr'⟩ := hr.own_mem e hM hk
  exact Code.wpIn_mono (fun e a' w' ho => ho.weaken hE (Below.refl B w) fun _ _ h => h) (h t ht c hc B E' F blk rw a w hr')

/-- What a function's contract asks of its body. -/
theorem ACalls.of {f : FuncId} {fn : Func} {args : List AV} {M : Mem} {R : AEnd → Mem → Prop} (k : Nat) (cc : CC) (hf : P.funcs[f]? = some fn) (hb : fn.body.isSome = true) (hn : fn.ntmps - args.length = k) (hc : comp T esc (fn.body.getD .skip) = cc)
    (h : CWp none P T esc cc (Fin P fn R) { tmps := args.map .v ++ List.replicate k .junk, loc := [], rows := [], defs := [], M := M }) : ACalls P f args M R := by
  refine ACalls.of_cc k cc hf ?_ hn hc h
  cases hbb : fn.body with
  | none => rw [hbb] at hb; cases hb
  | some c => rfl

/-- One result, in a slot. -/
theorem Fin.ret1 {fn : Func} {R : AEnd → Mem → Prop} {x : AExit} {t : Nat} {v : AV} (hx : x = .ret ∨ x = .normal) (hres : fn.results = #[.tmp t]) (hd : st.defs = []) (hv : ((st.tmps[t]?).getD .junk).ext = some v) {M' : Mem} (hM : M'.sub st.M) (h : R (.ret v) M') : Fin P fn R x st := by
  have : ∃ vs, ResL P fn.results.toList st vs ∧ ∃ M', M'.sub st.M ∧ R (.ret (tupV vs)) M' := ⟨[v], by rw [hres]; exact .cons _ _ _ _ _ (.tmp hv) (.nil _), M', hM, h⟩
  rcases hx with rfl | rfl <;> exact ⟨hd, this⟩
theorem Fin.ret0 {fn : Func} {R : AEnd → Mem → Prop} {x : AExit} (hx : x = .ret ∨ x = .normal) (hres : fn.results = #[]) (hd : st.defs = []) {M' : Mem} (hM : M'.sub st.M) (h : R (.ret (.tup [])) M') : Fin P fn R x st := by
  have : ∃ vs, ResL P fn.results.toList st vs ∧ ∃ M', M'.sub st.M ∧ R (.ret (tupV vs)) M' := ⟨[], by rw [hres]; exact .nil _, M', hM, h⟩
  rcases hx with rfl | rfl <;> exact ⟨hd, this⟩
theorem Fin.ret2 {fn : Func} {R : AEnd → Mem → Prop} {x : AExit} {t u : Nat} {v v' : AV} (hx : x = .ret ∨ x = .normal) (hres : fn.results = #[.tmp t, .tmp u]) (hd : st.defs = []) (hv : ((st.tmps[t]?).getD .junk).ext = some v) (hv' : ((st.tmps[u]?).getD .junk).ext = some v') {M' : Mem} (hM : M'.sub st.M) (h : R (.ret (.tup [v, v'])) M') : Fin P fn R x st := by
  have : ∃ vs, ResL P fn.results.toList st vs ∧ ∃ M', M'.sub st.M ∧ R (.ret (tupV vs)) M' := ⟨[v, v'], by rw [hres]; exact .cons _ _ _ _ _ (.tmp hv) (.cons _ _ _ _ _ (.tmp hv') (.nil _)), M', hM, h⟩
  rcases hx with rfl | rfl <;> exact ⟨hd, this⟩
theorem Fin.ret3 {fn : Func} {R : AEnd → Mem → Prop} {x : AExit} {t u s : Nat} {v v' v'' : AV} (hx : x = .ret ∨ x = .normal) (hres : fn.results = #[.tmp t, .tmp u, .tmp s]) (hd : st.defs = []) (hv : ((st.tmps[t]?).getD .junk).ext = some v) (hv' : ((st.tmps[u]?).getD .junk).ext = some v') (hv'' : ((st.tmps[s]?).getD .junk).ext = some v'') {M' : Mem} (hM : M'.sub st.M) (h : R (.ret (.tup [v, v', v''])) M') : Fin P fn R x st := by
  have : ∃ vs, ResL P fn.results.toList st vs ∧ ∃ M', M'.sub st.M ∧ R (.ret (tupV vs)) M' := ⟨[v, v', v''], by rw [hres]; exact .cons _ _ _ _ _ (.tmp hv) (.cons _ _ _ _ _ (.tmp hv') (.cons _ _ _ _ _ (.tmp hv'') (.nil _))), M', hM, h⟩
  rcases hx with rfl | rfl <;> exact ⟨hd, this⟩
end

end Go.Am
/- Loops over functions: the record, rounds, yield, the marks at a function's end. -/
set_option linter.unusedSectionVars false
set_option linter.unusedVariables false
set_option linter.unusedSimpArgs false
namespace Go.Am
open Go.RowKit
variable [Inhabited LaidBox] {ro : Option Nat}

/-- What a slot's value is outside of the call. -/
def TV.av : TV → AV
  | .v x => x
  | _ => .junk
def avT : AV → TV
  | .junk => .junk
  | v => .v v
theorem RelV.av {E : Env} {blk rw : List Nat} {x : TV} {c : Value} (h : RelV E blk rw x c) : Rep E x.av c := by
  cases x <;> first | exact h | exact .junk c
theorem RelVL.av {E : Env} {blk rw : List Nat} : ∀ {xs : List TV} {cs : List Value}, RelVL E blk rw xs cs → RepL E (xs.map TV.av) cs
  | _, _, .nil => .nil
  | _, _, .cons x c xs cs h ht => .cons _ _ _ _ h.av (RelVL.av ht)
theorem Rep.avT {E : Env} {blk rw : List Nat} {v : AV} {c : Value} (h : Rep E v c) : RelV E blk rw (avT v) c := by
  cases v <;> first | exact h | exact trivial
theorem RepL.avT {E : Env} {blk rw : List Nat} : ∀ {vs : List AV} {cs : List Value}, RepL E vs cs → RelVL E blk rw (vs.map Am.avT) cs
  | _, _, .nil => .nil
  | _, _, .cons v c vs cs h ht => .cons _ _ _ _ h.avT (RepL.avT ht)

/-- The slots at the beginning of a round. -/
def roundT : List Tmp → List AV → List TV → List TV
  | p :: ps, a :: as, ts => roundT ps as (ts.set p (.v a))
  | _, _, ts => ts
theorem roundT_rel {E : Env} {blk rw : List Nat} : ∀ (ps : List Tmp) {as : List AV} {cs : List Value} {ts : List TV} {us : List Value}, RepL E as cs → RelVL E blk rw ts us →
    RelVL E blk rw (roundT ps as ts) ((ps.zip cs).foldl (fun us x => us.set x.1 x.2) us)
  | [], _, _, _, _, .nil, h => h
  | [], _, _, _, _, .cons .., h => h
  | _ :: _, _, _, _, _, .nil, h => h
  | p :: ps, _, _, _, _, .cons a c as cs ha ht, h => roundT_rel ps ht (h.set p (.v a) c ha)

theorem foldl_setR (l : List (Tmp × Value)) : ∀ us : Array Value, (l.foldl (fun us x => us.setIfInBounds x.1 x.2) us).toList = l.foldl (fun us x => us.set x.1 x.2) us.toList := by
  induction l with
  | nil => intro us; rfl
  | cons x l ih => intro us; rw [List.foldl_cons, ih, List.foldl_cons, Array.toList_setIfInBounds]
theorem round_tmps (ps : Array Tmp) (as us : Array Value) : ((ps.zip as).foldl (fun tmps (t, a) => tmps.setIfInBounds t a) us).toList = (ps.toList.zip as.toList).foldl (fun us x => us.set x.1 x.2) us.toList := by
  rw [← foldl_setR, ← Array.toList_zip, Array.foldl_toList]

/-- A call of the value that a loop over a function hands over. -/
def AYields (P : Program) (l : Nat) (args : List AV) (M : Mem) (R : AEnd → Mem → Prop) : Prop :=
  ∀ B E MM w (cargs : Array Value), M.sub MM → Sim B E MM w → RepL E args cargs.toList → ∃ fn tmps assign body, (Instr.yield l cargs).run P w = .ok (.round l fn tmps assign body) w ∧ RoundIn (wf none) 0 P l fn tmps assign body w (CallPost B E M MM w R)

theorem AYields.mono {P : Program} {l : Nat} {args : List AV} {M : Mem} {R R' : AEnd → Mem → Prop} (h : AYields P l args M R) (hR : ∀ x M', R x M' → R' x M') : AYields P l args M R' := by
  intro B E MM w cargs h1 h2 h3
  obtain ⟨fn, tmps, assign, body, k1, k2⟩ := h B E MM w cargs h1 h2 h3
  exact ⟨fn, tmps, assign, body, k1, k2.mono fun e w' ⟨x, M', MM', E', k, rest⟩ => ⟨x, M', MM', E', hR _ _ k, rest⟩⟩

theorem roundR {P : Program} {ro ro' : Option Nat} {n : Nat} {l : Nat} {f : FuncId} {tmps : Array Value} {assign body : Code} {w : World} {R : Ending → World → Prop} (h : RoundIn (wf ro) n P l f tmps assign body w R) : RoundIn (wf ro') n P l f tmps assign body w R := h

/-- A record turns. -/
theorem Rel.othSet {B : Nat} {E : Env} {F : Mem} {blk rw : List Nat} {st : St} {a : Act} {w : World} (hr : Rel B E F blk rw st a w) (r : Nat) (o o' : AObj) (ho : o.oth = true) (ho' : o'.oth = true) (hM : st.M (.b r) = some o) (c' : Obj) (hc : RepO E o' c') :
    Rel B E F blk rw { st with M := st.M.set (.b r) o' } a (w.putObj r c') ∧ Below B w (w.putObj r c') := by
  obtain ⟨MM, hm⟩ := hr.mem
  obtain ⟨G, nr, hs⟩ := hm.sim
  have hMM := hm.sub _ _ hM
  refine ⟨⟨hr.tmps, hr.defs, _, hm.setM hM ⟨G, nr, hs.oth_set r o o' ho ho' hMM c' hc⟩⟩, ?_⟩
  have hB := (hs.dom r _ hMM).1
  exact ⟨rfl, rfl, rfl, by simp, fun k hk => World.putObj_heap_other (by omega)⟩

theorem Rel.loop {B : Nat} {E : Env} {F : Mem} {blk rw : List Nat} {st : St} {a : Act} {w : World} (hr : Rel B E F blk rw st a w) {r : Nat} {L : LoopRec} (hM : st.M (.b r) = some (.loop L)) :
    ∃ c : Loop, w.heap[r]? = some (.loop c) ∧ RepO E (.loop L) (.loop c) := by
  obtain ⟨MM, hm⟩ := hr.mem
  obtain ⟨G, nr, hs⟩ := hm.sim
  obtain ⟨c, h1, h2⟩ := hs.mp r _ rfl (hm.sub _ _ hM)
  cases c <;> first | exact h2.elim | exact ⟨_, h1, h2⟩

/-- How a round's body may be left. -/
def roundA (l : Nat) (R : AEnd → Mem → Prop) : AExit → St → Prop
  | .normal, st => ∃ L, st.M (.b l) = some (.loop L) ∧ ∃ M', M'.sub (st.M.set (.b l) (.loop { L with state := .ready, pend := none })) ∧ R (.ret (.bool true)) M'
  | .ret, st => ∃ L, st.M (.b l) = some (.loop L) ∧ ∃ M', M'.sub (st.M.set (.b l) (.loop { L with state := .done, pend := some .ret })) ∧ R (.ret (.bool false)) M'
  | .exit id, st => ∃ L, st.M (.b l) = some (.loop L) ∧ ∃ M', M'.sub (st.M.set (.b l) (.loop { L with state := .done, pend := some (.exit id) })) ∧ R (.ret (.bool false)) M'
  | .panic _, _ => False

theorem AYields.of_wp {P : Program} {l : Nat} {args : List AV} {M : Mem} {R : AEnd → Mem → Prop} {L : LoopRec} (hM : M (.b l) = some (.loop L)) (hlen : args.length = L.ps.size)
    (h : AWp (some l) P L.assign (fun x st1 => x = .normal ∧ ∃ L', st1.M (.b l) = some (.loop L') ∧ L'.state = .ready ∧
        AWp (some l) P L.body (roundA l R) { st1 with M := st1.M.set (.b l) (.loop { L' with state := .busy }) })
      { tmps := roundT L.ps.toList args (L.vs.map avT), loc := [], rows := [], defs := [], M := M }) : AYields P l args M R := by
  intro B E MM w cargs hsub hs hargs
  obtain ⟨G, nr, hs0⟩ := id hs
  obtain ⟨c, hc1, hc2⟩ := hs0.mp l _ rfl (hsub _ _ hM)
  cases c <;> try exact hc2.elim
  rename_i rec
  obtain ⟨q1, q2, q3, q4, q5, q6, q7, q8⟩ := hc2
  have hsz : cargs.size = rec.params.size := by rw [q5, ← hlen]; simpa using hargs.length
  refine ⟨_, _, _, _, run_yield hc1 hsz, ?_⟩
  have hst : Rel B E (fun r => if (M r).isNone then MM r else none) [] [] { tmps := roundT L.ps.toList args (L.vs.map avT), loc := [], rows := [], defs := [], M := M } { tmps := (rec.params.zip cargs).foldl (fun tmps (t, a) => tmps.setIfInBounds t a) rec.tmps, defers := [] } w := by
    refine ⟨?_, .nil, MM, hs, hsub, ?_, ?_, ?_, rfl, rfl⟩
    · rw [round_tmps, q5]
      exact roundT_rel _ hargs q4.avT
    · intro r o h
      split at h
      · rename_i hn
        exact ⟨h, by simpa using hn, fun b _ i tvs hi => by simp at hi, fun t _ i x hi => by simp at hi⟩
      · cases h
    · intro i tvs hi; simp at hi
    · intro i e sz n hi; simp at hi
  refine roundIn_of_wpIn trivial ?_
  rw [q6]
  have hpost : ∀ {E' blk rw st a1 w1 L'} {jump : Option Code} {st' : LoopState}, E.le E' → Rel B E' (fun r => if (M r).isNone then MM r else none) blk rw st a1 w1 → Below B w w1 → st.M (.b l) = some (.loop L') → (∃ M', M'.sub (st.M.set (.b l) (.loop { L' with state := st', pend := jump })) ∧ R (.ret (.bool jump.isNone)) M') → st' = (if jump.isNone then .ready else .done) →
      ∃ v w', (Instr.endRound l jump).run P w1 = .ok v w' ∧ CallPost B E M MM w R (.returned v) w' := by
    intro E' blk rw st a1 w1 L' jump st' hE hr hb hL ⟨M', hM', hR⟩ hst'
    obtain ⟨c1, g1, g2⟩ := hr.loop hL
    refine ⟨_, _, run_endRound jump g1, ?_⟩
    obtain ⟨hr', hb'⟩ := hr.othSet l _ (.loop { L' with state := st', pend := jump }) rfl rfl hL (.loop { c1 with state := if jump.isNone then .ready else .done, pending := jump }) (by
      obtain ⟨p1, p2, p3⟩ := g2
      exact ⟨hst'.symm, rfl, p3⟩)
    obtain ⟨MM', k1, k2, k3⟩ := hr'.finish hM'
    exact ⟨.ret (.bool jump.isNone), M', MM', E', hR, .bool _, hE, k1, k2, k3, hb.trans hb'⟩
  refine Code.wpIn_mono ?_ (h B E _ [] [] _ w hst)
  rintro e a1 w1 ⟨x, st1, E1, blk1, rw1, ⟨rfl, L', hL', hready, hbody⟩, hx, hE, hr1, hbw⟩
  cases e <;> try exact hx.elim
  obtain ⟨c1, g1, g2⟩ := hr1.loop hL'
  obtain ⟨p1, p2, p3⟩ := g2
  refine ⟨_, run_beginRound g1 (p1.trans hready), ?_⟩
  obtain ⟨hr2, hb2⟩ := hr1.othSet l _ (.loop { L' with state := .busy }) rfl rfl hL' (.loop { c1 with state := .busy }) ⟨rfl, p2, p3⟩
  rw [q7]
  refine Code.wpIn_mono ?_ (hbody B E1 _ blk1 rw1 _ _ hr2)
  rintro e a2 w2 ⟨x, st2, E2, blk2, rw2, hQ, hx, hE2, hr3, hbw2⟩
  cases e with
  | normal =>
    cases x <;> try exact hx.elim
    obtain ⟨L2, hL2, hM2⟩ := hQ
    exact hpost (jump := none) (hE.trans hE2) hr3 ((hbw.trans hb2).trans hbw2) hL2 hM2 rfl
  | ret =>
    cases x <;> try exact hx.elim
    obtain ⟨L2, hL2, hM2⟩ := hQ
    exact hpost (jump := some .ret) (hE.trans hE2) hr3 ((hbw.trans hb2).trans hbw2) hL2 hM2 rfl
  | exit id =>
    cases x <;> try exact hx.elim
    cases hx
    obtain ⟨L2, hL2, hM2⟩ := hQ
    exact hpost (jump := some (.exit id)) (hE.trans hE2) hr3 ((hbw.trans hb2).trans hbw2) hL2 hM2 rfl
  | panic chain => cases x <;> first | exact hx.elim | exact hQ.elim
  | goto l => cases x <;> exact hx.elim
  | outgrown => cases x <;> exact hx.elim

/-- What a call of yield turns to. -/
def YieldIs (P : Program) (o : Oper) (st : St) (l : Nat) (args : List AV) : Prop :=
  ∀ B E F blk rw a w, Rel B E F blk rw st a w → ∃ cargs : Array Value, (execOp a.eval o).run P w = (Instr.yield l cargs).run P w ∧ RepL E args cargs.toList

theorem AOps.yield {P : Program} {ops : Array Oper} {i : Nat} {rest : List Nat} {Q : AExit → St → Prop} {st : St} {o : Oper} {l : Nat} {args : List AV} (ho : ops[i]? = some o) (hg : o.guard = none)
    (hc : YieldIs P o st l args) (h : AYields P l args st.M fun x M' => match x with
      | .ret v => AOps ro P ops rest Q ({ st with M := M' }.put o.dst (.v v))
      | .panic v => Q (.panic v) { st with M := M' }) : AOps ro P ops (i :: rest) Q st := by
  intro B E F blk rw a w hr
  simp only [wpOpsIn, ho]
  rw [if_pos (by simp [Region.wanted, hg])]
  obtain ⟨cargs, hrun, hargs⟩ := hc B E F blk rw a w hr
  obtain ⟨MM, hm⟩ := hr.mem
  obtain ⟨fn, tmps, assign, body, hy, hround⟩ := h B E MM w cargs hm.sub hm.sim hargs
  rw [hy] at hrun
  refine uponIn_run hrun (by simp) ⟨fun e => by simp at e, (roundR hround).mono ?_⟩
  rintro e w' ⟨x, M', MM', E', hR, hx, hE, hsub, hfr, hs, hb⟩
  have hrel := Rel.called (a := a) hm hr.tmps hr.defs hE hsub hfr hs
  cases e with
  | returned c =>
    cases x with
    | ret v => exact wpOpsR_mono (fun e a' w'' ho => ho.weaken hE hb fun _ _ h => h) rest _ _ (hR B E' F blk rw _ w' (hrel.put o.dst hx))
    | panic v => exact hx.elim
  | panicked chain =>
    cases x with
    | ret v => exact hx.elim
    | panic v => exact ⟨.panic v, _, E', blk, rw, hR, hx, hE, hrel, hb⟩
  | outgrown => cases x <;> exact hx.elim

/-! The statement. -/
def loopM (st : St) (l d : Nat) (fn : FuncId) (ps : Array Tmp) (assign body : Code) : Mem :=
  (st.M.set (.b d) .defb).set (.b l) (.loop { state := .ready, pend := none, fn := fn, vs := st.tmps.map TV.av, ps := ps, assign := assign, body := body, d := d })

def jumpA (Q : AExit → St → Prop) : Option Code → St → Prop
  | none, st => Q .normal st
  | some .ret, st => Q .ret st
  | some (.exit id), st => Q (.exit id) st
  | _, _ => False

def loopR (Q : AExit → St → Prop) (st : St) (l d : Nat) : AEnd → Mem → Prop
  | .ret _, M' => ∃ L, M' (.b l) = some (.loop L) ∧ L.state ≠ .busy ∧ jumpA Q L.pend { st with M := M'.set (.b l) .dead, defs := .mark d :: st.defs }
  | .panic v, M' => Q (.panic v) { st with M := M', defs := .mark d :: st.defs }

theorem AWp.rangeFunc {P : Program} {g : Operand} {x : Opd} {ps : Array Tmp} {assign body : Code} {Q : AExit → St → Prop} {st : St} {f : FuncId} {first cap : List AV} (hx : IsOpd x g) (hg : st.get x = .v (.fn (.func f) first cap))
    (hbody : ∃ fn, P.funcs[f]? = some fn ∧ fn.body.isNone = false ∧ fn.name ≠ "runtime.NumGoroutine")
    (h : ∀ l d fn, st.M (.b l) = none → st.M (.b d) = none → l ≠ d → ACalls P f (first ++ [.fn (.yield l) [] []] ++ cap) (loopM st l d fn ps assign body) (loopR Q st l d)) :
    AWp none P (.rangeFunc g ps assign body) Q st := by
  intro B E F blk rw a w hr
  refine wpIn_rangeFunc fun fn _ => ?_
  obtain ⟨MM, hm⟩ := hr.mem
  obtain ⟨G, nr, hs⟩ := hm.sim
  have hv := hr.opd hx
  rw [hg] at hv
  obtain ⟨first', cap', e1, e2, e3⟩ := Rep.fn_inv hv
  have hnone1 : MM (.b w.heap.size) = none := hs.dom_none (Nat.le_refl _)
  have hs1 := hs.new_oth .defb (.deferred (some [])) rfl rfl
  have hm1 : RelM B E F blk rw st.loc st.rows (st.M.set (.b w.heap.size) .defb) (MM.set (.b w.heap.size) .defb) (w.alloc (.deferred (some []))) := hm.newM hnone1 ⟨_, _, hs1⟩
  have hsz : (w.alloc (.deferred (some []))).heap.size = w.heap.size + 1 := by simp
  have hnone2 : (MM.set (.b w.heap.size) .defb) (.b (w.heap.size + 1)) = none := hs1.dom_none (by omega)
  have hs2 := hs1.new_oth (.loop { state := .ready, pend := none, fn := fn, vs := st.tmps.map TV.av, ps := ps, assign := assign, body := body, d := w.heap.size }) (.loop { state := .ready, pending := none, fn := fn, tmps := a.tmps, params := ps, assign := assign, body := body, defers := w.heap.size }) rfl
    ⟨rfl, rfl, rfl, hr.tmps.av, rfl, rfl, rfl, rfl⟩
  rw [hsz] at hs2
  have hm2 := hm1.newM hnone2 ⟨_, _, hs2⟩
  have hb2 : Below B w ((w.alloc (.deferred (some []))).alloc (.loop { state := .ready, pending := none, fn := fn, tmps := a.tmps, params := ps, assign := assign, body := body, defers := w.heap.size })) :=
    ((Below.refl B w).alloc hs.base _).alloc (Nat.le_trans hs.base (by simp)) _
  have hMn : ∀ k, w.heap.size ≤ k → st.M (.b k) = none := fun k hk => by
    cases hc : st.M (.b k) with
    | none => rfl
    | some o => have := hm.sub _ _ hc; rw [hs.dom_none hk] at this; cases this
  obtain ⟨fn0, f1, f2, f3⟩ := hbody
  have f3' : (fn0.name == "runtime.NumGoroutine") = false := by simpa using f3
  have henter := run_enterLoop_outer (P := P) (w := w) fn a.tmps ps assign body
  generalize (w.alloc (.deferred (some []))).alloc (.loop { state := .ready, pending := none, fn := fn, tmps := a.tmps, params := ps, assign := assign, body := body, defers := w.heap.size }) = W1 at hs2 hm2 hb2 henter
  refine ⟨w.heap.size + 1, [{ target := .collected w.heap.size, args := #[] }], W1, { target := .fn (.func f) cap'.toArray, args := first'.toArray ++ #[.func (.yield (w.heap.size + 1)) #[] #[]] }, W1, f, first'.toArray ++ #[.func (.yield (w.heap.size + 1)) #[] #[]] ++ cap'.toArray, W1, henter, ?_, fun _ _ => trivial, ?_, fun e => by simp at e, ?_⟩
  · simp only [resolve, e1, Deferred.ofValue, Sem.run_bind, Sem.run_pure, Result.andThen_ok]
    simp [go_sem]
  · simp only [invoke, callFunc, Sem.run_bind, run_program, f1, Result.andThen_ok]
    simp [f2, f3']
  · have hcall := h (w.heap.size + 1) w.heap.size fn (hMn _ (by omega)) (hMn _ (Nat.le_refl _)) (by omega) B E _ _ (first'.toArray ++ #[.func (.yield (w.heap.size + 1)) #[] #[]] ++ cap'.toArray) hm2.sub hm2.sim (by simpa using (e2.append (RepL.cons _ _ _ _ (Rep.fn _ _ _ _ _ .nil .nil) .nil)).append e3)
    refine callsR (hcall.mono ?_)
    rintro e w' ⟨y, M', MM', E', hR, hy, hE, hsub, hfr, hs', hb⟩
    have hrel : Rel B E' F blk rw { st with M := M', defs := .mark w.heap.size :: st.defs } { a with defers := [{ target := .collected w.heap.size, args := #[] }] ++ a.defers } w' := by
      have hr0 := Rel.called (st := { st with M := loopM st (w.heap.size + 1) w.heap.size fn ps assign body }) (a := a) hm2 hr.tmps hr.defs hE hsub hfr hs'
      exact ⟨hr0.tmps, .cons _ _ _ _ rfl hr0.defs, hr0.mem⟩
    cases e with
    | returned c =>
      cases y with
      | panic v => exact hy.elim
      | ret v =>
        obtain ⟨L, hL, hbusy, hj⟩ := hR
        obtain ⟨c1, g1, g2⟩ := hrel.loop hL
        obtain ⟨p1, p2, p3⟩ := g2
        obtain ⟨hr3, hb3⟩ := hrel.othSet (w.heap.size + 1) _ .dead rfl rfl hL (.loop { c1 with state := .exhausted }) trivial
        have hend := run_endLoop (P := P) g1 (by rw [p1]; exact hbusy)
        generalize w'.putObj (w.heap.size + 1) (.loop { c1 with state := .exhausted }) = W4 at hr3 hb3 hend
        rw [p2] at hend
        refine ⟨_, _, hend, ?_⟩
        have hbb := (hb2.trans hb).trans hb3
        have here : ∀ x e, RelX E' x e → Q x { st with M := M'.set (.b (w.heap.size + 1)) .dead, defs := .mark w.heap.size :: st.defs } → Out B E F w Q e { a with defers := [{ target := .collected w.heap.size, args := #[] }] ++ a.defers } W4 :=
          fun x e hx hq => ⟨x, _, E', blk, rw, hq, hx, hE, hr3, hbb⟩
        cases hp : L.pend with
        | none => rw [hp] at hj; exact here .normal .normal trivial hj
        | some c =>
          rw [hp] at hj
          cases c <;> try exact hj.elim
          · exact wpIn_exit (here (.exit _) (.exit _) rfl hj)
          · exact wpIn_ret (here .ret .ret trivial hj)
    | panicked chain =>
      cases y with
      | ret v => exact hy.elim
      | panic v => exact ⟨.panic v, _, E', blk, rw, hR, hy, hE, hrel, hb2.trans hb⟩
    | outgrown => cases y <;> exact hy.elim

/-! A function with such loops leaves. -/
def kill : List Nat → Mem → Mem
  | [], M => M
  | d :: ds, M => kill ds (M.set (.b d) .dead)
def defbs : List Nat → Mem → Prop
  | [], _ => True
  | d :: ds, M => M (.b d) = some .defb ∧ defbs ds (M.set (.b d) .dead)

theorem kill_sub : ∀ (ds : List Nat) {M' M : Mem}, M'.sub M → (∀ d ∈ ds, M' (.b d) = none) → M'.sub (kill ds M)
  | [], M', M, h, _ => h
  | d :: ds, M', M, h, hn => kill_sub ds (h.set_new (hn d (by simp))) fun x hx => hn x (by simp [hx])

def FinM (P : Program) (fn : Func) (R : AEnd → Mem → Prop) : AExit → St → Prop
  | .normal, st | .ret, st => ∃ ds : List Nat, st.defs = ds.map .mark ∧ defbs ds st.M ∧ ∃ M1, M1.sub st.M ∧ (∀ d ∈ ds, M1 (.b d) = none) ∧ ∃ vs, ResL P fn.results.toList { st with M := M1, defs := [] } vs ∧ ∃ M', M'.sub M1 ∧ R (.ret (tupV vs)) M'
  | .panic v, st => ∃ ds : List Nat, st.defs = ds.map .mark ∧ defbs ds st.M ∧ ∃ M', M'.sub st.M ∧ (∀ d ∈ ds, M' (.b d) = none) ∧ R (.panic v) M'
  | _, _ => False

theorem Rel.less {B : Nat} {E : Env} {F : Mem} {blk rw : List Nat} {st : St} {a : Act} {w : World} {M' : Mem} (hr : Rel B E F blk rw st a w) (h : M'.sub st.M) : Rel B E F blk rw { st with M := M' } a w := by
  obtain ⟨MM, hm⟩ := hr.mem
  have hn : ∀ k, st.M k = none → M' k = none := fun k hk => by
    cases hc : M' k with
    | none => rfl
    | some o => rw [h k o hc] at hk; cases hk
  refine ⟨hr.tmps, hr.defs, MM, hm.sim, h.trans hm.sub, fun r o e => ?_, fun i tvs e => ?_, fun i e sz n he => ?_, hm.blen, hm.rlen⟩
  · obtain ⟨h1, h2, h3⟩ := hm.frame r o e
    exact ⟨h1, hn _ h2, h3⟩
  · obtain ⟨b, avs, h1, h2, h3, h4, h5⟩ := hm.locs i tvs e
    exact ⟨b, avs, h1, h2, h3, hn _ h4, h5⟩
  · obtain ⟨t, h1, h2, h3, h4⟩ := hm.rws i e sz n he
    exact ⟨t, h1, h2, hn _ h3, h4⟩

theorem leavesM {P : Program} {fn : Func} {R : Ending → World → Prop} {u : FrameMode} (hu : u ≠ .run) : ∀ (ds : List Nat) {B : Nat} {E : Env} {F : Mem} {blk rw : List Nat} {st : St} {a : Act} {w : World}, Rel B E F blk rw st a w → st.defs = ds.map .mark → defbs ds st.M →
    (∀ w', Rel B E F blk rw { st with M := kill ds st.M, defs := [] } { a with defers := [] } w' → Below B w w' → LeavesIn (wf none) 0 P fn a.tmps R [] u w') → LeavesInM (wf none) 0 P fn a.tmps R a.defers u w
  | [], B, E, F, blk, rw, st, a, w, hr, hd, hb, h => by
    have hdd := hr.defs
    rw [hd] at hdd
    rw [RelDL.nil_inv hdd]
    refine h w ⟨hr.tmps, .nil, hr.mem⟩ (Below.refl B w)
  | d :: ds, B, E, F, blk, rw, st, a, w, hr, hd, hb, h => by
    have hdd := hr.defs
    rw [hd] at hdd
    obtain ⟨tm, dfs⟩ := a
    cases hdd with
    | cons _ c _ cs h1 h2 =>
      cases h1
      obtain ⟨hb1, hb2⟩ := hb
      obtain ⟨hr', hbel⟩ := hr.othSet d .defb .dead rfl rfl hb1 (.deferred none) trivial
      obtain ⟨MM, hm⟩ := hr.mem
      obtain ⟨G, nr, hs⟩ := hm.sim
      obtain ⟨o, g1, g2⟩ := hs.mp d _ rfl (hm.sub _ _ hb1)
      cases o <;> try exact g2.elim
      cases g2
      refine ⟨hu, .inl ⟨d, _, rfl, run_takeDeferred g1, ?_⟩⟩
      have hr2 : Rel B E F blk rw { st with M := st.M.set (.b d) .dead, defs := ds.map .mark } { tmps := tm, defers := cs } (w.putObj d (.deferred none)) := ⟨hr'.tmps, h2, hr'.mem⟩
      exact leavesM hu ds hr2 rfl hb2 fun w' hrel hbw => h w' hrel (hbel.trans hbw)

theorem ACalls.of_wpM {P : Program} {f : FuncId} {fn : Func} {c : Code} {args : List AV} {M : Mem} {R : AEnd → Mem → Prop} (k : Nat) (hf : P.funcs[f]? = some fn) (hb : fn.body = some c) (hn : fn.ntmps - args.length = k)
    (h : AWp none P c (FinM P fn R) { tmps := args.map .v ++ List.replicate k .junk, loc := [], rows := [], defs := [], M := M }) : ACalls P f args M R := by
  intro B E MM w cargs hsub hs hargs
  have hlen : cargs.size = args.length := by have := hargs.length; simpa using this
  have hst := Rel.start hsub hs hargs k
  have hk : fn.ntmps - cargs.size = k := by rw [hlen]; exact hn
  refine callsIn_wide.1 (callsIn_of_wp_marks (F := wf none) (n := 0) hf hb trivial ?_ rfl)
  rw [hk]
  refine Code.wpIn_mono ?_ (h B E _ [] [] _ w hst)
  rintro e a1 w1 ⟨x, st1, E1, blk1, rw1, hQ, hx, hE, hr1, hbw⟩
  have hret : (∃ ds : List Nat, st1.defs = ds.map .mark ∧ defbs ds st1.M ∧ ∃ M2, M2.sub st1.M ∧ (∀ d ∈ ds, M2 (.b d) = none) ∧ ∃ vs, ResL P fn.results.toList { st1 with M := M2, defs := [] } vs ∧ ∃ M', M'.sub M2 ∧ R (.ret (tupV vs)) M') → LeavesInM (wf none) 0 P fn a1.tmps (CallPost B E M MM w R) a1.defers .returning w1 := by
    rintro ⟨ds, hds, hdb, M2, hM2, hnone, vs, hres, M', hM', hR⟩
    refine leavesM (by simp) ds hr1 hds hdb fun w' hrel hbw' => ?_
    have hrel' := hrel.less (M' := M2) (kill_sub ds hM2 hnone)
    obtain ⟨c, hc, hrep⟩ := results_run hres hrel'
    obtain ⟨MM', k1, k2, k3⟩ := hrel'.finish hM'
    exact ⟨c, hc, .ret (tupV vs), M', MM', E1, hR, hrep, hE, k1, k2, k3, hbw.trans hbw'⟩
  cases e with
  | normal => cases x <;> first | exact hx.elim | exact hret hQ
  | ret => cases x <;> first | exact hx.elim | exact hret hQ
  | panic chain =>
    cases x with
    | panic v =>
      obtain ⟨ds, hds, hdb, M', hM', hnone, hR⟩ := hQ
      refine leavesM (by simp) ds hr1 hds hdb fun w' hrel hbw' => ?_
      have hrel' := hrel.less (M' := M') (kill_sub ds hM' hnone)
      obtain ⟨MM', k1, k2, k3⟩ := hrel'.finish (Mem.sub.refl _)
      exact ⟨.panic v, M', MM', E1, hR, hx, hE, k1, k2, k3, hbw.trans hbw'⟩
    | _ => exact hx.elim
  | exit id => cases x <;> first | exact hx.elim | exact hQ.elim
  | goto l => cases x <;> exact hx.elim
  | outgrown => cases x <;> exact hx.elim

end Go.Am
/- Loops over functions, in the resolved form. -/
set_option linter.unusedSectionVars false
set_option linter.unusedVariables false
set_option linter.unusedSimpArgs false
namespace Go.Am
open Go.RowKit
variable [Inhabited LaidBox] {ro : Option Nat}
section
variable {P : Program} {T : TT} {esc : List Nat} {Q : AExit → St → Prop} {st : St}

theorem CWp.rangeF {x : Opd} {ps : Array Tmp} {p q : CC} {f : FuncId} {first cap : List AV} (hg : st.get x = .v (.fn (.func f) first cap)) (hbody : Has P f)
    (h : ∀ l d fn ca cb, comp T esc ca = p → comp T esc cb = q → st.M (.b l) = none → st.M (.b d) = none → l ≠ d → ACalls P f (first ++ [.fn (.yield l) [] []] ++ cap) (loopM st l d fn ps ca cb) (loopR Q st l d)) :
    CWp none P T esc (.rangeF x ps p q) Q st := by
  intro c hc
  cases c with
  | rangeFunc y ps' a b =>
    simp only [comp] at hc
    split at hc
    · rename_i x' hx'
      cases hc
      exact AWp.rangeFunc (cX_is hx') hg hbody fun l d fn h1 h2 h3 => h l d fn a b rfl rfl h1 h2 h3
    · cases hc
  | region id ops draw => cases draw <;> cases hc
  | cond x a b => simp only [comp] at hc; split at hc <;> cases hc
  | _ => cases hc

theorem AYields.of_cc {l : Nat} {args : List AV} {M : Mem} {R : AEnd → Mem → Prop} {L : LoopRec} {p q : CC} (hM : M (.b l) = some (.loop L)) (hlen : args.length = L.ps.size) (hp : comp T esc L.assign = p) (hq : comp T esc L.body = q)
    (h : CWp (some l) P T esc p (fun x st1 => x = .normal ∧ ∃ L', st1.M (.b l) = some (.loop L') ∧ L'.state = .ready ∧
        CWp (some l) P T esc q (roundA l R) { st1 with M := st1.M.set (.b l) (.loop { L' with state := .busy }) })
      { tmps := roundT L.ps.toList args (L.vs.map avT), loc := [], rows := [], defs := [], M := M }) : AYields P l args M R :=
  AYields.of_wp hM hlen ((h _ hp).mono fun x st1 ⟨hx, L', h1, h2, h3⟩ => ⟨hx, L', h1, h2, h3 _ hq⟩)

theorem COps.yield {d : Option Nat} {fo : Opd} {xs : List Opd} {cs : List COp} {l : Nat} {vs : List AV} {p : Prop} (hf : st.get fo = .v (.fn (.yield l) [] [])) (hv : rdL true st.get xs = some (vs, p)) (hp : p)
    (h : AYields P l vs st.M fun x M' => match x with
      | .ret v => COps ro P T esc cs Q ({ st with M := M' }.put d (.v v))
      | .panic v => Q (.panic v) { st with M := M' }) : COps ro P T esc ({ dst := d, grd := none, k := .callv fo xs } :: cs) Q st := by
  intro ops idxs hc
  obtain ⟨i, is, o, rfl, h1, h2, h3⟩ := hc.cons
  obtain ⟨k1, k2, k3⟩ := compOp_inv h2 (by intro o' e; cases e)
  simp only at k1 k2 k3
  obtain ⟨c, y, ho, hcal, hy, hxs⟩ := compK_callv k3
  refine AOps.yield h1 (compG_none k2) (args := vs) (l := l) ?_ (h.mono ?_)
  · intro B E F blk rw a w hr
    have hrep := rdL_rep hr (cXL_is hxs).1 (cXL_is hxs).2 hv hp
    have hfr := hr.opd hy
    rw [hf] at hfr
    obtain ⟨a', b', e1, e2, e3⟩ := Rep.fn_inv hfr
    have e2' : a' = [] := e2.nil_inv
    have e3' : b' = [] := e3.nil_inv
    subst e2'
    subst e3'
    refine ⟨c.args.map a.eval, ?_, by simpa using hrep⟩
    simp [execOp, ho, resolve, hcal, e1, Deferred.ofValue, invoke]
  · intro x M' hx
    cases x with
    | ret v =>
      rw [← k1]
      exact hx ops is h3
    | panic v => exact hx

theorem ACalls.ofM {f : FuncId} {fn : Func} {args : List AV} {M : Mem} {R : AEnd → Mem → Prop} (k : Nat) (cc : CC) (hf : P.funcs[f]? = some fn) (hb : fn.body.isSome = true) (hn : fn.ntmps - args.length = k) (hc : comp T esc (fn.body.getD .skip) = cc)
    (h : CWp none P T esc cc (FinM P fn R) { tmps := args.map .v ++ List.replicate k .junk, loc := [], rows := [], defs := [], M := M }) : ACalls P f args M R := by
  cases hbb : fn.body with
  | none => rw [hbb] at hb; cases hb
  | some c =>
    rw [hbb] at hc
    exact ACalls.of_wpM k hf hbb hn (h c hc)
end

/-- What a function does with the loop's body: calls it for one after another, until it says no. -/
def Iter (P : Program) (l : Nat) (R : Mem → Prop) : List (List AV) → Mem → Prop
  | [], M => R M
  | x :: xs, M => AYields P l x M fun e M' => (e = .ret (.bool true) ∧ Iter P l R xs M') ∨ (e = .ret (.bool false) ∧ R M')
end Go.Am
/- More rules: a library's contract lifted, a test of a slice for nil, a row of the call's own handed out. -/
set_option linter.unusedSectionVars false
set_option linter.unusedVariables false
set_option linter.unusedSimpArgs false
namespace Go.Am
open Go.RowKit
variable [Inhabited LaidBox] {ro : Option Nat}

def strs (l : List (List UInt8)) : List AV := l.map AV.str
theorem strs_len (l : List (List UInt8)) : (strs l).length = l.length := by simp [strs]
theorem strs_at (l : List (List UInt8)) (i : Nat) (x : List UInt8) (h : l[i]? = some x) : (strs l)[i]? = some (.str x) := by simp [strs, h]
theorem strs_nil : strs [] = [] := rfl
theorem strs_cons (x : List UInt8) (l : List (List UInt8)) : strs (x :: l) = .str x :: strs l := rfl
theorem strs_append (a b : List (List UInt8)) : strs (a ++ b) = strs a ++ strs b := by simp [strs]
theorem strs_drop (l : List (List UInt8)) (n : Nat) : (strs l).drop n = strs (l.drop n) := by simp [strs]
theorem strs_take (l : List (List UInt8)) (n : Nat) : (strs l).take n = strs (l.take n) := by simp [strs]

/-- A world that lies above another one. -/
theorem Sim.above {B : Nat} {E : Env} {M : Mem} {w w' : World} (h : Sim B E M w) (hb : Below w.heap.size w w') : Sim B E M w' := by
  obtain ⟨G, nr, h⟩ := h
  have hh : ∀ (k : Nat) o, w.heap[k]? = some o → w'.heap[k]? = some o := fun k o hk => by rw [hb.block k (Array.getElem?_eq_some_iff.1 hk).1]; exact hk
  refine ⟨G, nr, Nat.le_trans h.base hb.size, fun b o v e => ?_, fun r o e => ⟨(h.dom r o e).1, Nat.lt_of_lt_of_le (h.dom r o e).2 hb.size⟩, fun r cs e => ?_, fun r o ho e => ?_, fun t e sz n he => ?_, h.rdom, h.fresh, h.grow, h.ok, fun k hk => ?_⟩
  · have hc := h.cell b o v e
    rw [hb.cell (p := ⟨b, o, none⟩) (cell_lt hc)]; exact hc
  · obtain ⟨g1, g2, g3, ccs, ty, g4, g5⟩ := h.obj r cs e
    exact ⟨g1, g2, g3, ccs, ty, hh _ _ g4, g5⟩
  · obtain ⟨c, g1, g2⟩ := h.mp r o ho e
    exact ⟨c, hh _ _ g1, g2⟩
  · obtain ⟨h0, g0 | ⟨b, cap, cur, g1, g2, g3, g4, g5⟩⟩ := h.row t e sz n he
    · exact ⟨h0, .inl g0⟩
    · exact ⟨h0, .inr ⟨b, cap, cur, g1, g2, g3, hh _ _ g4, g5⟩⟩
  · rw [hb.block k (Nat.lt_of_lt_of_le hk h.base)]; exact h.old k hk

theorem Frames.refl {M MM : Mem} (h : M.sub MM) : Frames M MM M MM := fun r o h1 h2 => ⟨h2, h1⟩

/-- A function of a library that hands back a value and leaves what lay in the heap alone. -/
theorem Pure.of_lib {P : Program} {f : FuncId} {args : List AV} {v : AV} (h : ∀ B E MM w (cargs : Array Value), Sim B E MM w → RepL E args cargs.toList → Calls P f cargs w fun e w' => ∃ c, e = .returned c ∧ Rep E v c ∧ Below w.heap.size w w') : Pure P f args v := by
  intro M B E MM w cargs hsub hs hargs
  refine (h B E MM w cargs hs hargs).mono ?_
  rintro e w' ⟨c, rfl, hc, hb⟩
  obtain ⟨G, nr, hs0⟩ := id hs
  exact ⟨.ret v, M, MM, E, ⟨rfl, rfl⟩, hc, Env.le.refl E, hsub, Frames.refl hsub, hs.above hb, hb.mono hs0.base⟩

/-- One that hands back a new slice as long as its room. -/
theorem Pure.of_new {P : Program} {f : FuncId} {args : List AV} {sz : Nat} {es : List AV} (hsz : ∀ x ∈ es, x.cells.length = sz) (hone : ∀ v ∈ flat es, v.one = true)
    (h : ∀ B E MM w (cargs : Array Value), Sim B E MM w → RepL E args cargs.toList → Calls P f cargs w fun e w' => ∃ cs ty, RepL E (flat es) cs ∧ e = .returned (.slice (some ⟨w.heap.size, 0, none⟩) es.length es.length) ∧ w' = w.alloc (.cells cs.toArray ty)) : Pure P f args (.sl .full sz es) := by
  intro M B E MM w cargs hsub hs hargs
  refine (h B E MM w cargs hs hargs).mono ?_
  rintro e w' ⟨cs, ty, hcs, rfl, rfl⟩
  obtain ⟨G, nr, hs0⟩ := id hs
  obtain ⟨hs1, hle⟩ := hs0.new_cells ty cs []
  simp only [List.append_nil] at hs1
  exact ⟨.ret _, M, MM, _, ⟨rfl, rfl⟩, .sl _ _ _ w.heap.size 0 es.length _ rfl (RepEs.of hsz hone (hcs.mono hle) (Env.lay_lays E w.heap.size 0 cs)) (Nat.le_refl _) ⟨rfl, rfl⟩, hle, hsub, Frames.refl hsub, ⟨G, nr, hs1⟩, (Below.refl B w).alloc hs0.base _⟩

theorem flat_strs (l : List (List UInt8)) : flat (strs l) = strs l := by
  induction l with
  | nil => rfl
  | cons x l ih =>
    show flat (AV.str x :: strs l) = _
    have : flat (AV.str x :: strs l) = [AV.str x] ++ flat (strs l) := rfl
    rw [this, ih]; rfl

/-- Strings in the cells of a row. -/
theorem RepEs.strs {E : Env} : ∀ {l : List (List UInt8)} {b o : Nat}, RepEs E 1 (Am.strs l) b o → ∃ xs : List ByteArray, xs.map (·.data.toList) = l ∧ ∀ (j : Nat) x, xs[j]? = some x → E.cell b (o + j) = some (.string x)
  | [], _, _, _ => ⟨[], rfl, fun j x h => by simp at h⟩
  | x :: l, b, o, h => by
    rw [strs_cons] at h
    cases h with
    | cons _ e es _ _ hs hc ht =>
      cases hc with
      | cons _ c _ _ _ h1 h2 h3 h4 =>
        obtain ⟨xs, h5, h6⟩ := RepEs.strs ht
        cases h3 with
        | str s =>
          refine ⟨s :: xs, by simp [h5], fun j y hj => ?_⟩
          cases j with
          | zero => simp at hj; subst hj; simpa using h1
          | succ j =>
            have := h6 j y (by simpa using hj)
            rwa [show o + (j + 1) = o + 1 + j by omega]

section
variable {P : Program} {T : TT} {esc : List Nat} {Q : AExit → St → Prop} {st : St}

theorem compK_nls {o : Oper} {op : BinOp} {x : Opd} (hT : TTOk P T) (k3 : compK T esc o = some (.nl op .slice x)) : ∃ t x' t' e, o.op = .binOp op t x' (.const (nilOf .slice)) t' ∧ P.underlying t = some (.slice e) ∧ IsOpd x x' ∧ (op = .eql ∨ op = .neq) := by
  cases ho : o.op with
  | binOp op' t x' y t' =>
    simp only [compK, ho] at k3
    repeat' (split at k3)
    all_goals first
      | (cases k3; done)
      | (simp only [Option.map_eq_some_iff] at k3
         obtain ⟨_, _, k3⟩ := k3
         cases k3; done)
      | (rename_i hd hcond
         simp only [Bool.and_eq_true] at hcond
         simp only [Option.map_eq_some_iff] at k3
         obtain ⟨x1, hx, k3⟩ := k3
         cases k3
         have hop : op = .eql ∨ op = .neq := by
           have := hcond.2
           cases op <;> first | exact .inl rfl | exact .inr rfl | simp [isEqOp] at this
         have hy := isNilC_is hcond.1
         subst hy
         exact ⟨t, x', t', _, rfl, descOf_und hT hd (by simp), cX_is hx, hop⟩)
      | (exfalso; simp at k3; done)
  | call c =>
    exfalso
    simp only [compK, ho] at k3
    repeat' (split at k3)
    all_goals first | (cases k3; done) | (cases iaK_isIa k3; done) | (simp at k3; done)
  | unOp op t x => cases op <;> simp [compK, ho] at k3
  | slice t x lo hi mx =>
    exfalso
    cases mx <;> simp only [compK, ho, reduceCtorEq] at k3
    repeat' (split at k3)
    all_goals first | (cases k3; done) | (cases iaK_isIa k3; done) | (simp at k3; done)
  | makeMap t r =>
    exfalso
    cases r <;> simp only [compK, ho, reduceCtorEq] at k3
    repeat' (split at k3)
    all_goals first | (cases k3; done)
  | box t x =>
    exfalso
    simp only [compK, ho] at k3
    split at k3
    · simp only [Option.map_eq_some_iff] at k3
      obtain ⟨_, _, k3⟩ := k3
      split at k3 <;> cases k3
    · cases k3
  | alloc t =>
    exfalso
    simp only [compK, ho] at k3
    split at k3
    · split at k3
      · simp only [Option.some.injEq] at k3
        split at k3 <;> cases k3
      · cases k3
    · cases k3
  | _ =>
    exfalso
    simp only [compK, ho, reduceCtorEq] at k3
    try (repeat' (split at k3))
    all_goals first | (cases k3; done) | (cases iaK_isIa k3; done) | (simp at k3; done)

/-- A test of a slice for nil, of which nothing is known. -/
theorem COps.nlAny (hT : TTOk P T) {d : Option Nat} {op : BinOp} {x : Opd} {cs : List COp} {own : Own} {sz : Nat} {es : List AV} (hx : st.get x = .v (.sl own sz es))
    (h : ∀ z : Bool, (z = true → es = []) → COps ro P T esc cs Q (st.put d (.v (.bool (nlB op z))))) : COps ro P T esc ({ dst := d, grd := none, k := .nl op .slice x } :: cs) Q st := by
  intro ops idxs hc
  obtain ⟨i, is, o, rfl, h1, h2, h3⟩ := hc.cons
  obtain ⟨k1, k2, k3⟩ := compOp_inv h2 (by intro o' e; cases e)
  simp only at k1 k2 k3
  obtain ⟨t, x', t', e, ho, ht, hxo, hop⟩ := compK_nls hT k3
  intro B E F blk rw a w hr
  simp only [wpOpsIn, h1]
  rw [if_pos (by simp [Region.wanted, compG_none k2])]
  have hv := hr.opd hxo
  rw [hx] at hv
  have hsl : ∃ y n c, a.eval x' = .slice y n c ∧ (y.isNone = true → es = []) := by
    rcases Rep.sl_inv3 hv with ⟨e1, e2, _⟩ | ⟨a0, e1, e2, _⟩ | ⟨b, o, cap, e1, _⟩
    · exact ⟨_, _, _, e1, fun _ => e2⟩
    · exact ⟨_, _, _, e1, fun _ => e2⟩
    · exact ⟨_, _, _, e1, fun h => by cases h⟩
  obtain ⟨y, n, c, hsl, hempty⟩ := hsl
  have heq0 : ∀ n, (Op.equalIn (n + 1) t (a.eval x') (nilOf .slice)).run P w = .ok y.isNone w := by
    intro n
    rw [hsl]
    cases y <;> (simp only [Op.equalIn, Sem.run_bind, run_underlying ht, Result.andThen_ok, nilOf]; rfl)
  have heq : (Op.equal t (a.eval x') (nilOf .slice)).run P w = .ok y.isNone w := heq0 9999
  have hg := eqGuard_nil (P := P) hop (t := t) (x := x') (k := .slice) (c := a.eval x') w (by rw [hsl]; intro cs; simp)
  have hev : a.eval (.const (nilOf .slice)) = nilOf .slice := rfl
  have hrun : (execOp a.eval o).run P w = .ok (.value (.bool (nlB op y.isNone))) w := by
    simp only [execOp, ho]
    refine run_v ?_
    rw [hev]
    simp only [Sem.run_bind, hg, Result.andThen_ok]
    rcases hop with rfl | rfl
    · have : binOp .eql t (a.eval x') (nilOf .slice) = ((do _root_.Pure.pure (Value.bool (← Op.equal t (a.eval x') (nilOf .slice)))) : Sem Value) := by rw [hsl]; rfl
      rw [this]
      simp only [Sem.run_bind, heq, Result.andThen_ok, Sem.run_pure, nlB]
    · have : binOp .neq t (a.eval x') (nilOf .slice) = ((do _root_.Pure.pure (Value.bool (!(← Op.equal t (a.eval x') (nilOf .slice))))) : Sem Value) := by rw [hsl]; rfl
      rw [this]
      simp only [Sem.run_bind, heq, Result.andThen_ok, Sem.run_pure, nlB]
  refine uponIn_run hrun (by simp) ?_
  rw [k1] at h
  exact h y.isNone hempty ops is h3 B E F blk rw _ w (hr.put o.dst (x := .v (.bool _)) (Rep.bool _))

/-- A row of the call's own becomes one that memory speaks of. -/
theorem Rel.handsOut {B : Nat} {E : Env} {F : Mem} {blk rw : List Nat} {a : Act} {w : World} (hr : Rel B E F blk rw st a w) {i k sz n : Nat} {es : List AV} {e : TypeId} (hi : st.tmps[i]? = some (.lsl k sz es)) (hk : st.rows = [(e, sz, n)]) (h0 : k = 0) (hj : ∀ j x, j ≠ i → st.tmps[j]? = some x → ∀ k' s' l', x ≠ .lsl k' s' l' ∧ ∀ g y, x ≠ .opt g y) (hl : st.loc = []) :
    ∃ t, st.M (.w t) = none ∧ Rel B E F blk [] { st with tmps := st.tmps.set i (.v (.sl (.srow t) sz es)), rows := [], M := st.M.set (.w t) (.row e sz n) } a w := by
  subst h0
  obtain ⟨MM, hm⟩ := hr.mem
  obtain ⟨t, h1, h2, h3, h4⟩ := hm.rws 0 e sz n (by rw [hk]; rfl)
  refine ⟨t, h3, ?_, hr.defs, MM, hm.sim, ?_, fun r o hF => ?_, fun i tvs h => ?_, fun i e sz n h => ?_, hm.blen, rfl⟩
  · have hlen := hr.tmps.length
    obtain ⟨c, hc, hrep⟩ := hr.tmps.at i _ hi
    obtain ⟨t', ht', hrep⟩ := hrep
    rw [h1] at ht'; cases ht'
    have key : ∀ {xs : List TV} {cs : List Value}, RelVL E blk rw xs cs → (∀ (j : Nat) x, xs[j]? = some x → ∀ k' s' l', x ≠ .lsl k' s' l' ∧ ∀ g y, x ≠ .opt g y) → RelVL E blk [] xs cs := by
      intro xs cs h
      induction h with
      | nil => intro _; exact .nil
      | cons x c xs cs h ht ih =>
        intro hn
        refine .cons _ _ _ _ ?_ (ih fun j x hx => hn (j + 1) x (by simpa using hx))
        have := hn 0 x rfl
        cases x with
        | junk => trivial
        | v x => exact h
        | lptr i off => exact h
        | lsl i sz es => exact absurd rfl (this i sz es).1
        | opt g x => exact absurd rfl ((this 0 0 []).2 g x)
    have h5 : RelVL E blk rw (st.tmps.set i (.v (.sl (.srow t) sz es))) (a.tmps.toList.set i c) := hr.tmps.set i (.v (.sl (.srow t) sz es)) c hrep
    have : a.tmps.toList.set i c = a.tmps.toList := by
      refine List.ext_getElem? fun j => ?_
      rw [List.getElem?_set]
      split
      · rename_i h; subst h
        split
        · exact hc.symm
        · rename_i h; rw [List.getElem?_eq_none (by omega)]
      · rfl
    rw [this] at h5
    refine key h5 fun j x hx => ?_
    by_cases hji : i = j
    · subst hji
      rw [List.getElem?_set] at hx
      split at hx
      · split at hx
        · cases hx; intro k' s' l'; exact ⟨by simp, by simp⟩
        · cases hx
      · exact absurd rfl ‹_›
    · rw [List.getElem?_set_ne hji] at hx
      exact hj j x (Ne.symm hji) hx
  · intro r o e'
    by_cases hx : r = .w t
    · subst hx
      have e2 : (st.M.set (.w t) (.row e sz n)) (.w t) = some o := e'
      rw [Mem.set_same] at e2; cases e2; exact h2
    · have e2 : (st.M.set (.w t) (.row e sz n)) r = some o := e'
      rw [Mem.set_other _ _ _ _ hx] at e2; exact hm.sub r o e2
  · obtain ⟨f1, f2, f3, f4⟩ := hm.frame r o hF
    have hne : r ≠ .w t := by rintro rfl; exact f4 t rfl 0 _ (by rw [hk]; rfl) h1
    exact ⟨f1, by show (st.M.set (.w t) (.row e sz n)) r = none; rw [Mem.set_other _ _ _ _ hne]; exact f2, f3, fun t' _ i x hi' => by simp at hi'⟩
  · rw [hl] at h; simp at h
  · simp at h

theorem CWp.regO {cs : List COp} (h : COps ro P T esc cs Q st) : CWp ro P T esc (.reg false cs) Q st := by
  intro c hc
  cases c with
  | region id ops draw =>
    cases draw with
    | true => cases hc
    | false =>
    simp only [comp] at hc
    cases hc
    refine AWp.region (h ops _ ?_)
    have := CompL.all (T := T) (esc := esc) ops ops.toList 0 (fun j o hj => by simpa using hj)
    simpa [List.range_eq_range'] using this
  | cond x a b => simp only [comp] at hc; split at hc <;> cases hc
  | rangeFunc g ps a b => simp only [comp] at hc; split at hc <;> cases hc
  | _ => cases hc

/-- One quiet operation. -/
theorem COps.step (hT : TTOk P T) {d : Option Nat} {k : CK} {cs : List COp} {x : TV} {p : Prop} (hno : ∀ o, k ≠ .other o) (hq : pev k true st = some (x, p)) (hp : p) (h : COps ro P T esc cs Q (st.put d x)) : COps ro P T esc (⟨d, none, k⟩ :: cs) Q st := by
  intro ops idxs hc
  obtain ⟨i, is, o, rfl, h1, h2, h3⟩ := hc.cons
  obtain ⟨k1, k2, k3⟩ := compOp_inv h2 hno
  simp only at k1 k2 k3
  refine AOps.value h1 (compG_none k2) (pev_ok hT k3 hq hp) ?_
  rw [← k1]
  exact h ops is h3

/-- A nil slice in a slot gets a name, in a region. -/
theorem COps.own {cs : List COp} {i sz : Nat} (e : TypeId) (hi : st.tmps[i]? = some (.v (.sl .full sz []))) (h : COps ro P T esc cs Q { st with tmps := st.tmps.set i (.lsl st.rows.length sz []), rows := st.rows ++ [(e, sz, 0)] }) : COps ro P T esc cs Q st := by
  intro ops idxs hc B E F blk rw a w hr
  obtain ⟨E', rw', hE, hr'⟩ := hr.own_tmp e hi
  exact wpOpsR_mono (fun e a' w' ho => ho.weaken hE (Below.refl B w) fun _ _ h => h) idxs _ _ (h ops idxs hc B E' F blk rw' a w hr')

theorem CWp.handsOut {cc : CC} {i sz n : Nat} {es : List AV} {e : TypeId} (hi : st.tmps[i]? = some (.lsl 0 sz es)) (hk : st.rows = [(e, sz, n)]) (hj : ∀ j x, j ≠ i → st.tmps[j]? = some x → ∀ k' s' l', x ≠ .lsl k' s' l' ∧ ∀ g y, x ≠ .opt g y) (hl : st.loc = [])
    (h : ∀ t, st.M (.w t) = none → CWp ro P T esc cc Q { st with tmps := st.tmps.set i (.v (.sl (.srow t) sz es)), rows := [], M := st.M.set (.w t) (.row e sz n) }) : CWp ro P T esc cc Q st := by
  intro c hc B E F blk rw a w hr
  obtain ⟨t, ht, hr'⟩ := hr.handsOut hi hk rfl hj hl
  exact h t ht c hc B E F blk [] a w hr'
end
section
variable {P : Program} {T : TT} {esc : List Nat} {Q : AExit → St → Prop} {st : St} {cs : List COp} {pr ck : List (List Nat)} {l : List (Nat × COp × List Nat)} {R : List (Nat × Fact)} {i : Nat} {d : Option Nat} {g : Option (Nat × Bool)} {chk : List Nat}
theorem evalD_call {f : FuncId} {xs : List Opd} (h : DOps ro P T esc cs pr ck Q R ((i, ⟨d, g, .call f xs⟩, chk) :: l) st) : evalD ro P T esc cs pr ck Q ((i, ⟨d, g, .call f xs⟩, chk) :: l) R st := by cases g <;> exact h
theorem evalD_callv {f : Opd} {xs : List Opd} (h : DOps ro P T esc cs pr ck Q R ((i, ⟨d, g, .callv f xs⟩, chk) :: l) st) : evalD ro P T esc cs pr ck Q ((i, ⟨d, g, .callv f xs⟩, chk) :: l) R st := by cases g <;> exact h
end
/-- Two results in cells, behind loops over functions. -/
theorem FinM.two {P : Program} {st : St} {fn : Func} {R : AEnd → Mem → Prop} {x : AExit} {ds : List Nat} {p q : Nat} {t u : TypeId} {i j : TI} {r r' : Nat} {cs cs' : List AV} {v v' : AV} {M' : Mem} (hx : x = .ret ∨ x = .normal) (hres : fn.results = #[.cell p t, .cell q u]) (hi : TIOk P t i) (hj : TIOk P u j)
    (hds : st.defs = ds.map .mark) (hdb : defbs ds st.M) (hp : (st.tmps[p]?).getD .junk = .v (.ptr r 0)) (hq : (st.tmps[q]?).getD .junk = .v (.ptr r' 0)) (hr : st.M (.b r) = some (.cells cs)) (hr' : st.M (.b r') = some (.cells cs'))
    (hv : pickT (isAggD i.desc) i.size cs 0 = some v) (hv' : pickT (isAggD j.desc) j.size cs' 0 = some v') (hnr : r ∉ ds) (hnr' : r' ∉ ds) (hM : M'.sub st.M) (hMd : ∀ d ∈ ds, M' (.b d) = none) (h : R (.ret (.tup [v, v'])) M') : FinM P fn R x st := by
  have key : ∃ ds : List Nat, st.defs = ds.map .mark ∧ defbs ds st.M ∧ ∃ M1, M1.sub st.M ∧ (∀ d ∈ ds, M1 (.b d) = none) ∧ ∃ vs, ResL P fn.results.toList { st with M := M1, defs := [] } vs ∧ ∃ M', M'.sub M1 ∧ R (.ret (tupV vs)) M' := by
    let M1 : Mem := fun k => if k ∈ ds.map Key.b then none else st.M k
    have m1 : ∀ r0 : Nat, r0 ∉ ds → M1 (.b r0) = st.M (.b r0) := fun r0 h0 => by
      simp only [M1]; rw [if_neg (by simpa using h0)]
    refine ⟨ds, hds, hdb, M1, ?_, ?_, [v, v'], ?_, M', ?_, h⟩
    · intro k o hk
      simp only [M1] at hk
      split at hk
      · cases hk
      · exact hk
    · intro d hd
      simp only [M1]; rw [if_pos (by simpa using hd)]
    · rw [hres]
      exact .cons _ _ _ _ _ (.cellM hi hp (by show M1 (.b r) = _; rw [m1 r hnr]; exact hr) hv) (.cons _ _ _ _ _ (.cellM hj hq (by show M1 (.b r') = _; rw [m1 r' hnr']; exact hr') hv') (.nil _))
    · intro k o hk
      simp only [M1]
      split
      · rename_i hin
        simp only [List.mem_map] at hin
        obtain ⟨d, hd, rfl⟩ := hin
        rw [hMd d hd] at hk; cases hk
      · exact hM k o hk
  rcases hx with rfl | rfl <;> exact key

theorem Mem.set_none {M : Mem} {k k' : Key} {o : AObj} (h : (M.set k o) k' = none) : k' ≠ k ∧ M k' = none := by
  by_cases e : k' = k
  · subst e; rw [Mem.set_same] at h; cases h
  · rw [Mem.set_other _ _ _ _ e] at h; exact ⟨e, h⟩
theorem Mem.set_b {M : Mem} {r r' : Nat} {o : AObj} (h : r' ≠ r) : (M.set (.b r) o) (.b r') = M (.b r') := Mem.set_other _ _ _ _ (by simpa using h)
theorem Mem.set_w {M : Mem} {r t : Nat} {o : AObj} : (M.set (.b r) o) (.w t) = M (.w t) := Mem.set_other _ _ _ _ (by simp)
/-- One result, in a cell of a variable of the call's own. -/
theorem Fin.cell1 {P : Program} {st : St} {fn : Func} {R : AEnd → Mem → Prop} {x : AExit} {p k : Nat} {t : TypeId} {i : TI} {tvs : List TV} {y : TV} {v : AV} {M' : Mem} (hx : x = .ret ∨ x = .normal) (hres : fn.results = #[.cell p t]) (hi : TIOk P t i) (hd : st.defs = [])
    (hp : (st.tmps[p]?).getD .junk = .lptr k 0) (hk : st.loc[k]? = some (some tvs)) (hy : pickL (isAggD i.desc) i.size tvs 0 = some y) (hv : y.ext = some v) (hM : M'.sub st.M) (h : R (.ret v) M') : Fin P fn R x st := by
  have : ∃ vs, ResL P fn.results.toList st vs ∧ ∃ M', M'.sub st.M ∧ R (.ret (tupV vs)) M' := ⟨[v], by rw [hres]; exact .cons _ _ _ _ _ (.cell hi hp hk hy hv) (.nil _), M', hM, h⟩
  rcases hx with rfl | rfl <;> exact ⟨hd, this⟩
section
variable {P : Program} {T : TT} {esc : List Nat} {Q : AExit → St → Prop} {st : St} {cs : List COp} {d : Option Nat} {g : Option (Nat × Bool)}
theorem evalC_call {f : FuncId} {xs : List Opd} (h : COps ro P T esc (⟨d, g, .call f xs⟩ :: cs) Q st) : evalC ro P T esc Q (⟨d, g, .call f xs⟩ :: cs) st := by
  cases g with
  | none => exact h
  | some dw =>
    obtain ⟨d0, w⟩ := dw
    simp only [evalC]
    split
    · exact h
    · exact h
theorem evalC_callv {f : Opd} {xs : List Opd} (h : COps ro P T esc (⟨d, g, .callv f xs⟩ :: cs) Q st) : evalC ro P T esc Q (⟨d, g, .callv f xs⟩ :: cs) st := by
  cases g with
  | none => exact h
  | some dw =>
    obtain ⟨d0, w⟩ := dw
    simp only [evalC]
    split
    · exact h
    · exact h
end
end Go.Am
