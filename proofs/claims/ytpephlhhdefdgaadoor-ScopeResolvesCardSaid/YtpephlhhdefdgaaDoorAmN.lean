/- Regions whose order is drawn: one order is enough. -/
import Derived.Test.YtpephlhhdefdgaaDoorAmM
import Derived.Orders
set_option linter.unusedSectionVars false
set_option linter.unusedVariables false
set_option linter.unusedSimpArgs false
namespace Go.Am
open Go.RowKit
variable [Inhabited LaidBox] {ro : Option Nat}

def Opd.looks : Opd → List Nat
  | .t i => [i]
  | _ => []
def oLooks : Option Opd → List Nat
  | some x => x.looks
  | none => []
def CK.looks : CK → List Nat
  | .mv x | .no x | .ng x | .ln _ x | .fl _ _ _ x | .fa _ x | .ld _ _ x | .nc x | .mi _ x | .ex x _ | .cv _ x | .cvs x | .nl _ _ x | .tas _ _ _ x => x.looks
  | .pick c a b => c.looks ++ (a.looks ++ b.looks)
  | .ar _ x y | .qr _ x y | .ic _ x y | .sc _ x y | .cat x y | .bc _ x y | .mn _ x y | .si x y | .ia _ x y | .ai _ _ _ x y | .seq _ _ x y => x.looks ++ y.looks
  | .ss x lo hi | .sls _ x lo hi => x.looks ++ (oLooks lo ++ oLooks hi)
  | .mf _ a b => a.flatMap Opd.looks ++ b.flatMap Opd.looks
  | .bd _ ps => ps.flatMap fun p => p.2.2.looks
  | .bs _ _ ps => ps.flatMap Opd.looks
  | .sto _ p x => p.looks ++ x.looks
  | .bx _ x | .bxS _ x => x.looks
  | .app _ _ _ s x => s.looks ++ x.looks
  | .mks _ _ _ _ l c => l.looks ++ c.looks
  | .lk _ _ m k => m.looks ++ k.looks
  | .mu m k x => m.looks ++ (k.looks ++ x.looks)
  | .call _ xs => xs.flatMap Opd.looks
  | .callv f xs | .dfr f xs => f.looks ++ xs.flatMap Opd.looks
  | .pan x => x.looks
  | _ => []
def COp.looks (c : COp) : List Nat := c.k.looks ++ (match c.grd with | some (d, _) => [d] | none => [])
/-- Reads memory. -/
def CK.memk : CK → Bool
  | .ld _ _ _ | .lk _ _ _ _ => true
  | _ => false
/-- A value of slots and memory alone. -/
def CK.quiet : CK → Bool
  | .mv _ | .pick _ _ _ | .ar _ _ _ | .qr _ _ _ | .ic _ _ _ | .sc _ _ _ | .cat _ _ | .bc _ _ _ | .nl _ _ _ | .no _ | .ng _ | .si _ _ | .ln _ _ | .ss _ _ _ | .sls _ _ _ _ | .fl _ _ _ _ | .fa _ _ | .ia _ _ _
  | .ld _ _ _ | .nc _ | .mi _ _ | .mf _ _ _ | .ex _ _ | .cv _ _ | .cvs _ | .bd _ _ | .bs _ _ _ | .mn _ _ _ | .tas _ _ _ _ | .lk _ _ _ _ => true
  | _ => false

section congr
variable {s s' : St}
def Agree (s s' : St) (l : List Nat) : Prop := ∀ t ∈ l, s.tmps[t]? = s'.tmps[t]?
theorem Agree.left {l m : List Nat} (h : Agree s s' (l ++ m)) : Agree s s' l := fun t ht => h t (List.mem_append.2 (.inl ht))
theorem Agree.right {l m : List Nat} (h : Agree s s' (l ++ m)) : Agree s s' m := fun t ht => h t (List.mem_append.2 (.inr ht))
theorem Agree.symm {l : List Nat} (h : Agree s s' l) : Agree s' s l := fun t ht => (h t ht).symm
theorem Agree.get {x : Opd} (h : Agree s s' x.looks) : s.get x = s'.get x := by
  cases x with
  | t i => simp only [St.get]; rw [h i (by simp [Opd.looks])]
  | _ => rfl
theorem Agree.flat {α : Type} {f : α → List Nat} {l : List α} (h : Agree s s' (l.flatMap f)) : ∀ x ∈ l, Agree s s' (f x) := fun x hx t ht => h t (List.mem_flatMap.2 ⟨x, hx, ht⟩)
theorem bound_congr {g : Bool} {d : Int} {x : Option Opd} (h : Agree s s' (oLooks x)) : bound g d s.get x = bound g d s'.get x := by
  cases x with
  | none => rfl
  | some x => simp only [bound]; rw [Agree.get (x := x) h]
theorem rdL_congr {g : Bool} : ∀ {xs : List Opd}, (∀ x ∈ xs, Agree s s' x.looks) → rdL g s.get xs = rdL g s'.get xs
  | [], _ => rfl
  | x :: xs, h => by
    simp only [rdL]
    rw [Agree.get (h x (by simp)), rdL_congr fun y hy => h y (by simp [hy])]
theorem fillA_congr {g : Bool} : ∀ {ps : List (Nat × Nat × Opd)} {zero : List AV}, (∀ p ∈ ps, Agree s s' p.2.2.looks) → fillA zero g s.get ps = fillA zero g s'.get ps
  | [], zero, _ => rfl
  | (off, n, x) :: ps, zero, h => by
    have e : s.get x = s'.get x := Agree.get (h (off, n, x) (by simp))
    have ih := fun z => fillA_congr (g := g) (zero := z) (ps := ps) fun p hp => h p (by simp [hp])
    simp only [fillA, e, ih]

theorem pev_congr {k : CK} {g : Bool} (h : Agree s s' k.looks) (hm : k.memk = true → s.loc = s'.loc ∧ s.M = s'.M) : pev k g s = pev k g s' := by
  cases k with
  | mv x => simp only [pev]; rw [Agree.get h]
  | pick c a b => simp only [pev]; rw [Agree.get (x := c) h.left, Agree.get (x := a) h.right.left, Agree.get (x := b) h.right.right]
  | ar op x y => simp only [pev]; rw [Agree.get (x := x) h.left, Agree.get (x := y) h.right]
  | qr op x y => simp only [pev]; rw [Agree.get (x := x) h.left, Agree.get (x := y) h.right]
  | ic op x y => simp only [pev]; rw [Agree.get (x := x) h.left, Agree.get (x := y) h.right]
  | sc op x y => simp only [pev]; rw [Agree.get (x := x) h.left, Agree.get (x := y) h.right]
  | cat x y => simp only [pev]; rw [Agree.get (x := x) h.left, Agree.get (x := y) h.right]
  | bc op x y => simp only [pev]; rw [Agree.get (x := x) h.left, Agree.get (x := y) h.right]
  | mn op x y => simp only [pev]; rw [Agree.get (x := x) h.left, Agree.get (x := y) h.right]
  | si x y => simp only [pev]; rw [Agree.get (x := x) h.left, Agree.get (x := y) h.right]
  | ia n x y => simp only [pev]; rw [Agree.get (x := x) h.left, Agree.get (x := y) h.right]
  | nl op k x => simp only [pev]; rw [Agree.get h]
  | no x => simp only [pev]; rw [Agree.get h]
  | ng x => simp only [pev]; rw [Agree.get h]
  | ln b x => cases b <;> (simp only [pev]; rw [Agree.get h])
  | ss x lo hi => simp only [pev]; rw [Agree.get (x := x) h.left, bound_congr h.right.left]; split <;> (try rfl); rw [bound_congr h.right.right]
  | sls n x lo hi => simp only [pev]; rw [Agree.get (x := x) h.left, bound_congr h.right.left]; split <;> (try rfl); rw [bound_congr h.right.right]
  | fl o n a x => simp only [pev]; rw [Agree.get h]
  | fa o x => simp only [pev]; rw [Agree.get h]
  | ld n a x => obtain ⟨h1, h2⟩ := hm rfl; simp only [pev]; rw [Agree.get h, h1, h2]
  | lk ok z m k => obtain ⟨h1, h2⟩ := hm rfl; simp only [pev]; rw [Agree.get (x := m) h.left, Agree.get (x := k) h.right, h2]
  | nc x => simp only [pev]; rw [Agree.get h]
  | mi t x => simp only [pev]; rw [Agree.get h]
  | mf fn a b => simp only [pev]; rw [rdL_congr h.left.flat, rdL_congr h.right.flat]
  | ex x i => simp only [pev]; rw [Agree.get h]
  | cv k x => simp only [pev]; rw [Agree.get h]
  | cvs x => simp only [pev]; rw [Agree.get h]
  | bd z ps => simp only [pev]; rw [fillA_congr h.flat]
  | bs e n ps => simp only [pev]; rw [rdL_congr h.flat]
  | tas ok t z x => simp only [pev]; rw [Agree.get h]
  | _ => rfl

theorem gval_congr {d : Nat} {want : Bool} (h : s.tmps[d]? = s'.tmps[d]?) : gval s d want = gval s' d want := by
  simp only [gval]; rw [h]
end congr

/-! Quiet operations, one behind the other. -/
def QStep (c : COp) (s : St) (x : TV) : Prop :=
  match c.grd with
  | none => ∃ p, pev c.k true s = some (x, p) ∧ p
  | some (d, want) => ∃ g, gval s d want = some g ∧ ∃ y p, pev c.k g s = some (y, p) ∧ (g = true → p) ∧ x = .opt g y

theorem QStep.congr {c : COp} {s s' : St} {x : TV} (h : Agree s s' c.looks) (hm : c.k.memk = true → s.loc = s'.loc ∧ s.M = s'.M) (hq : QStep c s x) : QStep c s' x := by
  unfold COp.looks at h
  unfold QStep at hq ⊢
  cases hg : c.grd with
  | none =>
    simp only [hg] at hq ⊢
    obtain ⟨p, h1, h2⟩ := hq
    exact ⟨p, by rw [← pev_congr h.left hm]; exact h1, h2⟩
  | some dw =>
    obtain ⟨d, want⟩ := dw
    simp only [hg] at hq h ⊢
    obtain ⟨g, h0, y, p, h1, h2⟩ := hq
    exact ⟨g, by rw [← gval_congr (h.right d (by simp))]; exact h0, y, p, by rw [← pev_congr h.left hm]; exact h1, h2⟩

def St.mem (s : St) (loc : List (Option (List TV))) (M : Mem) : St := { s with loc := loc, M := M }

abbrev Fact := List (Option (List TV)) → Mem → Prop
/-- A list of quiet operations, and what is known of those that read memory. -/
def QRun (cs : List COp) (R : List (Nat × Fact)) : List Nat → St → St → Prop
  | [], s, s' => s = s'
  | q :: D, s, s' => ∃ c x, cs[q]? = some c ∧ c.k.quiet = true ∧ QStep c s x ∧ (c.k.memk = true → ∃ f, (q, f) ∈ R ∧ ∀ loc M, f loc M → QStep c (s.mem loc M) x) ∧ QRun cs R D (s.put c.dst x) s'

theorem QRun.snoc {cs : List COp} {R : List (Nat × Fact)} : ∀ {D : List Nat} {s s1 : St} (h : QRun cs R D s s1) {q : Nat} {c : COp} {x : TV} (hc : cs[q]? = some c) (hk : c.k.quiet = true) (hq : QStep c s1 x) (hf : c.k.memk = true → ∃ f, (q, f) ∈ R ∧ ∀ loc M, f loc M → QStep c (s1.mem loc M) x), QRun cs R (D ++ [q]) s (s1.put c.dst x)
  | [], s, s1, h, q, c, x, hc, hk, hq, hf => by
    have h : s = s1 := h
    subst h
    exact ⟨c, x, hc, hk, hq, hf, rfl⟩
  | q0 :: D, s, s1, h, q, c, x, hc, hk, hq, hf => by
    obtain ⟨c0, x0, h1, h2, h3, h4, h5⟩ := h
    exact ⟨c0, x0, h1, h2, h3, h4, QRun.snoc h5 hc hk hq hf⟩
theorem QRun.more {cs : List COp} {R R' : List (Nat × Fact)} (hR : ∀ y ∈ R, y ∈ R') : ∀ {D : List Nat} {s s1 : St} (h : QRun cs R D s s1), QRun cs R' D s s1
  | [], s, s1, h => h
  | q0 :: D, s, s1, h => by
    obtain ⟨c0, x0, h1, h2, h3, h4, h5⟩ := h
    exact ⟨c0, x0, h1, h2, h3, fun e => let ⟨f, k1, k2⟩ := h4 e; ⟨f, hR _ k1, k2⟩, QRun.more hR h5⟩

/-- Apart: neither sees what the other writes. -/
def apart (a b : COp) : Bool :=
  (match a.dst with
   | some d => !(b.looks).contains d && b.dst != some d
   | none => true) &&
  (match b.dst with
   | some d => !(a.looks).contains d
   | none => true)
structure Apart (a b : COp) : Prop where
  looks : ∀ d, a.dst = some d → d ∉ b.looks
  dst : ∀ d, a.dst = some d → b.dst ≠ some d
  back : ∀ d, b.dst = some d → d ∉ a.looks
theorem apart_spec {a b : COp} (h : apart a b = true) : Apart a b := by
  unfold apart at h
  rw [Bool.and_eq_true] at h
  obtain ⟨h1, h2⟩ := h
  refine ⟨fun d hd => ?_, fun d hd => ?_, fun d hd => ?_⟩
  · simp only [hd, Bool.and_eq_true, Bool.not_eq_true', List.contains_eq_mem, decide_eq_false_iff_not] at h1; exact h1.1
  · simp only [hd, Bool.and_eq_true, bne_iff_ne, ne_eq] at h1; exact h1.2
  · simp only [hd, Bool.not_eq_true', List.contains_eq_mem, decide_eq_false_iff_not] at h2; exact h2

theorem St.put_agree (s : St) (d : Option Nat) (x : TV) (l : List Nat) (h : ∀ e, d = some e → e ∉ l) : Agree s (s.put d x) l := by
  intro t ht
  cases d with
  | none => rfl
  | some e =>
    have hne : e ≠ t := by rintro rfl; exact h e rfl ht
    simp [St.put, List.getElem?_set_ne hne]
theorem St.put_loc (s : St) (d : Option Nat) (x : TV) : (s.put d x).loc = s.loc := by cases d <;> rfl
theorem St.put_M (s : St) (d : Option Nat) (x : TV) : (s.put d x).M = s.M := by cases d <;> rfl
theorem St.put_rows (s : St) (d : Option Nat) (x : TV) : (s.put d x).rows = s.rows := by cases d <;> rfl
theorem St.put_defs (s : St) (d : Option Nat) (x : TV) : (s.put d x).defs = s.defs := by cases d <;> rfl
theorem St.put_put (s : St) (d e : Option Nat) (x y : TV) (h : ∀ i, d = some i → e ≠ some i) : (s.put d x).put e y = (s.put e y).put d x := by
  cases d with
  | none => rfl
  | some d =>
    cases e with
    | none => rfl
    | some e =>
      have hne : d ≠ e := by rintro rfl; exact h d rfl rfl
      simp only [St.put]
      rw [List.set_comm x y hne]

theorem QStep.put {c : COp} {s : St} {x : TV} {d : Option Nat} {y : TV} (h : QStep c s x) (hd : ∀ e, d = some e → e ∉ c.looks) : QStep c (s.put d y) x :=
  h.congr (St.put_agree s d y _ hd) fun _ => ⟨(St.put_loc s d y).symm, (St.put_M s d y).symm⟩
theorem QStep.unput {c : COp} {s : St} {x : TV} {d : Option Nat} {y : TV} (h : QStep c (s.put d y) x) (hd : ∀ e, d = some e → e ∉ c.looks) : QStep c s x :=
  h.congr (St.put_agree s d y _ hd).symm fun _ => ⟨St.put_loc s d y, St.put_M s d y⟩
theorem St.put_mem (s : St) (d : Option Nat) (y : TV) (loc : List (Option (List TV))) (M : Mem) : (s.put d y).mem loc M = (s.mem loc M).put d y := by cases d <;> rfl

/-- One of them first. -/
theorem QRun.front {cs : List COp} {R : List (Nat × Fact)} {k : Nat} {ck : COp} (hk : cs[k]? = some ck) : ∀ {D1 D2 : List Nat} {s s1 : St}, (∀ q ∈ D1, ∀ cq, cs[q]? = some cq → Apart cq ck) → QRun cs R (D1 ++ k :: D2) s s1 →
    ∃ x, QStep ck s x ∧ QRun cs R (D1 ++ D2) (s.put ck.dst x) s1
  | [], D2, s, s1, ha, h => by
    obtain ⟨c0, x0, h1, h2, h3, h4, h5⟩ := h
    rw [hk] at h1; cases h1
    exact ⟨x0, h3, h5⟩
  | q :: D1, D2, s, s1, ha, h => by
    obtain ⟨c0, x0, h1, h2, h3, h4, h5⟩ := h
    have hap := ha q (by simp) c0 h1
    obtain ⟨x, k1, k2⟩ := QRun.front hk (fun q' hq' => ha q' (by simp [hq'])) h5
    refine ⟨x, k1.unput hap.looks, c0, x0, h1, h2, h3.put hap.back, fun e => ?_, ?_⟩
    · obtain ⟨f, f1, f2⟩ := h4 e
      exact ⟨f, f1, fun loc M hf => by rw [St.put_mem]; exact (f2 loc M hf).put hap.back⟩
    · rw [St.put_put _ _ _ _ _ fun i hi e => hap.dst i e hi] 
      exact k2

/-- Only slots change. -/
theorem QRun.frame {cs : List COp} {R : List (Nat × Fact)} : ∀ {D : List Nat} {s s1 : St}, QRun cs R D s s1 → s1.loc = s.loc ∧ s1.rows = s.rows ∧ s1.M = s.M ∧ s1.defs = s.defs
  | [], s, s1, h => by have h : s = s1 := h; subst h; exact ⟨rfl, rfl, rfl, rfl⟩
  | q :: D, s, s1, h => by
    obtain ⟨c0, x0, h1, h2, h3, h4, h5⟩ := h
    obtain ⟨k1, k2, k3, k4⟩ := QRun.frame h5
    rw [St.put_loc] at k1; rw [St.put_rows] at k2; rw [St.put_M] at k3; rw [St.put_defs] at k4
    exact ⟨k1, k2, k3, k4⟩
theorem QRun.agree {cs : List COp} {R : List (Nat × Fact)} {l : List Nat} : ∀ {D : List Nat} {s s1 : St}, (∀ q ∈ D, ∀ cq, cs[q]? = some cq → ∀ d, cq.dst = some d → d ∉ l) → QRun cs R D s s1 → Agree s s1 l
  | [], s, s1, ha, h => by have h : s = s1 := h; subst h; exact fun _ _ => rfl
  | q :: D, s, s1, ha, h => by
    obtain ⟨c0, x0, h1, h2, h3, h4, h5⟩ := h
    have k := QRun.agree (fun q' hq' => ha q' (by simp [hq'])) h5
    have k0 := St.put_agree s c0.dst x0 l (ha q (by simp) c0 h1)
    exact fun t ht => (k0 t ht).trans (k t ht)

/-- What a loud operation does. -/
structure Upd where
  loc : List (Option (List TV))
  rows : List (TypeId × Nat × Nat)
  M : Mem
  v : TV
def St.upd (s : St) (d : Option Nat) (u : Upd) : St := ({ s with loc := u.loc, rows := u.rows, M := u.M } : St).put d u.v

theorem St.upd_put (s : St) (d e : Option Nat) (u : Upd) (y : TV) (h : ∀ i, d = some i → e ≠ some i) : (s.put e y).upd d u = (s.upd d u).put e y := by
  simp only [St.upd]
  have : ({ s.put e y with loc := u.loc, rows := u.rows, M := u.M } : St) = ({ s with loc := u.loc, rows := u.rows, M := u.M } : St).put e y := by cases e <;> rfl
  rw [this, St.put_put]
  intro i hi hd
  exact h i hd hi

/-- The others behind a loud one. -/
theorem QRun.upd {cs : List COp} {R : List (Nat × Fact)} {c : COp} {u : Upd} : ∀ {D : List Nat} {s s1 : St}, (∀ q ∈ D, ∀ cq, cs[q]? = some cq → Apart cq c) → (∀ q ∈ D, ∀ cq, cs[q]? = some cq → cq.k.memk = true → ∀ f, (q, f) ∈ R → f u.loc u.M) → QRun cs R D s s1 → QRun cs R D (s.upd c.dst u) (s1.upd c.dst u)
  | [], s, s1, ha, hf, h => by have h : s = s1 := h; subst h; rfl
  | q :: D, s, s1, ha, hf, h => by
    obtain ⟨c0, x0, h1, h2, h3, h4, h5⟩ := h
    have hap := ha q (by simp) c0 h1
    have ih := QRun.upd (fun q' hq' => ha q' (by simp [hq'])) (fun q' hq' => hf q' (by simp [hq'])) h5
    rw [St.upd_put _ _ _ _ _ fun i hi e => hap.dst i e hi] at ih
    have hmem : ∀ {x : TV}, QStep c0 (s.mem u.loc u.M) x → QStep c0 (s.upd c.dst u) x := by
      intro x hx
      have h1 : QStep c0 ({ s with loc := u.loc, rows := u.rows, M := u.M } : St) x := QStep.congr (s := s.mem u.loc u.M) (fun _ _ => rfl) (fun _ => ⟨rfl, rfl⟩) hx
      exact h1.put hap.back
    have hbase : QStep c0 (s.mem u.loc u.M) x0 := by
      cases hmk : c0.k.memk with
      | false => exact QStep.congr (s := s) (s' := s.mem u.loc u.M) (fun _ _ => rfl) (fun e => by rw [hmk] at e; cases e) h3
      | true =>
        obtain ⟨f, f1, f2⟩ := h4 hmk
        exact f2 _ _ (hf q (by simp) c0 h1 hmk f f1)
    refine ⟨c0, x0, h1, h2, hmem hbase, fun e => ?_, ih⟩
    obtain ⟨f, f1, f2⟩ := h4 e
    refine ⟨f, f1, fun loc M hh => ?_⟩
    have h2 := (f2 loc M hh)
    have h3 : QStep c0 (({ s with loc := u.loc, rows := u.rows, M := u.M } : St).mem loc M) x0 := QStep.congr (s := s.mem loc M) (fun _ _ => rfl) (fun _ => ⟨rfl, rfl⟩) h2
    simp only [St.upd]
    rw [St.put_mem]
    exact h3.put hap.back
end Go.Am
