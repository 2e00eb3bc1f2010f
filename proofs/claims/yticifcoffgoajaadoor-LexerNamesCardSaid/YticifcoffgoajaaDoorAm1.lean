import Derived.WalkKit
import Derived.Below
import Derived.Defers
import Derived.Recover
import Derived.Laws.Cells
import Derived.Laws.CopyRow
import Derived.Laws.AppendOwn
import Derived.Laws.Rows
import Derived.Deep.AppendSrc
import Derived.MapKept
import Derived.CallsIn
import Derived.OrdersIn
import Derived.TacticsIn
/- An abstract machine over the kit's weakest preconditions: abstract values, their relation to memory, the abstract memory. -/
set_option linter.unusedSectionVars false
set_option linter.unusedVariables false
set_option linter.unusedSimpArgs false
namespace Go.Am
open Go.RowKit

/-- Who may append to a slice: nobody knows, whoever (its capacity is its length), the row t alone. -/
inductive Own where
  | no
  | full
  | srow (t : Nat)

inductive AV where
  | junk
  | bool (b : Bool)
  | int (k : IntKind) (n : Int)
  | str (s : List UInt8)
  | nilp
  | ptr (r off : Nat)
  | eptr (sz : Nat) (es : List AV) (i off : Nat)
  | sl (own : Own) (sz : Nat) (es : List AV)
  | map (r : Nat)
  | nilmap
  | fn (f : Fn) (first captured : List AV)
  | nilfn
  | iface (t : TypeId) (v : AV)
  | niliface
  | agg (cs : List AV)
  | tup (vs : List AV)
  | raw (c : Value)
  /-- A pointer to a cell of the first world, in which a number lies. -/
  | gptr (k : IntKind) (z : Int)

def AV.cells : AV → List AV
  | .agg cs => cs
  | v => [v]

/-- The value of one cell. -/
def AV.one : AV → Bool
  | .agg _ | .tup _ | .junk => false
  | _ => true

structure Env where
  cell : Nat → Nat → Option Value
  rowAt : Nat → Nat → Option (Nat × Nat)
  base : World

/-- What is known of the world in which the outermost call began: a seat's own choice. -/
structure LaidBox where
  ok : World → Prop
  /-- Numbers in package-level variables. -/
  tab : Nat → Nat → Option (IntKind × Int) := fun _ _ => none
  sound : ∀ W, ok W → ∀ g i k z, tab g i = some (k, z) → W.cell? ⟨g, i, none⟩ = some (.int k z) := by
    intro W _ g i k z h
    cases h

structure Env.le (E E' : Env) : Prop where
  cell : ∀ b o v, E.cell b o = some v → E'.cell b o = some v
  row : ∀ t n x, E.rowAt t n = some x → E'.rowAt t n = some x
  base : E'.base = E.base

theorem Env.le.refl (E : Env) : E.le E := ⟨fun _ _ _ h => h, fun _ _ _ h => h, rfl⟩
theorem Env.le.trans {E E' E'' : Env} (h : E.le E') (k : E'.le E'') : E.le E'' :=
  ⟨fun b o v e => k.cell b o v (h.cell b o v e), fun t n x e => k.row t n x (h.row t n x e), k.base.trans h.base⟩

def OwnOk (E : Env) : Own → Nat → Nat → Nat → Nat → Prop
  | .no, _, _, _, _ => True
  | .full, n, _, o, cap => cap = n ∧ o = 0
  | .srow t, n, b, o, cap => E.rowAt t n = some (b, cap) ∧ o = 0

mutual
inductive Rep (E : Env) : AV → Value → Prop where
  | junk (c : Value) : Rep E .junk c
  | bool (b : Bool) : Rep E (.bool b) (.bool b)
  | int (k : IntKind) (n : Int) : Rep E (.int k n) (.int k n)
  | str (b : ByteArray) : Rep E (.str b.data.toList) (.string b)
  | nilp : Rep E .nilp (.pointer none)
  | ptr (r off : Nat) : Rep E (.ptr r off) (.pointer (some ⟨r, off, none⟩))
  | eptr (sz : Nat) (es : List AV) (i off b o : Nat) (h : RepEs E sz es b o) (hi : i < es.length) : Rep E (.eptr sz es i off) (.pointer (some ⟨b, o + i * sz + off, none⟩))
  | slnil (own : Own) (sz : Nat) (h : ∀ t, own = .srow t → E.rowAt t 0 = some (0, 0)) : Rep E (.sl own sz []) (.slice none 0 0)
  | sl (own : Own) (sz : Nat) (es : List AV) (b o cap n : Nat) (hn : n = es.length) (h : RepEs E sz es b o) (hcap : n ≤ cap) (hown : OwnOk E own n b o cap) : Rep E (.sl own sz es) (.slice (some ⟨b, o, none⟩) n cap)
  | slz (sz : Nat) (a : Addr) : Rep E (.sl .no sz []) (.slice (some a) 0 0)
  | raw (c : Value) (h : c.oneCell' = true) : Rep E (.raw c) c
  | gptr (k : IntKind) (z : Int) (g i : Nat) (h : E.base.cell? ⟨g, i, none⟩ = some (.int k z)) : Rep E (.gptr k z) (.pointer (some ⟨g, i, none⟩))
  | map (r : Nat) : Rep E (.map r) (.map (some r))
  | nilmap : Rep E .nilmap (.map none)
  | fn (f : Fn) (first captured : List AV) (first' captured' : List Value) (h1 : RepL E first first') (h2 : RepL E captured captured') : Rep E (.fn f first captured) (.func f first'.toArray captured'.toArray)
  | nilfn : Rep E .nilfn .nilFunc
  | iface (t : TypeId) (v : AV) (c : Value) (h : Rep E v c) : Rep E (.iface t v) (.iface t c)
  | niliface : Rep E .niliface .nilIface
  | agg (cs : List AV) (cs' : List Value) (h : RepL E cs cs') : Rep E (.agg cs) (.agg cs'.toArray)
  | tup (cs : List AV) (cs' : List Value) (h : RepL E cs cs') : Rep E (.tup cs) (.tuple cs'.toArray)
inductive RepL (E : Env) : List AV → List Value → Prop where
  | nil : RepL E [] []
  | cons (v : AV) (c : Value) (vs : List AV) (cs : List Value) (h : Rep E v c) (ht : RepL E vs cs) : RepL E (v :: vs) (c :: cs)
/-- Cells of values, one behind the other from an offset on. -/
inductive RepCs (E : Env) : List AV → Nat → Nat → Prop where
  | nil (b o : Nat) : RepCs E [] b o
  | cons (v : AV) (c : Value) (vs : List AV) (b o : Nat) (hc : E.cell b o = some c) (h1 : v.one = true) (h : Rep E v c) (ht : RepCs E vs b (o + 1)) : RepCs E (v :: vs) b o
inductive RepEs (E : Env) : Nat → List AV → Nat → Nat → Prop where
  | nil (sz b o : Nat) : RepEs E sz [] b o
  | cons (sz : Nat) (e : AV) (es : List AV) (b o : Nat) (hs : e.cells.length = sz) (h : RepCs E e.cells b o) (ht : RepEs E sz es b (o + sz)) : RepEs E sz (e :: es) b o
end

section mono
variable {E E' : Env} (hE : E.le E')
theorem OwnOk.mono {own : Own} {n b o cap : Nat} (h : OwnOk E own n b o cap) (hE : E.le E') : OwnOk E' own n b o cap := by
  cases own with
  | no => trivial
  | full => exact h
  | srow t => exact ⟨hE.row _ _ _ h.1, h.2⟩
mutual
theorem Rep.mono : ∀ {v : AV} {c : Value}, Rep E v c → E.le E' → Rep E' v c
  | _, _, .junk c, _ => .junk c
  | _, _, .bool b, _ => .bool b
  | _, _, .int k n, _ => .int k n
  | _, _, .str b, _ => .str b
  | _, _, .nilp, _ => .nilp
  | _, _, .ptr r off, _ => .ptr r off
  | _, _, .eptr sz es i off b o h hi, hE => .eptr sz es i off b o (RepEs.mono h hE) hi
  | _, _, .slnil own sz h, hE => .slnil own sz fun t e => hE.row _ _ _ (h t e)
  | _, _, .sl own sz es b o cap n hn h hcap hown, hE => .sl own sz es b o cap n hn (RepEs.mono h hE) hcap (hown.mono hE)
  | _, _, .slz sz a, _ => .slz sz a
  | _, _, .raw c h, _ => .raw c h
  | _, _, .gptr k z g i h, hE => .gptr k z g i (by rw [hE.base]; exact h)
  | _, _, .map r, _ => .map r
  | _, _, .nilmap, _ => .nilmap
  | _, _, .fn f a b a' b' h1 h2, hE => .fn f a b a' b' (RepL.mono h1 hE) (RepL.mono h2 hE)
  | _, _, .nilfn, _ => .nilfn
  | _, _, .iface t v c h, hE => .iface t v c (Rep.mono h hE)
  | _, _, .niliface, _ => .niliface
  | _, _, .agg cs cs' h, hE => .agg cs cs' (RepL.mono h hE)
  | _, _, .tup cs cs' h, hE => .tup cs cs' (RepL.mono h hE)
theorem RepL.mono : ∀ {vs : List AV} {cs : List Value}, RepL E vs cs → E.le E' → RepL E' vs cs
  | _, _, .nil, _ => .nil
  | _, _, .cons v c vs cs h ht, hE => .cons v c vs cs (Rep.mono h hE) (RepL.mono ht hE)
theorem RepCs.mono : ∀ {vs : List AV} {b o : Nat}, RepCs E vs b o → E.le E' → RepCs E' vs b o
  | _, _, _, .nil b o, _ => .nil b o
  | _, _, _, .cons v c vs b o hc h1 h ht, hE => .cons v c vs b o (hE.cell _ _ _ hc) h1 (Rep.mono h hE) (RepCs.mono ht hE)
theorem RepEs.mono : ∀ {sz : Nat} {es : List AV} {b o : Nat}, RepEs E sz es b o → E.le E' → RepEs E' sz es b o
  | _, _, _, _, .nil sz b o, _ => .nil sz b o
  | _, _, _, _, .cons sz e es b o hs h ht, hE => .cons sz e es b o hs (RepCs.mono h hE) (RepEs.mono ht hE)
end
end mono

/-! Lists -/
theorem RepL.length {E : Env} : ∀ {vs : List AV} {cs : List Value}, RepL E vs cs → cs.length = vs.length
  | _, _, .nil => rfl
  | _, _, .cons _ _ _ _ _ ht => by simp [RepL.length ht]

theorem RepL.at {E : Env} : ∀ {vs : List AV} {cs : List Value} (h : RepL E vs cs) (i : Nat) (v : AV), vs[i]? = some v → ∃ c, cs[i]? = some c ∧ Rep E v c
  | _, _, .nil, i, v, h => by simp at h
  | _, _, .cons v0 c0 vs cs h0 ht, 0, v, h => by simp at h; subst h; exact ⟨c0, by simp, h0⟩
  | _, _, .cons v0 c0 vs cs h0 ht, i + 1, v, h => by
    simp only [List.getElem?_cons_succ] at h ⊢
    exact RepL.at ht i v h

theorem RepL.set {E : Env} : ∀ {vs : List AV} {cs : List Value} (h : RepL E vs cs) (i : Nat) (v : AV) (c : Value) (hv : Rep E v c), RepL E (vs.set i v) (cs.set i c)
  | _, _, .nil, i, v, c, hv => by simpa using RepL.nil
  | _, _, .cons v0 c0 vs cs h0 ht, 0, v, c, hv => .cons v c vs cs hv ht
  | _, _, .cons v0 c0 vs cs h0 ht, i + 1, v, c, hv => .cons v0 c0 _ _ h0 (RepL.set ht i v c hv)

theorem RepL.append {E : Env} : ∀ {vs : List AV} {cs : List Value} {vs' : List AV} {cs' : List Value}, RepL E vs cs → RepL E vs' cs' → RepL E (vs ++ vs') (cs ++ cs')
  | _, _, _, _, .nil, h' => h'
  | _, _, _, _, .cons v c vs cs h ht, h' => .cons v c _ _ h (RepL.append ht h')

theorem RepL.take {E : Env} : ∀ {vs : List AV} {cs : List Value} (n : Nat), RepL E vs cs → RepL E (vs.take n) (cs.take n)
  | _, _, 0, _ => by simpa using RepL.nil
  | _, _, n + 1, .nil => by simpa using RepL.nil
  | _, _, n + 1, .cons v c vs cs h ht => .cons v c _ _ h (RepL.take n ht)

theorem RepL.drop {E : Env} : ∀ {vs : List AV} {cs : List Value} (n : Nat), RepL E vs cs → RepL E (vs.drop n) (cs.drop n)
  | _, _, 0, h => by simpa using h
  | _, _, n + 1, .nil => by simpa using RepL.nil
  | _, _, n + 1, .cons v c vs cs h ht => by simpa using RepL.drop n ht

theorem RepL.replicate {E : Env} (n : Nat) (v : AV) (c : Value) (h : Rep E v c) : RepL E (List.replicate n v) (List.replicate n c) := by
  induction n with
  | zero => exact .nil
  | succ n ih => exact .cons v c _ _ h ih

theorem RepL.map_of {E : Env} {α : Type} (f : α → AV) (g : α → Value) (l : List α) (h : ∀ x ∈ l, Rep E (f x) (g x)) : RepL E (l.map f) (l.map g) := by
  induction l with
  | nil => exact .nil
  | cons x l ih => exact .cons _ _ _ _ (h x (by simp)) (ih fun y hy => h y (by simp [hy]))

theorem RepL.nil_inv {E : Env} {cs : List Value} (h : RepL E [] cs) : cs = [] := by cases h; rfl
theorem RepL.cons_inv {E : Env} {v : AV} {vs : List AV} {cs : List Value} (h : RepL E (v :: vs) cs) : ∃ c cs', cs = c :: cs' ∧ Rep E v c ∧ RepL E vs cs' := by
  cases h with
  | cons _ c _ cs' h ht => exact ⟨c, cs', rfl, h, ht⟩
theorem RepL.one_inv {E : Env} {v : AV} {cs : List Value} (h : RepL E [v] cs) : ∃ c, cs = [c] ∧ Rep E v c := by
  obtain ⟨c, cs', rfl, h0, ht⟩ := h.cons_inv
  exact ⟨c, by rw [ht.nil_inv], h0⟩
theorem RepL.two_inv {E : Env} {v v' : AV} {cs : List Value} (h : RepL E [v, v'] cs) : ∃ c c', cs = [c, c'] ∧ Rep E v c ∧ Rep E v' c' := by
  obtain ⟨c, cs', rfl, h0, ht⟩ := h.cons_inv
  obtain ⟨c', rfl, h'⟩ := ht.one_inv
  exact ⟨c, c', rfl, h0, h'⟩

theorem Rep.one {E : Env} {v : AV} {c : Value} (h : Rep E v c) (h1 : v.one = true) : c.oneCell' = true := by
  cases h <;> first | rfl | assumption | simp [AV.one] at h1

theorem Rep.cellsL {E : Env} {v : AV} {c : Value} (h : Rep E v c) (hv : v ≠ .junk) : RepL E v.cells c.cells.toList := by
  cases h <;> first
    | exact absurd rfl hv
    | (rename_i h1
       have : c.cells = #[c] := by cases c <;> first | rfl | cases h1
       rw [this]
       exact .cons _ _ _ _ (.raw c h1) .nil)
    | (simp only [AV.cells, Value.cells]; first | assumption | exact .cons _ _ _ _ (by constructor <;> assumption) .nil)

/-- The cells of a struct, each with its value. -/
def Lays (E : Env) (cs : List Value) (b o : Nat) : Prop := ∀ j c, cs[j]? = some c → E.cell b (o + j) = some c

theorem Lays.nil (E : Env) (b o : Nat) : Lays E [] b o := fun j c h => by simp at h
theorem Lays.tail {E : Env} {c : Value} {cs : List Value} {b o : Nat} (h : Lays E (c :: cs) b o) : Lays E cs b (o + 1) := fun j c' hj => by
  have := h (j + 1) c' (by simpa using hj)
  rwa [show o + 1 + j = o + (j + 1) by omega]
theorem Lays.head {E : Env} {c : Value} {cs : List Value} {b o : Nat} (h : Lays E (c :: cs) b o) : E.cell b o = some c := by
  have := h 0 c (by simp)
  simpa using this
theorem Lays.drop {E : Env} {cs : List Value} {b o : Nat} (h : Lays E cs b o) (n : Nat) : Lays E (cs.drop n) b (o + n) := fun j c hj => by
  have := h (n + j) c (by simpa [List.getElem?_drop] using hj)
  rwa [show o + n + j = o + (n + j) by omega]
theorem Lays.take {E : Env} {cs : List Value} {b o : Nat} (h : Lays E cs b o) (n : Nat) : Lays E (cs.take n) b o := fun j c hj => by
  refine h j c ?_
  rw [List.getElem?_take] at hj
  split at hj
  · exact hj
  · simp at hj

theorem RepCs.lays {E : Env} : ∀ {vs : List AV} {b o : Nat}, RepCs E vs b o → ∃ cs, RepL E vs cs ∧ Lays E cs b o ∧ (∀ c ∈ cs, c.oneCell' = true)
  | _, _, _, .nil b o => ⟨[], .nil, Lays.nil E b o, by simp⟩
  | _, _, _, .cons v c vs b o hc h1 h ht => by
    obtain ⟨cs, hr, hl, h1'⟩ := RepCs.lays ht
    refine ⟨c :: cs, .cons v c vs cs h hr, ?_, ?_⟩
    · intro j c' hj
      cases j with
      | zero => simp at hj; subst hj; simpa using hc
      | succ j =>
        have := hl j c' (by simpa using hj)
        rwa [show o + (j + 1) = o + 1 + j by omega]
    · intro c' hc'
      rcases List.mem_cons.1 hc' with rfl | hm
      · exact h.one h1
      · exact h1' c' hm

theorem RepCs.of {E : Env} : ∀ {vs : List AV} {cs : List Value} {b o : Nat}, RepL E vs cs → (∀ v ∈ vs, v.one = true) → Lays E cs b o → RepCs E vs b o
  | _, _, _, _, .nil, _, _ => .nil _ _
  | _, _, _, _, .cons v c vs cs h ht, h1, hl => .cons v c vs _ _ hl.head (h1 v (by simp)) h (RepCs.of ht (fun x hx => h1 x (by simp [hx])) hl.tail)

theorem RepCs.ones {E : Env} : ∀ {vs : List AV} {b o : Nat}, RepCs E vs b o → ∀ v ∈ vs, v.one = true
  | _, _, _, .nil _ _, v, hv => by simp at hv
  | _, _, _, .cons v0 c vs b o hc h1 h ht, v, hv => by
    rcases List.mem_cons.1 hv with rfl | hm
    · exact h1
    · exact RepCs.ones ht v hm

theorem RepCs.drop {E : Env} : ∀ {vs : List AV} {b o : Nat} (n : Nat), RepCs E vs b o → RepCs E (vs.drop n) b (o + n)
  | _, _, _, 0, h => by simpa using h
  | _, b, o, n + 1, .nil _ _ => by simpa using RepCs.nil b (o + (n + 1))
  | _, b, o, n + 1, .cons v c vs _ _ hc h1 h ht => by
    have := RepCs.drop n ht
    simpa [show o + 1 + n = o + (n + 1) by omega] using this
theorem RepCs.take {E : Env} : ∀ {vs : List AV} {b o : Nat} (n : Nat), RepCs E vs b o → RepCs E (vs.take n) b o
  | _, b, o, 0, h => by simpa using RepCs.nil b o
  | _, b, o, n + 1, .nil _ _ => by simpa using RepCs.nil b o
  | _, b, o, n + 1, .cons v c vs _ _ hc h1 h ht => by simpa using RepCs.cons v c _ b o hc h1 h (RepCs.take n ht)

theorem RepEs.at {E : Env} : ∀ {sz : Nat} {es : List AV} {b o : Nat} (h : RepEs E sz es b o) (i : Nat) (e : AV), es[i]? = some e → RepCs E e.cells b (o + i * sz) ∧ e.cells.length = sz
  | _, _, _, _, .nil _ _ _, i, e, h => by simp at h
  | _, _, _, _, .cons sz e0 es b o hs h ht, 0, e, he => by simp at he; subst he; simpa using ⟨h, hs⟩
  | _, _, _, _, .cons sz e0 es b o hs h ht, i + 1, e, he => by
    have := RepEs.at ht i e (by simpa using he)
    rwa [show o + sz + i * sz = o + (i + 1) * sz by rw [Nat.add_mul]; omega] at this

theorem RepEs.drop {E : Env} : ∀ {sz : Nat} {es : List AV} {b o : Nat} (n : Nat), RepEs E sz es b o → n ≤ es.length → RepEs E sz (es.drop n) b (o + n * sz)
  | _, _, _, _, 0, h, _ => by simpa using h
  | _, _, b, o, n + 1, .nil sz _ _, hn => by simp at hn
  | _, _, b, o, n + 1, .cons sz e es _ _ hs h ht, hn => by
    have := RepEs.drop n ht (by simpa using hn)
    simpa [show o + sz + n * sz = o + (n + 1) * sz by rw [Nat.add_mul]; omega] using this

theorem RepEs.take {E : Env} : ∀ {sz : Nat} {es : List AV} {b o : Nat} (n : Nat), RepEs E sz es b o → RepEs E sz (es.take n) b o
  | sz, _, b, o, 0, h => by simpa using RepEs.nil sz b o
  | _, _, b, o, n + 1, .nil sz _ _ => by simpa using RepEs.nil sz b o
  | _, _, b, o, n + 1, .cons sz e es _ _ hs h ht => by simpa using RepEs.cons sz e _ b o hs h (RepEs.take n ht)

theorem RepEs.append {E : Env} : ∀ {sz : Nat} {es es' : List AV} {b o : Nat}, RepEs E sz es b o → RepEs E sz es' b (o + es.length * sz) → RepEs E sz (es ++ es') b o
  | _, _, _, _, _, .nil sz b o, h' => by simpa using h'
  | _, _, es', _, _, .cons sz e es b o hs h ht, h' => by
    refine .cons sz e _ b o hs h (RepEs.append ht ?_)
    simpa [show o + sz + es.length * sz = o + (es.length + 1) * sz by rw [Nat.add_mul]; omega] using h'

/-- All cells of a row of elements. -/
def flat (es : List AV) : List AV := es.flatMap AV.cells
theorem flat_nil : flat [] = [] := rfl
theorem flat_cons (e : AV) (es : List AV) : flat (e :: es) = e.cells ++ flat es := by simp [flat]
theorem flat_append (a b : List AV) : flat (a ++ b) = flat a ++ flat b := by simp [flat]

theorem Lays.append {E : Env} {cs cs' : List Value} {b o : Nat} (h : Lays E cs b o) (h' : Lays E cs' b (o + cs.length)) : Lays E (cs ++ cs') b o := by
  intro j c hj
  rw [List.getElem?_append] at hj
  split at hj
  · exact h j c hj
  · rename_i hlt
    have := h' (j - cs.length) c hj
    rwa [show o + cs.length + (j - cs.length) = o + j by omega] at this

theorem RepEs.lays {E : Env} : ∀ {sz : Nat} {es : List AV} {b o : Nat}, RepEs E sz es b o → ∃ cs, RepL E (flat es) cs ∧ cs.length = es.length * sz ∧ Lays E cs b o ∧ (∀ c ∈ cs, c.oneCell' = true)
  | _, _, _, _, .nil sz b o => ⟨[], .nil, by simp, Lays.nil E b o, by simp⟩
  | _, _, _, _, .cons sz e es b o hs h ht => by
    obtain ⟨cs, hr, hl, h1⟩ := h.lays
    obtain ⟨ds, hr', hlen, hl', h1'⟩ := RepEs.lays ht
    have hc : cs.length = sz := by rw [hr.length, hs]
    refine ⟨cs ++ ds, ?_, ?_, ?_, ?_⟩
    · rw [flat_cons]; exact hr.append hr'
    · simp [hc, hlen, Nat.add_mul]; omega
    · exact hl.append (by rw [hc]; exact hl')
    · intro c hm
      rcases List.mem_append.1 hm with hm | hm
      · exact h1 c hm
      · exact h1' c hm

theorem RepEs.of {E : Env} {sz : Nat} : ∀ {es : List AV} {cs : List Value} {b o : Nat}, (∀ e ∈ es, e.cells.length = sz) → (∀ v ∈ flat es, v.one = true) → RepL E (flat es) cs → Lays E cs b o → RepEs E sz es b o
  | [], cs, b, o, _, _, _, _ => .nil sz b o
  | e :: es, cs, b, o, hs, h1, hr, hl => by
    rw [flat_cons] at hr h1
    have hlen : e.cells.length = sz := hs e (by simp)
    have ht := hr.take e.cells.length
    have hd := hr.drop e.cells.length
    rw [List.take_left] at ht
    rw [List.drop_left] at hd
    refine .cons sz e es b o hlen (RepCs.of ht (fun v hv => h1 v (by simp [hv])) (hl.take _)) ?_
    have hl' := hl.drop e.cells.length
    rw [hlen] at hl' hd
    exact RepEs.of (fun x hx => hs x (by simp [hx])) (fun v hv => h1 v (by simp [hv])) hd hl'

theorem RepEs.sizes {E : Env} : ∀ {sz : Nat} {es : List AV} {b o : Nat}, RepEs E sz es b o → ∀ e ∈ es, e.cells.length = sz
  | _, _, _, _, .nil _ _ _, e, he => by simp at he
  | _, _, _, _, .cons sz e0 es b o hs h ht, e, he => by
    rcases List.mem_cons.1 he with rfl | hm
    · exact hs
    · exact RepEs.sizes ht e hm
theorem RepEs.ones {E : Env} : ∀ {sz : Nat} {es : List AV} {b o : Nat}, RepEs E sz es b o → ∀ v ∈ flat es, v.one = true
  | _, _, _, _, .nil _ _ _, v, hv => by simp [flat] at hv
  | _, _, _, _, .cons sz e0 es b o hs h ht, v, hv => by
    rw [flat_cons] at hv
    rcases List.mem_append.1 hv with hm | hm
    · exact h.ones v hm
    · exact RepEs.ones ht v hm

end Go.Am
/- The abstract memory: what it says of a world, and what loads, stores, new blocks and appends do to both. -/
set_option linter.unusedSectionVars false
set_option linter.unusedVariables false
set_option linter.unusedSimpArgs false
namespace Go.Am
open Go.RowKit

variable [Inhabited LaidBox]

/-- The outermost call's world, as far as it is known. -/
def Okk (B : Nat) (E : Env) : Prop := (default : LaidBox).ok E.base ∧ E.base.heap.size = B

/-- The record of a loop over a function. -/
structure LoopRec where
  state : LoopState
  pend : Option Code
  fn : FuncId
  vs : List AV
  ps : Array Tmp
  assign : Code
  body : Code
  d : Nat

/-- `defb`: the block for the deferred calls of a loop's rounds, of which there are none; `dead`: such a block or a record that nobody asks for any more. -/
inductive AObj where
  | cells (cs : List AV)
  | map (kvs : List (List UInt8 × AV))
  | row (e : TypeId) (sz n : Nat)
  | loop (L : LoopRec)
  | defb
  | dead

/-- Blocks that hold no cells. -/
def AObj.oth : AObj → Bool
  | .map _ | .loop _ | .defb | .dead => true
  | _ => false

/-- What memory is asked for: a block, or a row by its name. -/
inductive Key where
  | b (r : Nat)
  | w (t : Nat)
  deriving DecidableEq

abbrev Mem := Key → Option AObj
def Mem.set (M : Mem) (r : Key) (o : AObj) : Mem := fun x => if x = r then some o else M x
theorem Mem.set_same (M : Mem) (r : Key) (o : AObj) : (M.set r o) r = some o := by simp [Mem.set]
theorem Mem.set_other (M : Mem) (r x : Key) (o : AObj) (h : x ≠ r) : (M.set r o) x = M x := by simp [Mem.set, h]
theorem Mem.set_set (M : Mem) (r : Key) (o o' : AObj) : (M.set r o).set r o' = M.set r o' := by
  funext x; simp only [Mem.set]; split <;> rfl
theorem Mem.set_comm (M : Mem) (r s : Key) (o o' : AObj) (h : r ≠ s) : (M.set r o).set s o' = (M.set s o').set r o := by
  funext x; simp only [Mem.set]; split <;> split <;> simp_all
theorem Mem.set_self (M : Mem) (r : Key) (o : AObj) (h : M r = some o) : M.set r o = M := by
  funext x; simp only [Mem.set]; split <;> simp_all

/-- The entries of a map. -/
inductive RepM (E : Env) : List (List UInt8 × AV) → List MapEntry → Prop where
  | nil : RepM E [] []
  | cons (k : List UInt8) (v : AV) (e : MapEntry) (kvs : List (List UInt8 × AV)) (es : List MapEntry) (hk : Rep E (.str k) e.key) (hv : Rep E v e.val) (ht : RepM E kvs es) : RepM E ((k, v) :: kvs) (e :: es)
theorem RepM.mono {E E' : Env} (hE : E.le E') : ∀ {kvs : List (List UInt8 × AV)} {es : List MapEntry}, RepM E kvs es → RepM E' kvs es
  | _, _, .nil => .nil
  | _, _, .cons k v e kvs es hk hv ht => .cons k v e kvs es (hk.mono hE) (hv.mono hE) (RepM.mono hE ht)

def RepO (E : Env) : AObj → Obj → Prop
  | .map kvs, .map es _ => RepM E kvs es.toList
  | .loop L, .loop r => r.state = L.state ∧ r.pending = L.pend ∧ r.fn = L.fn ∧ RepL E L.vs r.tmps.toList ∧ r.params = L.ps ∧ r.assign = L.assign ∧ r.body = L.body ∧ r.defers = L.d
  | .defb, .deferred ds => ds = some []
  | .dead, .deferred _ => True
  | .dead, .loop _ => True
  | _, _ => False
theorem RepO.mono {E E' : Env} (hE : E.le E') {o : AObj} {c : Obj} (h : RepO E o c) : RepO E' o c := by
  cases o <;> cases c <;> first | exact h.elim | exact trivial | exact RepM.mono hE h | exact h | exact ⟨h.1, h.2.1, h.2.2.1, h.2.2.2.1.mono hE, h.2.2.2.2⟩
theorem RepO.no_cells {E : Env} {o : AObj} {cs : Array Value} {ty : TypeId} {f : Nat × Nat} (h : RepO E o (.cells cs ty f)) : False := by cases o <;> exact h

structure Sim0 (B : Nat) (E : Env) (G : Nat → Option Nat) (nr : Nat) (M : Mem) (w : World) : Prop where
  base : B ≤ w.heap.size
  cell : ∀ b o v, E.cell b o = some v → w.cell? ⟨b, o, none⟩ = some v
  dom : ∀ r o, M (.b r) = some o → B ≤ r ∧ r < w.heap.size
  obj : ∀ r cs, M (.b r) = some (.cells cs) → G r = none ∧ (∀ o, E.cell r o = none) ∧ (∀ v ∈ cs, v.one = true) ∧ ∃ ccs ty, w.heap[r]? = some (.cells ccs ty (0, 0)) ∧ RepL E cs ccs.toList
  mp : ∀ r o, o.oth = true → M (.b r) = some o → ∃ c, w.heap[r]? = some c ∧ RepO E o c
  row : ∀ t e sz n, M (.w t) = some (.row e sz n) → (∀ m, n < m → E.rowAt t m = none) ∧ ((n = 0 ∧ ∃ b, E.rowAt t 0 = some (b, 0)) ∨ ∃ b cap cur, E.rowAt t n = some (b, cap) ∧ B ≤ b ∧ G b = some t ∧ w.heap[b]? = some (.cells cur e (0, 0)) ∧ n ≤ cap ∧ cap ≤ maxLen ∧ cur.size = cap * sz ∧ (∀ o, n * sz ≤ o → E.cell b o = none))
  rdom : ∀ t o, M (.w t) = some o → t < nr
  fresh : ∀ t m, nr ≤ t → E.rowAt t m = none
  grow : ∀ b t, G b = some t → t < nr
  ok : Okk B E
  old : ∀ k, k < B → w.heap[k]? = E.base.heap[k]?

def Sim (B : Nat) (E : Env) (M : Mem) (w : World) : Prop := ∃ G nr, Sim0 B E G nr M w

/-- A smaller memory. -/
def Mem.sub (M M' : Mem) : Prop := ∀ r o, M r = some o → M' r = some o
theorem Mem.sub.refl (M : Mem) : M.sub M := fun _ _ h => h
theorem Mem.sub.trans {M M' M'' : Mem} (h : M.sub M') (k : M'.sub M'') : M.sub M'' := fun r o e => k r o (h r o e)
theorem Mem.sub.set_new {M M' : Mem} (h : M.sub M') {r : Key} {o : AObj} (hr : M r = none) : M.sub (M'.set r o) := fun x o' e => by
  by_cases hx : x = r
  · subst hx; rw [hr] at e; cases e
  · rw [Mem.set_other _ _ _ _ hx]; exact h x o' e
theorem Mem.sub.set {M M' : Mem} (h : M.sub M') (r : Key) (o : AObj) : (M.set r o).sub (M'.set r o) := fun x o' e => by
  by_cases hx : x = r
  · subst hx; rw [Mem.set_same] at e ⊢; exact e
  · rw [Mem.set_other _ _ _ _ hx] at e ⊢; exact h x o' e

theorem Sim.weaken {B : Nat} {E : Env} {M M' : Mem} {w : World} (h : Sim B E M' w) (hs : M.sub M') : Sim B E M w := by
  obtain ⟨G, nr, h⟩ := h
  exact ⟨G, nr, h.base, h.cell, fun r o e => h.dom r o (hs _ o e), fun r cs e => h.obj r cs (hs _ _ e), fun r o ho e => h.mp r o ho (hs _ _ e), fun t e sz n he => h.row t e sz n (hs _ _ he), fun t o e => h.rdom t o (hs _ o e), h.fresh, h.grow, h.ok, h.old⟩

theorem cell_lt {w : World} {b o : Nat} {v : Value} (h : w.cell? ⟨b, o, none⟩ = some v) : b < w.heap.size := World.block_lt_of_cell? w _ h

section
variable {B : Nat} {E : Env} {G : Nat → Option Nat} {nr : Nat} {M : Mem} {w : World}
theorem Sim0.cell_none (h : Sim0 B E G nr M w) {b : Nat} (hb : w.heap.size ≤ b) (o : Nat) : E.cell b o = none := by
  cases hc : E.cell b o with
  | none => rfl
  | some v => have := cell_lt (h.cell b o v hc); omega

theorem Sim0.dom_none (h : Sim0 B E G nr M w) {r : Nat} (hr : w.heap.size ≤ r) : M (.b r) = none := by
  cases hc : M (.b r) with
  | none => rfl
  | some o => have := (h.dom r o hc).2; omega

/-- A draw. -/
theorem Sim.drewN {w' : World} (h : Sim B E M w) (hh : w'.heap = w.heap) : Sim B E M w' := by
  obtain ⟨G, nr, h⟩ := h
  have hc : ∀ a, w'.cell? a = w.cell? a := fun a => by simp [World.cell?, hh]
  exact ⟨G, nr, by rw [hh]; exact h.base, fun b o v e => by rw [hc]; exact h.cell b o v e, fun r o e => by rw [hh]; exact h.dom r o e,
    fun r cs e => by simpa [hh] using h.obj r cs e, fun r o ho e => by simpa [hh] using h.mp r o ho e, fun t e sz n he => by simpa [hh] using h.row t e sz n he, h.rdom, h.fresh, h.grow, h.ok, by rw [hh]; exact h.old⟩

/-- A new block that nobody speaks of yet. -/
theorem Sim0.alloc (h : Sim0 B E G nr M w) (o : Obj) : Sim0 B E G nr M (w.alloc o) := by
  have hh : ∀ k, k < w.heap.size → (w.alloc o).heap[k]? = w.heap[k]? := fun k hk => Below.heap_alloc w o k hk
  refine ⟨by have := h.base; simp; omega, ?_, ?_, ?_, ?_, ?_, h.rdom, h.fresh, h.grow, h.ok, fun k hk => (hh k (Nat.lt_of_lt_of_le hk h.base)).trans (h.old k hk)⟩
  · intro b of v e
    have hc := h.cell b of v e
    rw [World.cell?_alloc_lt _ _ _ (cell_lt hc)]; exact hc
  · intro r ob e
    have := h.dom r ob e
    simp; omega
  · intro r cs e
    obtain ⟨h1, h2, h3, ccs, ty, h4, h5⟩ := h.obj r cs e
    exact ⟨h1, h2, h3, ccs, ty, by rw [hh r (h.dom r _ e).2]; exact h4, h5⟩
  · intro r o ho e
    obtain ⟨c, h4, h5⟩ := h.mp r o ho e
    exact ⟨c, by rw [hh r (h.dom r _ e).2]; exact h4, h5⟩
  · intro t e sz n he
    obtain ⟨h0, h1 | ⟨b, cap, cur, h1, h2, h3, h4, h5⟩⟩ := h.row t e sz n he
    · exact ⟨h0, .inl h1⟩
    · exact ⟨h0, .inr ⟨b, cap, cur, h1, h2, h3, by rw [hh b (Array.getElem?_eq_some_iff.1 h4).1]; exact h4, h5⟩⟩
end

/-- The environment with more cells. -/
def Env.lay (E : Env) (b o : Nat) (cs : List Value) : Env :=
  { E with cell := fun b' o' => if b' = b ∧ o ≤ o' ∧ o' < o + cs.length then cs[o' - o]? else E.cell b' o' }
theorem Env.lay_le (E : Env) (b o : Nat) (cs : List Value) (h : ∀ j, j < cs.length → E.cell b (o + j) = none) : E.le (E.lay b o cs) := by
  refine ⟨fun b' o' v e => ?_, fun _ _ _ e => e, rfl⟩
  simp only [Env.lay]
  split
  · rename_i hc
    obtain ⟨rfl, h1, h2⟩ := hc
    have := h (o' - o) (by omega)
    rw [show o + (o' - o) = o' by omega] at this
    rw [this] at e; cases e
  · exact e
theorem Env.lay_lays (E : Env) (b o : Nat) (cs : List Value) : Lays (E.lay b o cs) cs b o := by
  intro j c hj
  have hlt : j < cs.length := by
    rcases Nat.lt_or_ge j cs.length with h | h
    · exact h
    · rw [List.getElem?_eq_none h] at hj; cases hj
  simp only [Env.lay]
  rw [if_pos ⟨trivial, by omega, by omega⟩, show o + j - o = j by omega]
  exact hj
theorem Env.lay_inv {E : Env} {b o : Nat} {cs : List Value} {b' o' : Nat} {v : Value} (h : (E.lay b o cs).cell b' o' = some v) : (b' = b ∧ o ≤ o' ∧ o' < o + cs.length ∧ cs[o' - o]? = some v) ∨ E.cell b' o' = some v := by
  simp only [Env.lay] at h
  split at h
  · rename_i hc; exact .inl ⟨hc.1, hc.2.1, hc.2.2, h⟩
  · exact .inr h
theorem Env.lay_other {E : Env} {b o : Nat} {cs : List Value} {b' o' : Nat} (h : b' ≠ b ∨ o' < o ∨ o + cs.length ≤ o') : (E.lay b o cs).cell b' o' = E.cell b' o' := by
  simp only [Env.lay]
  rw [if_neg (by omega)]

section
variable {B : Nat} {E : Env} {G : Nat → Option Nat} {nr : Nat} {M : Mem} {w : World}
theorem Sim0.row_block_lt (h : Sim0 B E G nr M w) {t : Nat} {e : TypeId} {sz n b cap : Nat} (hM : M (.w t) = some (.row e sz n)) (hr : E.rowAt t n = some (b, cap)) (hg : ∃ cur : Array Value, w.heap[b]? = some (.cells cur e (0, 0))) : b < w.heap.size := by
  obtain ⟨cur, hg⟩ := hg
  exact (Array.getElem?_eq_some_iff.1 hg).1

/-- A new variable. -/
theorem Sim0.new_obj (h : Sim0 B E G nr M w) (ty : TypeId) (cs : List AV) (ccs : List Value) (hr : RepL E cs ccs) (h1 : ∀ v ∈ cs, v.one = true) :
    Sim0 B E (fun x => if x = w.heap.size then none else G x) nr (M.set (.b w.heap.size) (.cells cs)) (w.alloc (.cells ccs.toArray ty)) := by
  have ha := h.alloc (.cells ccs.toArray ty)
  have hnew : (w.alloc (.cells ccs.toArray ty)).heap[w.heap.size]? = some (.cells ccs.toArray ty (0, 0)) := heap_alloc_new w _
  refine ⟨ha.base, ha.cell, ?_, ?_, ?_, ?_, ?_, ha.fresh, ?_, ha.ok, ha.old⟩
  · intro r o e
    by_cases hx : r = w.heap.size
    · subst hx; have := h.base; simp; omega
    · rw [Mem.set_other _ _ _ _ (by simpa using hx)] at e; exact ha.dom r o e
  · intro r cs' e
    by_cases hx : r = w.heap.size
    · subst hx
      rw [Mem.set_same] at e; cases e
      exact ⟨by simp, fun o => h.cell_none (Nat.le_refl _) o, h1, _, _, hnew, by simpa using hr⟩
    · rw [Mem.set_other _ _ _ _ (by simpa using hx)] at e
      obtain ⟨g1, g2⟩ := ha.obj r cs' e
      exact ⟨by simp [hx, g1], g2⟩
  · intro r o ho e
    by_cases hx : r = w.heap.size
    · subst hx; rw [Mem.set_same] at e; cases e; cases ho
    · rw [Mem.set_other _ _ _ _ (by simpa using hx)] at e; exact ha.mp r o ho e
  · intro t e sz n he
    rw [Mem.set_other _ _ _ _ (by simp)] at he
    obtain ⟨h0, g0 | ⟨b, cap, cur, g1, g2, g3, g4, g5⟩⟩ := h.row t e sz n he
    · exact ⟨h0, .inl g0⟩
    · have hb := (Array.getElem?_eq_some_iff.1 g4).1
      exact ⟨h0, .inr ⟨b, cap, cur, g1, g2, by simp [show b ≠ w.heap.size by omega, g3], by rw [Below.heap_alloc w _ b hb]; exact g4, g5⟩⟩
  · intro t o e
    rw [Mem.set_other _ _ _ _ (by simp)] at e; exact h.rdom t o e
  · intro b t e
    split at e
    · cases e
    · exact h.grow b t e

/-- A new block without cells. -/
theorem Sim0.new_oth (h : Sim0 B E G nr M w) (o : AObj) (c : Obj) (ho : o.oth = true) (hc : RepO E o c) :
    Sim0 B E G nr (M.set (.b w.heap.size) o) (w.alloc c) := by
  have ha := h.alloc c
  have hnew : (w.alloc c).heap[w.heap.size]? = some c := heap_alloc_new w _
  refine ⟨ha.base, ha.cell, ?_, ?_, ?_, ?_, ?_, ha.fresh, ha.grow, ha.ok, ha.old⟩
  · intro r o' e
    by_cases hx : r = w.heap.size
    · subst hx; have := h.base; simp; omega
    · rw [Mem.set_other _ _ _ _ (by simpa using hx)] at e; exact ha.dom r o' e
  · intro r cs' e
    by_cases hx : r = w.heap.size
    · subst hx; rw [Mem.set_same] at e; cases e; cases ho
    · rw [Mem.set_other _ _ _ _ (by simpa using hx)] at e; exact ha.obj r cs' e
  · intro r o' ho' e
    by_cases hx : r = w.heap.size
    · subst hx; rw [Mem.set_same] at e; cases e
      exact ⟨_, hnew, hc⟩
    · rw [Mem.set_other _ _ _ _ (by simpa using hx)] at e; exact ha.mp r o' ho' e
  · intro t e sz n he
    rw [Mem.set_other _ _ _ _ (by simp)] at he
    exact ha.row t e sz n he
  · intro t o e
    rw [Mem.set_other _ _ _ _ (by simp)] at e; exact h.rdom t o e
theorem Sim0.new_map (h : Sim0 B E G nr M w) :
    Sim0 B E G nr (M.set (.b w.heap.size) (.map [])) (w.alloc (.map #[] 0)) := h.new_oth _ _ rfl .nil
theorem Sim0.mpm (h : Sim0 B E G nr M w) (r : Nat) (kvs : List (List UInt8 × AV)) (hM : M (.b r) = some (.map kvs)) : ∃ es clock, w.heap[r]? = some (.map es clock) ∧ RepM E kvs es.toList := by
  obtain ⟨c, h1, h2⟩ := h.mp r _ rfl hM
  cases c <;> first | exact h2.elim | exact ⟨_, _, h1, h2⟩

/-- Cells that will never turn. -/
theorem Sim0.new_cells (h : Sim0 B E G nr M w) (ty : TypeId) (cs : List Value) (rest : List Value) :
    Sim0 B (E.lay w.heap.size 0 cs) G nr M (w.alloc (.cells (cs ++ rest).toArray ty)) ∧ E.le (E.lay w.heap.size 0 cs) := by
  have hle : E.le (E.lay w.heap.size 0 cs) := Env.lay_le _ _ _ _ fun j _ => h.cell_none (Nat.le_refl _) _
  have ha := h.alloc (.cells (cs ++ rest).toArray ty)
  refine ⟨⟨ha.base, ?_, ha.dom, ?_, ?_, ?_, ha.rdom, ha.fresh, ha.grow, ha.ok, ha.old⟩, hle⟩
  · intro b o v e
    rcases Env.lay_inv e with ⟨rfl, h1, h2, h3⟩ | e'
    · rw [World.cell?_alloc_new]
      simp only [Nat.sub_zero] at h3
      simp only [List.getElem?_toArray]
      rw [List.getElem?_append_left (by omega)]; exact h3
    · exact ha.cell b o v e'
  · intro r cs' e
    obtain ⟨g1, g2, g3, ccs, ty', g4, g5⟩ := ha.obj r cs' e
    have hne : r ≠ w.heap.size := by have := (h.dom r _ e).2; omega
    exact ⟨g1, fun o => by rw [Env.lay_other (.inl hne)]; exact g2 o, g3, ccs, ty', g4, g5.mono hle⟩
  · intro r o ho e
    obtain ⟨c, g1, g2⟩ := ha.mp r o ho e
    exact ⟨c, g1, g2.mono hle⟩
  · intro t e sz n he
    obtain ⟨h0, g0 | ⟨b, cap, cur, g1, g2, g3, g4, g5, g6, g7, g8⟩⟩ := h.row t e sz n he
    · exact ⟨h0, .inl g0⟩
    · have hb := (Array.getElem?_eq_some_iff.1 g4).1
      exact ⟨h0, .inr ⟨b, cap, cur, g1, g2, g3, by rw [Below.heap_alloc w _ b hb]; exact g4, g5, g6, g7, fun o ho => by rw [Env.lay_other (.inl (by omega))]; exact g8 o ho⟩⟩

/-- A name for a slice without capacity. -/
theorem Sim0.row_nil (h : Sim0 B E G nr M w) (e : TypeId) (sz b : Nat) :
    ∃ E', E.le E' ∧ Sim0 B E' G (nr + 1) (M.set (.w nr) (.row e sz 0)) w ∧ E'.rowAt nr 0 = some (b, 0) := by
  let E' : Env := { E with rowAt := fun t' m => if t' = nr ∧ m = 0 then some (b, 0) else E.rowAt t' m }
  have hle : E.le E' := ⟨fun _ _ _ x => x, fun t' m x hx => by
    simp only [E']
    split
    · rename_i hc; obtain ⟨rfl, rfl⟩ := hc
      rw [h.fresh t' 0 (Nat.le_refl _)] at hx; cases hx
    · exact hx, rfl⟩
  refine ⟨E', hle, ⟨h.base, h.cell, ?_, ?_, ?_, ?_, ?_, ?_, ?_, h.ok, h.old⟩, by simp [E']⟩
  · intro r o er
    rw [Mem.set_other _ _ _ _ (by simp)] at er; exact h.dom r o er
  · intro r cs er
    rw [Mem.set_other _ _ _ _ (by simp)] at er
    obtain ⟨g1, g2, g3, ccs, ty', g4, g5⟩ := h.obj r cs er
    exact ⟨g1, g2, g3, ccs, ty', g4, g5.mono hle⟩
  · intro r o ho er
    rw [Mem.set_other _ _ _ _ (by simp)] at er
    obtain ⟨c, g1, g2⟩ := h.mp r o ho er
    exact ⟨c, g1, g2.mono hle⟩
  · intro t e' sz' n' he
    by_cases hx : t = nr
    · subst hx
      rw [Mem.set_same] at he; cases he
      refine ⟨fun m hm => ?_, .inl ⟨rfl, b, by simp [E']⟩⟩
      simp only [E']; rw [if_neg (by omega)]; exact h.fresh _ _ (Nat.le_refl _)
    · rw [Mem.set_other _ _ _ _ (by simpa using hx)] at he
      have hr : ∀ m, E'.rowAt t m = E.rowAt t m := fun m => by simp only [E']; rw [if_neg (by simp [hx])]
      obtain ⟨h0, g0 | ⟨b', cap, cur, g1, g2⟩⟩ := h.row t e' sz' n' he
      · exact ⟨fun m hm => by rw [hr]; exact h0 m hm, .inl (by rw [hr]; exact g0)⟩
      · exact ⟨fun m hm => by rw [hr]; exact h0 m hm, .inr ⟨b', cap, cur, by rw [hr]; exact g1, g2⟩⟩
  · intro t o er
    by_cases hx : t = nr
    · omega
    · rw [Mem.set_other _ _ _ _ (by simpa using hx)] at er
      have := h.rdom t o er
      omega
  · intro t m ht
    have : t ≠ nr := by omega
    simp only [E']; rw [if_neg (by simp [this])]
    exact h.fresh t m (by omega)
  · intro b t hb
    have := h.grow b t hb
    omega

/-- A row moves into a new block. -/
theorem Sim0.row_new (h : Sim0 B E G nr M w) (t : Nat) (e : TypeId) (sz n n0 cap : Nat) (cs rest : List Value) (hcs : cs.length = n * sz) (hsz : cs.length + rest.length = cap * sz) (hcap : n ≤ cap) (hmax : cap ≤ maxLen)
    (hM : M (.w t) = some (.row e sz n0)) (hn0 : n0 < n) :
    ∃ E' G', E.le E' ∧ Sim0 B E' G' nr (M.set (.w t) (.row e sz n)) (w.alloc (.cells (cs ++ rest).toArray e)) ∧ E'.rowAt t n = some (w.heap.size, cap) ∧ Lays E' cs w.heap.size 0 := by
  obtain ⟨h1, hle1⟩ := h.new_cells e cs rest
  have hnone : ∀ m, n ≤ m → E.rowAt t m = none := fun m hm => (h.row t e sz n0 hM).1 m (by omega)
  let E1 := E.lay w.heap.size 0 cs
  let E' : Env := { E1 with rowAt := fun t' m => if t' = t ∧ m = n then some (w.heap.size, cap) else E1.rowAt t' m }
  have hle2 : E1.le E' := ⟨fun _ _ _ x => x, fun t' m x hx => by
    simp only [E']
    split
    · rename_i hc; obtain ⟨rfl, rfl⟩ := hc
      have : E1.rowAt t' m = none := hnone m (Nat.le_refl _)
      rw [this] at hx; cases hx
    · exact hx, rfl⟩
  refine ⟨E', fun x => if x = w.heap.size then some t else G x, hle1.trans hle2, ⟨h1.base, h1.cell, ?_, ?_, ?_, ?_, ?_, ?_, ?_, h1.ok, h1.old⟩, by simp [E'], ?_⟩
  · intro r o er
    rw [Mem.set_other _ _ _ _ (by simp)] at er; exact h1.dom r o er
  · intro r cs' er
    rw [Mem.set_other _ _ _ _ (by simp)] at er
    obtain ⟨g1, g2, g3, ccs, ty', g4, g5⟩ := h1.obj r cs' er
    have hne : r ≠ w.heap.size := by have := (h.dom r _ er).2; omega
    exact ⟨by simp [hne, g1], g2, g3, ccs, ty', g4, g5.mono hle2⟩
  · intro r o ho er
    rw [Mem.set_other _ _ _ _ (by simp)] at er
    obtain ⟨c, g1, g2⟩ := h1.mp r o ho er
    exact ⟨c, g1, g2.mono hle2⟩
  · intro t' e' sz' n' he
    by_cases hx : t' = t
    · subst hx
      rw [Mem.set_same] at he; cases he
      refine ⟨fun m hm => ?_, .inr ⟨w.heap.size, cap, _, by simp [E'], h.base, by simp, heap_alloc_new w _, hcap, hmax, by simp [hsz], fun o ho => ?_⟩⟩
      · simp only [E']; rw [if_neg (by omega)]; exact hnone m (by omega)
      · show (E.lay w.heap.size 0 cs).cell w.heap.size o = none
        rw [Env.lay_other (.inr (.inr (by omega)))]
        exact h.cell_none (Nat.le_refl _) o
    · rw [Mem.set_other _ _ _ _ (by simpa using hx)] at he
      have hr : ∀ m, E'.rowAt t' m = E.rowAt t' m := fun m => by simp only [E']; rw [if_neg (by simp [hx])]; rfl
      obtain ⟨h0, g0 | ⟨b, cap', cur, g1, g2, g3, g4, g5, g6, g7, g8⟩⟩ := h.row t' e' sz' n' he
      · exact ⟨fun m hm => by rw [hr]; exact h0 m hm, .inl (by rw [hr]; exact g0)⟩
      · have hb := (Array.getElem?_eq_some_iff.1 g4).1
        exact ⟨fun m hm => by rw [hr]; exact h0 m hm, .inr ⟨b, cap', cur, by rw [hr]; exact g1, g2, by simp [show b ≠ w.heap.size by omega, g3], by rw [Below.heap_alloc w _ b hb]; exact g4, g5, g6, g7, fun o ho => by show (E.lay w.heap.size 0 cs).cell b o = none; rw [Env.lay_other (.inl (by omega))]; exact g8 o ho⟩⟩
  · intro t' o er
    by_cases hx : t' = t
    · subst hx; exact h.rdom _ _ hM
    · rw [Mem.set_other _ _ _ _ (by simpa using hx)] at er; exact h.rdom t' o er
  · intro t' m ht'
    have : t' ≠ t := by have := h.rdom t _ hM; omega
    simp only [E']; rw [if_neg (by simp [this])]
    exact h.fresh t' m ht'
  · intro b t' hb
    split at hb
    · cases hb; exact h.rdom _ _ hM
    · exact h.grow b t' hb
  · exact Env.lay_lays E w.heap.size 0 cs

/-- Cells behind a row's own, within its capacity. -/
theorem Sim0.row_more (h : Sim0 B E G nr M w) (t : Nat) (e : TypeId) (sz n m : Nat) (hM : M (.w t) = some (.row e sz n)) (b cap : Nat) (cur : Array Value) (hrow : E.rowAt t n = some (b, cap)) (hG : G b = some t) (hBb : B ≤ b) (hg : w.heap[b]? = some (.cells cur e (0, 0)))
    (g6 : cap ≤ maxLen) (g7 : cur.size = cap * sz) (g8 : ∀ o, n * sz ≤ o → E.cell b o = none) (news : List Value) (hl : news.length = m * sz) (hroom : n + m ≤ cap) (hm : 0 < m) :
    ∃ E', E.le E' ∧ Sim0 B E' G nr (M.set (.w t) (.row e sz (n + m))) (w.setRow b (cur.toList.take (n * sz) ++ news ++ cur.toList.drop (n * sz + news.length)).toArray) ∧ E'.rowAt t (n + m) = some (b, cap) ∧ Lays E' news b (n * sz) := by
  have h0 := (h.row t e sz n hM).1
  let E1 := E.lay b (n * sz) news
  have hle1 : E.le E1 := Env.lay_le _ _ _ _ fun j _ => g8 _ (by omega)
  let E' : Env := { E1 with rowAt := fun t' k => if t' = t ∧ k = n + m then some (b, cap) else E1.rowAt t' k }
  have hle2 : E1.le E' := ⟨fun _ _ _ x => x, fun t' k x hx => by
    simp only [E']
    split
    · rename_i hc; obtain ⟨rfl, rfl⟩ := hc
      have : E1.rowAt t' (n + m) = none := h0 _ (by omega)
      rw [this] at hx; cases hx
    · exact hx, rfl⟩
  have hfit : n * sz + news.length ≤ cur.size := by rw [hl, g7, ← Nat.add_mul]; exact Nat.mul_le_mul_right _ hroom
  have hsize : (cur.toList.take (n * sz) ++ news ++ cur.toList.drop (n * sz + news.length)).toArray.size = cap * sz := by
    simp only [List.size_toArray, List.length_append, List.length_take, List.length_drop, Array.length_toList]
    omega
  refine ⟨E', hle1.trans hle2, ⟨by simpa using h.base, ?_, ?_, ?_, ?_, ?_, ?_, ?_, h.grow, h.ok, fun k hk => (setRow_other w b k _ (by omega)).trans (h.old k hk)⟩, by simp [E'], ?_⟩
  · intro b' o v ec
    rcases Env.lay_inv (E := E) (b := b) (o := n * sz) (cs := news) ec with ⟨rfl, k1, k2, k3⟩ | ec'
    · rw [cell_setRow_same w b' o cur _ e _ hg]
      simp only [List.getElem?_toArray]
      rw [List.append_assoc, List.getElem?_append_right (by simp; omega), List.getElem?_append_left (by simp; omega)]
      rw [← k3]
      congr 1
      simp only [List.length_take, Array.length_toList]
      omega
    · have hc := h.cell b' o v ec'
      by_cases hb : b' = b
      · subst hb
        have hlt : o < n * sz := by
          rcases Nat.lt_or_ge o (n * sz) with h' | h'
          · exact h'
          · rw [g8 o h'] at ec'; cases ec'
        rw [cell_setRow_same w b' o cur _ e _ hg]
        have hcur : w.cell? ⟨b', o, none⟩ = cur[o]? := by simp [World.cell?, hg]
        rw [hcur] at hc
        simp only [List.getElem?_toArray]
        rw [List.append_assoc, List.getElem?_append_left (by simp; omega), List.getElem?_take, if_pos hlt]
        simpa using hc
      · rw [cell_setRow_other w b _ _ (by simpa using hb)]; exact hc
  · intro r o er
    simp only [setRow_size]
    rw [Mem.set_other _ _ _ _ (by simp)] at er; exact h.dom r o er
  · intro r cs' er
    rw [Mem.set_other _ _ _ _ (by simp)] at er
    obtain ⟨k1, k2, k3, ccs, ty', k4, k5⟩ := h.obj r cs' er
    have hne : r ≠ b := by rintro rfl; rw [hG] at k1; cases k1
    exact ⟨k1, fun o => by show (E.lay b (n * sz) news).cell r o = none; rw [Env.lay_other (.inl hne)]; exact k2 o, k3, ccs, ty', by rw [setRow_other w b r _ hne]; exact k4, k5.mono (hle1.trans hle2)⟩
  · intro r o ho er
    rw [Mem.set_other _ _ _ _ (by simp)] at er
    obtain ⟨c, k1, k2⟩ := h.mp r o ho er
    have hne : r ≠ b := by rintro rfl; rw [hg] at k1; cases k1; exact k2.no_cells
    exact ⟨c, by rw [setRow_other w b r _ hne]; exact k1, k2.mono (hle1.trans hle2)⟩
  · intro t' e' sz' n' he
    by_cases hx : t' = t
    · subst hx
      rw [Mem.set_same] at he; cases he
      refine ⟨fun k hk => ?_, .inr ⟨b, cap, _, by simp [E'], hBb, hG, setRow_heap w b cur _ e _ hg, hroom, g6, hsize, fun o ho => ?_⟩⟩
      · simp only [E']; rw [if_neg (by omega)]; exact h0 k (by omega)
      · show (E.lay b (n * sz) news).cell b o = none
        have : n * sz + news.length ≤ o := by rw [hl, ← Nat.add_mul]; exact ho
        rw [Env.lay_other (.inr (.inr this))]
        exact g8 o (by omega)
    · rw [Mem.set_other _ _ _ _ (by simpa using hx)] at he
      have hr : ∀ m, E'.rowAt t' m = E.rowAt t' m := fun m => by simp only [E']; rw [if_neg (by simp [hx])]; rfl
      obtain ⟨k0, k0' | ⟨b', cap', cur', k1, k2, k3, k4, k5, k6, k7, k8⟩⟩ := h.row t' e' sz' n' he
      · exact ⟨fun k hk => by rw [hr]; exact k0 k hk, .inl (by rw [hr]; exact k0')⟩
      · have hb : b' ≠ b := by rintro rfl; rw [hG] at k3; cases k3; exact hx rfl
        refine ⟨fun k hk => by rw [hr]; exact k0 k hk, .inr ⟨b', cap', cur', by rw [hr]; exact k1, k2, k3, by rw [setRow_other w b b' _ hb]; exact k4, k5, k6, k7, fun o ho => ?_⟩⟩
        show (E.lay b (n * sz) news).cell b' o = none
        rw [Env.lay_other (.inl hb)]; exact k8 o ho
  · intro t' o er
    by_cases hx : t' = t
    · subst hx; exact h.rdom _ _ hM
    · rw [Mem.set_other _ _ _ _ (by simpa using hx)] at er; exact h.rdom t' o er
  · intro t' k ht'
    have : t' ≠ t := by have := h.rdom t _ hM; omega
    simp only [E']; rw [if_neg (by simp [this])]
    exact h.fresh t' k ht'
  · exact Env.lay_lays E b (n * sz) news
end

end Go.Am
/- Stores, maps; what the operations on memory run to. -/
set_option linter.unusedSectionVars false
set_option linter.unusedVariables false
set_option linter.unusedSimpArgs false
namespace Go.Am
open Go.RowKit
variable [Inhabited LaidBox]

/-- A store into a variable. -/
theorem Sim0.store {B : Nat} {E : Env} {G : Nat → Option Nat} {nr : Nat} {M : Mem} {w : World} (h : Sim0 B E G nr M w) (r off : Nat) (cs : List AV) (hM : M (.b r) = some (.cells cs)) (vs : List AV) (us : List Value) (hr : RepL E vs us) (h1 : ∀ v ∈ vs, v.one = true) (hfit : off + vs.length ≤ cs.length)
    (ccs : Array Value) (ty : TypeId) (hg : w.heap[r]? = some (.cells ccs ty (0, 0))) :
    Sim0 B E G nr (M.set (.b r) (.cells (cs.take off ++ vs ++ cs.drop (off + vs.length)))) (w.setRow r (ccs.toList.take off ++ us ++ ccs.toList.drop (off + us.length)).toArray) := by
  obtain ⟨g1, g2, g3, ccs', ty', g4, g5⟩ := h.obj r cs hM
  rw [hg] at g4; cases g4
  have hlen := hr.length
  have hlen2 := g5.length
  refine ⟨by simpa using h.base, ?_, ?_, ?_, ?_, ?_, ?_, h.fresh, h.grow, h.ok, ?_⟩
  · intro b o v e
    have hb : b ≠ r := by rintro rfl; rw [g2 o] at e; cases e
    rw [cell_setRow_other w r _ _ (by simpa using hb)]; exact h.cell b o v e
  · intro r' o e
    simp only [setRow_size]
    by_cases hx : r' = r
    · subst hx; exact h.dom _ _ hM
    · rw [Mem.set_other _ _ _ _ (by simpa using hx)] at e; exact h.dom _ _ e
  · intro r' cs' e
    by_cases hx : r' = r
    · subst hx
      rw [Mem.set_same] at e; cases e
      refine ⟨g1, g2, ?_, _, ty, setRow_heap w r' ccs _ ty _ hg, ?_⟩
      · intro v hv
        simp only [List.mem_append] at hv
        rcases hv with (hv | hv) | hv
        · exact g3 v (List.mem_of_mem_take hv)
        · exact h1 v hv
        · exact g3 v (List.mem_of_mem_drop hv)
      · rw [← hlen]
        exact ((g5.take off).append hr).append (g5.drop _)
    · rw [Mem.set_other _ _ _ _ (by simpa using hx)] at e
      obtain ⟨k1, k2, k3, c2, t2, k4, k5⟩ := h.obj r' cs' e
      exact ⟨k1, k2, k3, c2, t2, by rw [setRow_other w r r' _ hx]; exact k4, k5⟩
  · intro r' o ho e
    by_cases hx : r' = r
    · subst hx; rw [Mem.set_same] at e; cases e; cases ho
    · rw [Mem.set_other _ _ _ _ (by simpa using hx)] at e
      obtain ⟨c, k1, k2⟩ := h.mp r' o ho e
      exact ⟨c, by rw [setRow_other w r r' _ hx]; exact k1, k2⟩
  · intro t e sz n he
    rw [Mem.set_other _ _ _ _ (by simp)] at he
    obtain ⟨k0, k1 | ⟨b, cap, cur, k1, k2, k3, k4, k5⟩⟩ := h.row t e sz n he
    · exact ⟨k0, .inl k1⟩
    · have hb : b ≠ r := by rintro rfl; rw [g1] at k3; cases k3
      exact ⟨k0, .inr ⟨b, cap, cur, k1, k2, k3, by rw [setRow_other w r b _ hb]; exact k4, k5⟩⟩
  · intro t o e
    rw [Mem.set_other _ _ _ _ (by simp)] at e; exact h.rdom t o e
  · intro k hk
    have := (h.dom r _ hM).1
    exact (setRow_other w r k _ (by omega)).trans (h.old k hk)

/-- A block without cells turns. -/
theorem Sim0.oth_set {B : Nat} {E : Env} {G : Nat → Option Nat} {nr : Nat} {M : Mem} {w : World} (h : Sim0 B E G nr M w) (r : Nat) (o o' : AObj) (ho : o.oth = true) (ho' : o'.oth = true) (hM : M (.b r) = some o) (c' : Obj) (hr : RepO E o' c') :
    Sim0 B E G nr (M.set (.b r) o') { w with heap := w.heap.setIfInBounds r c' } := by
  obtain ⟨c, g1, g2⟩ := h.mp r o ho hM
  have hlt := (Array.getElem?_eq_some_iff.1 g1).1
  have hother : ∀ k, k ≠ r → (w.heap.setIfInBounds r c')[k]? = w.heap[k]? := fun k hk => by
    rw [Array.getElem?_setIfInBounds]; simp [Ne.symm hk]
  have hsame : (w.heap.setIfInBounds r c')[r]? = some c' := by
    rw [Array.getElem?_setIfInBounds]; simp [hlt]
  refine ⟨by simpa using h.base, ?_, ?_, ?_, ?_, ?_, ?_, h.fresh, h.grow, h.ok, ?_⟩
  · intro b o v e
    have hc := h.cell b o v e
    have hb : b ≠ r := by
      rintro rfl
      cases c with
      | cells cs ty f => exact g2.no_cells
      | _ => simp [World.cell?, g1] at hc
    simpa [World.cell?, hother b hb] using hc
  · intro r' o e
    simp only [Array.size_setIfInBounds]
    by_cases hx : r' = r
    · subst hx; exact h.dom _ _ hM
    · rw [Mem.set_other _ _ _ _ (by simpa using hx)] at e; exact h.dom _ _ e
  · intro r' cs' e
    by_cases hx : r' = r
    · subst hx; rw [Mem.set_same] at e; cases e; cases ho'
    · rw [Mem.set_other _ _ _ _ (by simpa using hx)] at e
      obtain ⟨k1, k2, k3, c2, t2, k4, k5⟩ := h.obj r' cs' e
      exact ⟨k1, k2, k3, c2, t2, by rw [show ({ w with heap := w.heap.setIfInBounds r c' } : World).heap = w.heap.setIfInBounds r c' from rfl, hother r' hx]; exact k4, k5⟩
  · intro r' o2 ho2 e
    by_cases hx : r' = r
    · subst hx; rw [Mem.set_same] at e; cases e
      exact ⟨c', hsame, hr⟩
    · rw [Mem.set_other _ _ _ _ (by simpa using hx)] at e
      obtain ⟨c2, k1, k2⟩ := h.mp r' o2 ho2 e
      exact ⟨c2, (hother r' hx).trans k1, k2⟩
  · intro t e sz n he
    rw [Mem.set_other _ _ _ _ (by simp)] at he
    obtain ⟨k0, k1 | ⟨b, cap, cur, k1, k2, k3, k4, k5⟩⟩ := h.row t e sz n he
    · exact ⟨k0, .inl k1⟩
    · have hb : b ≠ r := by rintro rfl; rw [g1] at k4; cases k4; exact g2.no_cells
      exact ⟨k0, .inr ⟨b, cap, cur, k1, k2, k3, (hother b hb).trans k4, k5⟩⟩
  · intro t o e
    rw [Mem.set_other _ _ _ _ (by simp)] at e; exact h.rdom t o e
  · intro k hk
    have := (h.dom r _ hM).1
    exact (hother k (by omega)).trans (h.old k hk)
theorem Sim0.map_set {B : Nat} {E : Env} {G : Nat → Option Nat} {nr : Nat} {M : Mem} {w : World} (h : Sim0 B E G nr M w) (r : Nat) (kvs kvs' : List (List UInt8 × AV)) (hM : M (.b r) = some (.map kvs)) (es' : Array MapEntry) (clock' : Nat) (hr : RepM E kvs' es'.toList) :
    Sim0 B E G nr (M.set (.b r) (.map kvs')) { w with heap := w.heap.setIfInBounds r (.map es' clock') } := h.oth_set r _ _ rfl rfl hM _ hr

/-! What is told of a type. -/
structure TI where
  desc : TypeDesc
  size : Nat
  bytes : Nat
  zero : AV

def isAggD : TypeDesc → Bool
  | .struct _ | .array _ _ => true
  | _ => false

/-- A value without memory. -/
def AV.conc : AV → Option Value
  | .bool b => some (.bool b)
  | .int k n => some (.int k n)
  | .str s => some (.string ⟨s.toArray⟩)
  | .nilp => some (.pointer none)
  | .sl .full _ [] => some (.slice none 0 0)
  | .nilmap => some (.map none)
  | .nilfn => some .nilFunc
  | .niliface => some .nilIface
  | _ => none
def AV.concs : List AV → Option (List Value)
  | [] => some []
  | v :: vs => match v.conc, AV.concs vs with
    | some c, some cs => some (c :: cs)
    | _, _ => none
def AV.concA : AV → Option Value
  | .agg cs => (AV.concs cs).map fun l => .agg l.toArray
  | v => v.conc

theorem AV.conc_rep {E : Env} {v : AV} {c : Value} (h : v.conc = some c) : Rep E v c := by
  cases v with
  | bool b => simp [AV.conc] at h; subst h; exact .bool b
  | int k n => simp [AV.conc] at h; subst h; exact .int k n
  | str s => simp [AV.conc] at h; subst h; have := Rep.str (E := E) ⟨s.toArray⟩; simpa using this
  | nilp => simp [AV.conc] at h; subst h; exact .nilp
  | sl own sz es =>
    cases own with
    | full =>
      cases es with
      | nil => simp [AV.conc] at h; subst h; exact .slnil _ _ (fun t => by simp)
      | cons e es => simp [AV.conc] at h
    | no => simp [AV.conc] at h
    | srow t => simp [AV.conc] at h
  | nilmap => simp [AV.conc] at h; subst h; exact .nilmap
  | nilfn => simp [AV.conc] at h; subst h; exact .nilfn
  | niliface => simp [AV.conc] at h; subst h; exact .niliface
  | _ => simp [AV.conc] at h
theorem AV.conc_one {v : AV} {c : Value} (h : v.conc = some c) : v.one = true := by
  cases v <;> first | rfl | simp [AV.conc] at h
theorem AV.concs_rep {E : Env} : ∀ {vs : List AV} {cs : List Value}, AV.concs vs = some cs → RepL E vs cs ∧ ∀ v ∈ vs, v.one = true
  | [], cs, h => by simp [AV.concs] at h; subst h; exact ⟨.nil, by simp⟩
  | v :: vs, cs, h => by
    unfold AV.concs at h
    split at h
    · rename_i c cs' hc hcs
      cases h
      obtain ⟨h1, h2⟩ := AV.concs_rep (E := E) hcs
      exact ⟨.cons v c vs cs' (AV.conc_rep hc) h1, fun x hx => by
        rcases List.mem_cons.1 hx with rfl | hm
        · exact AV.conc_one hc
        · exact h2 x hm⟩
    · cases h
theorem AV.concA_rep {E : Env} {v : AV} {c : Value} (h : v.concA = some c) : Rep E v c ∧ RepL E v.cells c.cells.toList ∧ ∀ x ∈ v.cells, x.one = true := by
  by_cases ha : ∃ cs, v = .agg cs
  · obtain ⟨cs, rfl⟩ := ha
    simp only [AV.concA, Option.map_eq_some_iff] at h
    obtain ⟨l, hl, rfl⟩ := h
    obtain ⟨h1, h2⟩ := AV.concs_rep (E := E) hl
    exact ⟨.agg cs l h1, by simpa [AV.cells, Value.cells] using h1, h2⟩
  · have h' : v.conc = some c := by cases v <;> first | exact h | exact absurd ⟨_, rfl⟩ ha
    have hr := AV.conc_rep (E := E) h'
    have h1 := AV.conc_one h'
    have hcells : v.cells = [v] := by cases v <;> first | rfl | exact absurd ⟨_, rfl⟩ ha
    refine ⟨hr, hr.cellsL (by rintro rfl; simp [AV.conc] at h'), ?_⟩
    intro x hx
    rw [hcells, List.mem_singleton] at hx
    subst hx; exact h1

structure TIOk (P : Program) (t : TypeId) (i : TI) : Prop where
  und : P.underlying t = some i.desc
  info : ∃ info z, P.info? t = some info ∧ info.size = i.size ∧ info.bytes = i.bytes ∧ info.zero = some z ∧ i.zero.concA = some z ∧ i.zero.cells.length = i.size

abbrev TT := Nat → Option TI
def TTOk (P : Program) (T : TT) : Prop := ∀ t i, T t = some i → TIOk P t i

section runs
variable {P : Program} {t : TypeId} {i : TI} (w : World)

theorem TIOk.run_und (h : TIOk P t i) : (underlying t).run P w = .ok i.desc w := run_underlying h.und w
theorem TIOk.run_size (h : TIOk P t i) : (sizeOf t).run P w = .ok i.size w := by
  obtain ⟨info, z, h1, h2, _⟩ := h.info
  simp [sizeOf, typeInfo, h1, h2]
theorem TIOk.run_zero (h : TIOk P t i) : ∃ z, (zeroValue t).run P w = .ok z w ∧ i.zero.concA = some z := by
  obtain ⟨info, z, h1, _, _, h4, h5, _⟩ := h.info
  exact ⟨z, by simp [zeroValue, typeInfo, h1, h4], h5⟩
theorem TIOk.run_isAgg (h : TIOk P t i) : (isAgg t).run P w = .ok (isAggD i.desc) w := by
  simp only [isAgg, Sem.run_bind, h.run_und w, Result.andThen_ok]
  cases i.desc <;> rfl

theorem run_loadVar_cells (h : TIOk P t i) (b o : Nat) (cs : List Value) (hlen : cs.length = i.size) (hc : ∀ j c, cs[j]? = some c → w.cell? ⟨b, o + j, none⟩ = some c) :
    (loadVar t ⟨b, o, none⟩).run P w = if isAggD i.desc then .ok (.agg cs.toArray) w else (match w.cell? ⟨b, o, none⟩ with | some v => .ok v w | none => (load ⟨b, o, none⟩).run P w) := by
  unfold loadVar
  simp only [Sem.run_bind, h.run_isAgg w, Result.andThen_ok]
  split
  · simp only [Sem.run_bind, h.run_size w, Result.andThen_ok]
    have := run_loadCells_list (P := P) w ⟨b, o, none⟩ cs (fun j v hj => by rw [Addr.add_lit]; exact hc j v hj)
    rw [← hlen, this]
    rfl
  · cases hcc : w.cell? ⟨b, o, none⟩ with
    | none => rfl
    | some v => simp [hcc]

/-- Of a row of values: the value of a type that lies at an offset. -/
def pickT (agg : Bool) (n : Nat) (vs : List AV) (off : Nat) : Option AV :=
  if off + n ≤ vs.length then if agg then some (.agg ((vs.drop off).take n)) else if n = 1 then vs[off]? else none else none

theorem run_load_rep (h : TIOk P t i) {E : Env} (b o : Nat) (vs : List AV) (cs : List Value) (hr : RepL E vs cs) (off : Nat) (hc : ∀ j c, cs[j]? = some c → w.cell? ⟨b, o + j, none⟩ = some c) (v : AV) (hv : pickT (isAggD i.desc) i.size vs off = some v) :
    ∃ c, (Instr.loadAt t (.pointer (some ⟨b, o + off, none⟩))).run P w = .ok c w ∧ Rep E v c := by
  unfold pickT at hv
  have hlen := hr.length
  split at hv
  · rename_i hfit
    have hd := (hr.drop off).take i.size
    have hdl : ((cs.drop off).take i.size).length = i.size := by simp; omega
    have hcells : ∀ j c, ((cs.drop off).take i.size)[j]? = some c → w.cell? ⟨b, o + off + j, none⟩ = some c := by
      intro j c hj
      rw [List.getElem?_take] at hj
      split at hj
      · rw [List.getElem?_drop] at hj
        have := hc _ _ hj
        rwa [show o + (off + j) = o + off + j by omega] at this
      · cases hj
    have hrun := run_loadVar_cells (P := P) w h b (o + off) _ hdl hcells
    split at hv
    · rename_i hagg
      cases hv
      rw [if_pos hagg] at hrun
      exact ⟨_, by simpa [Instr.loadAt, Instr.sureAddr] using hrun, .agg _ _ hd⟩
    · rename_i hagg
      split at hv
      · rename_i hn
        obtain ⟨c, hc1, hc2⟩ := hr.at off v hv
        have hcell : w.cell? ⟨b, o + off, none⟩ = some c := hc off c hc1
        rw [if_neg hagg, hcell] at hrun
        exact ⟨c, by simpa [Instr.loadAt, Instr.sureAddr] using hrun, hc2⟩
      · cases hv
  · cases hv

theorem cells_of_row (b : Nat) (ccs : Array Value) (ty : TypeId) (fr : Nat × Nat) (hg : w.heap[b]? = some (.cells ccs ty fr)) (j : Nat) (c : Value) (hj : ccs.toList[j]? = some c) : w.cell? ⟨b, 0 + j, none⟩ = some c := by
  simp only [Nat.zero_add, World.cell?, hg]
  simpa using hj

/-- A load out of a variable. -/
theorem run_load_obj (h : TIOk P t i) {B : Nat} {E : Env} {M : Mem} (hs : Sim B E M w) (r off : Nat) (cs : List AV) (hM : M (.b r) = some (.cells cs)) (v : AV) (hv : pickT (isAggD i.desc) i.size cs off = some v) :
    ∃ c, (Instr.loadAt t (.pointer (some ⟨r, off, none⟩))).run P w = .ok c w ∧ Rep E v c := by
  obtain ⟨G, nr, hs⟩ := hs
  obtain ⟨_, _, _, ccs, ty, g4, g5⟩ := hs.obj r cs hM
  have := run_load_rep (P := P) w h r 0 cs ccs.toList g5 off (cells_of_row w r ccs ty _ g4) v hv
  simpa using this

/-- A load out of an element. -/
theorem run_load_elem (h : TIOk P t i) {B : Nat} {E : Env} {M : Mem} (hs : Sim B E M w) (b o off : Nat) (e : AV) (hc : RepCs E e.cells b o) (v : AV) (hv : pickT (isAggD i.desc) i.size e.cells off = some v) :
    ∃ c, (Instr.loadAt t (.pointer (some ⟨b, o + off, none⟩))).run P w = .ok c w ∧ Rep E v c := by
  obtain ⟨G, nr, hs⟩ := hs
  obtain ⟨cs, hr, hl, _⟩ := hc.lays
  exact run_load_rep (P := P) w h b o e.cells cs hr off (fun j c hj => hs.cell _ _ _ (hl j c hj)) v hv

theorem run_load_base (h : TIOk P t i) {B : Nat} {E : Env} {M : Mem} (hs : Sim B E M w) (g o : Nat) (k : IntKind) (z : Int) (hcell : E.base.cell? ⟨g, o, none⟩ = some (.int k z)) {n : Nat} {agg : Bool} (hn : n = 1) (ha : agg = false) (hni : n = i.size) (hai : agg = isAggD i.desc) :
    ∃ c, (Instr.loadAt t (.pointer (some ⟨g, o, none⟩))).run P w = .ok c w ∧ Rep E (.int k z) c := by
  obtain ⟨G, nr, hs⟩ := hs
  have hlt : g < B := by
    have := World.block_lt_of_cell? E.base _ hcell
    rw [← hs.ok.2]; exact this
  have hw : w.cell? ⟨g, o, none⟩ = some (.int k z) := by
    rw [World.cell?_of_block (w := E.base) (hs.old g hlt)]; exact hcell
  have hp : pickT (isAggD i.desc) i.size [AV.int k z] 0 = some (.int k z) := by
    rw [← hni, ← hai, hn, ha]; rfl
  exact run_load_rep (P := P) w h g o [.int k z] [.int k z] (.cons _ _ _ _ (.int k z) .nil) 0 (fun j c hj => by
    cases j with
    | zero => simp at hj; subst hj; simpa using hw
    | succ j => simp at hj) _ hp

/-- A store into a variable. -/
theorem run_store_obj (h : TIOk P t i) {B : Nat} {E : Env} {M : Mem} (hs : Sim B E M w) (r off : Nat) (cs : List AV) (hM : M (.b r) = some (.cells cs)) (v : AV) (c : Value) (hr : Rep E v c) (h1 : ∀ x ∈ v.cells, x.one = true) (hn : v.cells.length = i.size) (hfit : off + i.size ≤ cs.length) :
    ∃ w', (Instr.storeAt t (.pointer (some ⟨r, off, none⟩)) c).run P w = .ok () w' ∧ Sim B E (M.set (.b r) (.cells (cs.take off ++ v.cells ++ cs.drop (off + i.size)))) w' ∧ Below B w w' := by
  obtain ⟨G, nr, hs⟩ := hs
  obtain ⟨_, _, _, ccs, ty, g4, g5⟩ := hs.obj r cs hM
  have hj : v ≠ .junk := by rintro rfl; have := h1 .junk (by simp [AV.cells]); simp [AV.one] at this
  have hcl := hr.cellsL hj
  have hlen := hcl.length
  have hlen2 := g5.length
  have hone : ∀ u ∈ c.cells.toList, u.oneCell' = true := by
    intro u hu
    obtain ⟨k, hk⟩ := List.getElem?_of_mem hu
    have hkl : k < v.cells.length := by
      rw [← hlen]
      rcases Nat.lt_or_ge k c.cells.toList.length with h' | h'
      · exact h'
      · rw [List.getElem?_eq_none h'] at hk; cases hk
    obtain ⟨u', hu', hru⟩ := hcl.at k v.cells[k] (List.getElem?_eq_getElem hkl)
    rw [hk] at hu'; cases hu'
    exact hru.one (h1 _ (List.getElem_mem hkl))
  have hst := run_storeCells_at P r off ty c.cells.toList 0 ccs w g4 (by
    have : c.cells.toList.length = i.size := by rw [hlen, hn]
    have h2 : ccs.size = cs.length := by rw [← hlen2, Array.length_toList]
    omega) hone
  simp only [Nat.add_zero] at hst
  have hsz : c.cells.size = i.size := by rw [← hn, ← hlen, Array.length_toList]
  refine ⟨w.setRow r (ccs.toList.take off ++ c.cells.toList ++ ccs.toList.drop (off + c.cells.toList.length)).toArray, ?_, ⟨G, nr, ?_⟩, ?_⟩
  · simp only [Instr.storeAt, Instr.sureAddr, storeVar, Sem.run_bind, Sem.run_pure, Result.andThen_ok, h.run_size w, hsz, ne_eq, not_true_eq_false, if_false]
    simpa using hst
  · have := hs.store r off cs hM v.cells c.cells.toList hcl h1 (by omega) ccs ty g4
    rw [hn] at this
    exact this
  · refine ⟨rfl, rfl, rfl, by simp, fun k hk => setRow_other w r k _ ?_⟩
    have := (hs.dom r _ hM).1
    omega

end runs
end Go.Am
/- Maps whose keys are strings. -/
set_option linter.unusedSectionVars false
set_option linter.unusedVariables false
set_option linter.unusedSimpArgs false
namespace Go.Am
open Go.RowKit
variable [Inhabited LaidBox]

theorem sameNow_str (a b : ByteArray) : Instr.sameNow .string (.string a) (.string b) = some (decide (a.data.toList = b.data.toList)) := by
  obtain ⟨r, h1, h2⟩ := MapKept.sameNow_of_keys (d := .string) (a := .string a) (b := .string b) trivial trivial
  rw [h1]
  congr 1
  rw [Bool.eq_iff_iff, h2, decide_eq_true_iff]
  constructor
  · intro h; cases h; rfl
  · intro h
    cases a; cases b
    congr 2
    exact Array.ext' h

/-- The value at a key. -/
def findS : List (List UInt8 × AV) → List UInt8 → Option AV
  | [], _ => none
  | (k, v) :: l, s => bif decide (s = k) then some v else findS l s
/-- The value set at a key. -/
def setS : List (List UInt8 × AV) → List UInt8 → AV → List (List UInt8 × AV)
  | [], s, v => [(s, v)]
  | (k, w) :: l, s, v => bif decide (s = k) then (s, v) :: l else (k, w) :: setS l s v

theorem run_findNow {E : Env} (b : ByteArray) : ∀ {kvs : List (List UInt8 × AV)} {es : List MapEntry} (i : Nat), RepM E kvs es →
    (Instr.findNow .string (.string b) es i = some none ∧ findS kvs b.data.toList = none ∧ ∀ v c, RepM E [(b.data.toList, v)] [c] → RepM E (setS kvs b.data.toList v) (es ++ [c])) ∨
    ∃ j e v, Instr.findNow .string (.string b) es i = some (some (i + j, e.val)) ∧ es[j]? = some e ∧ e.key = .string b ∧ findS kvs b.data.toList = some v ∧ Rep E v e.val ∧ ∀ v' c, RepM E [(b.data.toList, v')] [c] → RepM E (setS kvs b.data.toList v') (es.set j c)
  | _, _, i, .nil => by
    refine .inl ⟨rfl, rfl, fun v c h => ?_⟩
    exact h
  | _, _, i, .cons k v e kvs es hk hv ht => by
    cases hk' : e.key with
    | string b' =>
      rw [hk'] at hk
      have hkk : k = b'.data.toList := by cases hk; rfl
      by_cases heq : b.data.toList = k
      · refine .inr ⟨0, e, v, ?_, rfl, ?_, ?_, hv, fun v' c h => ?_⟩
        · simp [Instr.findNow, hk', sameNow_str, heq, hkk]
        · rw [hk']
          rw [hkk] at heq
          cases b; cases b'
          congr 2
          exact (Array.ext' heq).symm
        · simp [findS, heq]
        · cases h with
          | cons _ _ _ _ _ h1 h2 _ =>
            simp only [setS, heq, decide_true, cond_true, List.set_cons_zero]
            rw [heq] at h1
            exact .cons k v' c kvs es h1 h2 ht
      · have hne : Instr.sameNow .string (.string b) (.string b') = some false := by rw [sameNow_str]; rw [hkk] at heq; simp [heq]
        rcases run_findNow b (i + 1) ht with ⟨h1, h2, h3⟩ | ⟨j, e', v', h1, h2, h3, h4, h5, h6⟩
        · refine .inl ⟨?_, ?_, fun v' c h => ?_⟩
          · simp [Instr.findNow, hk', hne, h1]
          · simp [findS, heq, h2]
          · simp only [setS, heq, decide_false, cond_false, List.cons_append]
            exact .cons k v e _ _ (by rw [hk']; exact hk) hv (h3 v' c h)
        · refine .inr ⟨j + 1, e', v', ?_, by simpa using h2, h3, ?_, h5, fun v'' c h => ?_⟩
          · simp [Instr.findNow, hk', hne, h1]; omega
          · simp [findS, heq, h4]
          · simp only [setS, heq, decide_false, cond_false, List.set_cons_succ]
            exact .cons k v e _ _ (by rw [hk']; exact hk) hv (h6 v'' c h)
    | _ => rw [hk'] at hk; cases hk

section
variable {P : Program} {w : World}
theorem run_findKey {kt : TypeId} (hk : P.underlying kt = some .string) (k : Value) (es : List MapEntry) {r : Option (Nat × Value)} (h : Instr.findNow .string k es 0 = some r) : (Instr.findKey kt k es).run P w = .ok r w := by
  simp [Instr.findKey, run_underlying hk, h]
theorem run_checkKey {kt : TypeId} (hk : P.underlying kt = some .string) (em : Bool) (b : ByteArray) : (Instr.checkKey em 10000 kt (.string b)).run P w = .ok () w :=
  MapKept.run_checkKey hk (d := .string) (k := .string b) trivial em 9999

/-- A look-up. -/
theorem run_lookup_map {t kt et : TypeId} {j : TI} (ht : P.underlying t = some (.map kt et)) (hk : P.underlying kt = some .string) (hj : TIOk P et j) {B : Nat} {E : Env} {M : Mem} (hs : Sim B E M w) {r : Nat} {kvs : List (List UInt8 × AV)} (hM : M (.b r) = some (.map kvs)) (b : ByteArray) (ok : Bool) :
    ∃ c, (Instr.lookup t (.map (some r)) (.string b) ok).run P w = .ok (if ok then .tuple #[c, .bool (findS kvs b.data.toList).isSome] else c) w ∧ Rep E ((findS kvs b.data.toList).getD j.zero) c := by
  obtain ⟨G, nr, hs⟩ := hs
  obtain ⟨es, clock, h1, h2⟩ := hs.mpm r kvs hM
  obtain ⟨info, z, i1, i2, i3, i4, i5, i6⟩ := hj.info
  rcases run_findNow b 0 h2 with ⟨f1, f2, _⟩ | ⟨i, e, v, f1, f2, f3, f4, f5, _⟩
  · refine ⟨z, ?_, by rw [f2]; exact (AV.concA_rep i5).1⟩
    simp [Instr.lookup, run_underlying ht, MapKept.run_getObj_map h1, run_checkKey hk, run_findKey hk _ _ f1, zeroValue, typeInfo, i1, i4, f2]
  · refine ⟨e.val, ?_, by rw [f4]; exact f5⟩
    simp [Instr.lookup, run_underlying ht, MapKept.run_getObj_map h1, run_checkKey hk, run_findKey hk _ _ f1, f4]

theorem run_lookup_nil {t kt et : TypeId} {j : TI} (ht : P.underlying t = some (.map kt et)) (hk : P.underlying kt = some .string) (hj : TIOk P et j) {E : Env} (b : ByteArray) (ok : Bool) :
    ∃ c, (Instr.lookup t (.map none) (.string b) ok).run P w = .ok (if ok then .tuple #[c, .bool false] else c) w ∧ Rep E j.zero c := by
  obtain ⟨info, z, i1, i2, i3, i4, i5, i6⟩ := hj.info
  refine ⟨z, ?_, (AV.concA_rep i5).1⟩
  have f1 : Instr.findNow .string (.string b) [] 0 = some none := rfl
  simp [Instr.lookup, run_underlying ht, run_checkKey hk, run_findKey hk _ _ f1, zeroValue, typeInfo, i1, i4]

/-- An update. -/
theorem run_update_map {t kt et : TypeId} (ht : P.underlying t = some (.map kt et)) (hk : P.underlying kt = some .string) {B : Nat} {E : Env} {M : Mem} (hs : Sim B E M w) {r : Nat} {kvs : List (List UInt8 × AV)} (hM : M (.b r) = some (.map kvs)) (b : ByteArray) {v : AV} {c : Value} (hv : Rep E v c) :
    ∃ w', (Instr.mapUpdate t (.map (some r)) (.string b) c).run P w = .ok () w' ∧ Sim B E (M.set (.b r) (.map (setS kvs b.data.toList v))) w' ∧ Below B w w' := by
  obtain ⟨G, nr, hs⟩ := hs
  obtain ⟨es, clock, h1, h2⟩ := hs.mpm r kvs hM
  have hB := (hs.dom r _ hM).1
  have hlt := (hs.dom r _ hM).2
  have hbelow : ∀ o, Below B w { w with heap := w.heap.setIfInBounds r o } := fun o => ⟨rfl, rfl, rfl, by simp, fun k hk => by
    show (w.heap.setIfInBounds r o)[k]? = w.heap[k]?
    rw [Array.getElem?_setIfInBounds]; simp [show r ≠ k by omega]⟩
  have hset : ∀ o, (setObj r o).run P w = .ok () { w with heap := w.heap.setIfInBounds r o } := fun o => MapKept.run_setObj_map o h1
  have hone : ∀ born, RepM E [(b.data.toList, v)] [{ key := .string b, val := c, born := born }] := fun born => .cons _ _ _ _ _ (.str b) hv .nil
  rcases run_findNow b 0 h2 with ⟨f1, f2, f3⟩ | ⟨i, e, v0, f1, f2, f3, f4, f5, f6⟩
  · refine ⟨_, ?_, ⟨G, nr, hs.map_set r kvs _ hM (es.push { key := .string b, val := c, born := clock }) (clock + 1) (by simpa using f3 v _ (hone clock))⟩, hbelow _⟩
    simp [Instr.mapUpdate, run_underlying ht, MapKept.run_getObj_map h1, run_checkKey hk, run_findKey hk _ _ f1, hset]
  · have hes : es[i]? = some e := by simpa using f2
    refine ⟨_, ?_, ⟨G, nr, hs.map_set r kvs _ hM (es.modify i fun e => { e with key := .string b, val := c }) clock ?_⟩, hbelow _⟩
    · have hst : (Instr.keyThatStays (.string b) (.string b)).run P w = .ok (.string b) w := MapKept.run_keyThatStays (d := .string) (k := .string b) trivial
      simp only [Nat.zero_add] at f1
      simp [Instr.mapUpdate, run_underlying ht, MapKept.run_getObj_map h1, run_checkKey hk, run_findKey hk _ _ f1, hes, f3, hst, hset]
    · have hm : (es.modify i fun e => { e with key := .string b, val := c }).toList = es.toList.set i { e with key := .string b, val := c } := by
        rw [Array.toList_modify]
        refine List.ext_getElem? fun j => ?_
        rw [List.getElem?_modify, List.getElem?_set]
        by_cases hij : i = j
        · subst hij
          have hl := (List.getElem?_eq_some_iff.1 f2).1
          simp [f2]
          simpa using hl
        · simp [hij]
      rw [hm]
      exact f6 v _ (.cons _ _ _ _ _ (.str b) hv .nil)
end
end Go.Am
/- States of a function on the way, and the rules for code. -/
set_option linter.unusedSectionVars false
set_option linter.unusedVariables false
set_option linter.unusedSimpArgs false
namespace Go.Am
open Go.RowKit
variable [Inhabited LaidBox] {ro : Option Nat}

/-- Any function, any depth; in a round of a loop over a function, or in none. -/
abbrev wf (ro : Option Nat) : Fence := { fn := fun _ => True, depth := none, alive := false, round := ro }

theorem wf_room (n : Nat) : (wf ro).room n := fun _ h => by simp at h
theorem wf_steps {P : Program} {m m' : Machine} (h : Steps P m m') : StepsIn (Machine.fenced P (wf ro)) P m m' :=
  (StepsIn.of_steps h).mono fun m _ => fenced_wide P m
theorem callsR {P : Program} {n : Nat} {f : FuncId} {args : Array Value} {w : World} {R : Ending → World → Prop} (h : Calls P f args w R) : CallsIn (wf ro) n P f args w R := callsIn_wide.2 h

theorem semAt_run {P : Program} {o : Oper} {ρ : Operand → Value} {w w' : World} {x : Next} (h : (execOp ρ o).run P w = .ok x w') (hx : ∀ d, x ≠ .defer d) : (o.semAt ro ρ).run P w = .ok x w' := by
  rw [Oper.semAt_eq]
  · exact h
  · intro c hc
    unfold execOp at h
    simp only [hc] at h
    simp only [Sem.run_bind] at h
    cases hr : (resolve ρ c o.type).run P w with
    | ok d w1 =>
      rw [hr] at h
      simp only [Result.andThen_ok, Sem.run_pure, Result.ok.injEq] at h
      exact hx d h.1.symm
    | halt y w1 => rw [hr] at h; simp [Result.andThen] at h
theorem uponIn_run {P : Program} {o : Oper} {a : Act} {w w' : World} {x : Next} {K : Act → World → Prop} {Q : Exit → Act → World → Prop} (h : (execOp a.eval o).run P w = .ok x w') (hx : ∀ d, x ≠ .defer d) (hK : o.uponIn (wf ro) 0 P a K Q (.ok x w')) : o.wpIn (wf ro) 0 P a w K Q :=
  ⟨fun _ _ => trivial, by show o.uponIn (wf ro) 0 P a K Q ((o.semAt ro a.eval).run P w); rw [semAt_run h hx]; exact hK⟩

/-- What a slot holds: nothing that is known, a value, a pointer into a variable of the call's own, a slice over a row of its own, a value if a guard is true. -/
inductive TV where
  | junk
  | v (x : AV)
  | lptr (i off : Nat)
  | lsl (i sz : Nat) (es : List AV)
  | opt (g : Bool) (x : TV)

def TV.to (blk rw : List Nat) : TV → Option AV
  | .v x => some x
  | .lptr i off => (blk[i]?).map fun b => .ptr b off
  | .lsl i sz es => (rw[i]?).map fun t => .sl (.srow t) sz es
  | _ => none

def RelV (E : Env) (blk rw : List Nat) : TV → Value → Prop
  | .junk, _ => True
  | .opt g x, c => (g = true → RelV E blk rw x c) ∧ (g = false → c = undef)
  | .v x, c => Rep E x c
  | .lptr i off, c => ∃ b, blk[i]? = some b ∧ c = .pointer (some ⟨b, off, none⟩)
  | .lsl i sz es, c => ∃ t, rw[i]? = some t ∧ Rep E (.sl (.srow t) sz es) c

/-- Longer lists of names. -/
def Pre (l l' : List Nat) : Prop := ∀ (i x : Nat), l[i]? = some x → l'[i]? = some x
theorem Pre.refl (l : List Nat) : Pre l l := fun _ _ h => h
theorem Pre.trans {a b c : List Nat} (h : Pre a b) (k : Pre b c) : Pre a c := fun i x e => k i x (h i x e)
theorem Pre.snoc (l : List Nat) (x : Nat) : Pre l (l ++ [x]) := fun i y h => by
  rw [List.getElem?_append_left]
  · exact h
  · rcases Nat.lt_or_ge i l.length with h' | h'
    · exact h'
    · rw [List.getElem?_eq_none h'] at h; cases h

theorem RelV.mono {E E' : Env} {blk rw blk' rw' : List Nat} (hE : E.le E') (hb : Pre blk blk') (hr : Pre rw rw') : ∀ {x : TV} {c : Value}, RelV E blk rw x c → RelV E' blk' rw' x c
  | .junk, _, _ => trivial
  | .v x, _, h => Rep.mono (v := x) h hE
  | .lptr i off, _, ⟨b, h, e⟩ => ⟨b, hb _ _ h, e⟩
  | .lsl i sz es, _, ⟨t, h, k⟩ => ⟨t, hr _ _ h, k.mono hE⟩
  | .opt g x, _, h => ⟨fun e => RelV.mono hE hb hr (h.1 e), h.2⟩

theorem TV.to_mono {blk rw blk' rw' : List Nat} (hb : Pre blk blk') (hr : Pre rw rw') {x : TV} {v : AV} (h : x.to blk rw = some v) : x.to blk' rw' = some v := by
  cases x with
  | junk => cases h
  | v x => exact h
  | lptr i off =>
    simp only [TV.to, Option.map_eq_some_iff] at h ⊢
    obtain ⟨b, h1, h2⟩ := h
    exact ⟨b, hb _ _ h1, h2⟩
  | lsl i sz es =>
    simp only [TV.to, Option.map_eq_some_iff] at h ⊢
    obtain ⟨b, h1, h2⟩ := h
    exact ⟨b, hr _ _ h1, h2⟩
  | opt g x => cases h

theorem RelV.of_to {E : Env} {blk rw : List Nat} {x : TV} {v : AV} {c : Value} (h : x.to blk rw = some v) (hr : Rep E v c) : RelV E blk rw x c := by
  cases x with
  | junk => trivial
  | v x => cases h; exact hr
  | lptr i off =>
    simp only [TV.to, Option.map_eq_some_iff] at h
    obtain ⟨b, h1, rfl⟩ := h
    cases hr
    exact ⟨b, h1, rfl⟩
  | lsl i sz es =>
    simp only [TV.to, Option.map_eq_some_iff] at h
    obtain ⟨b, h1, rfl⟩ := h
    exact ⟨b, h1, hr⟩
  | opt g x => cases h

inductive RelVL (E : Env) (blk rw : List Nat) : List TV → List Value → Prop where
  | nil : RelVL E blk rw [] []
  | cons (x : TV) (c : Value) (xs : List TV) (cs : List Value) (h : RelV E blk rw x c) (ht : RelVL E blk rw xs cs) : RelVL E blk rw (x :: xs) (c :: cs)

theorem RelVL.length {E : Env} {blk rw : List Nat} : ∀ {xs : List TV} {cs : List Value}, RelVL E blk rw xs cs → cs.length = xs.length
  | _, _, .nil => rfl
  | _, _, .cons _ _ _ _ _ ht => by simp [RelVL.length ht]
theorem RelVL.at {E : Env} {blk rw : List Nat} : ∀ {vs : List TV} {cs : List Value} (h : RelVL E blk rw vs cs) (i : Nat) (v : TV), vs[i]? = some v → ∃ c, cs[i]? = some c ∧ RelV E blk rw v c
  | _, _, .nil, i, v, h => by simp at h
  | _, _, .cons v0 c0 vs cs h0 ht, 0, v, h => by simp at h; subst h; exact ⟨c0, by simp, h0⟩
  | _, _, .cons v0 c0 vs cs h0 ht, i + 1, v, h => by
    simp only [List.getElem?_cons_succ] at h ⊢
    exact RelVL.at ht i v h
theorem RelVL.set {E : Env} {blk rw : List Nat} : ∀ {vs : List TV} {cs : List Value} (h : RelVL E blk rw vs cs) (i : Nat) (v : TV) (c : Value) (hv : RelV E blk rw v c), RelVL E blk rw (vs.set i v) (cs.set i c)
  | _, _, .nil, i, v, c, hv => by simpa using RelVL.nil
  | _, _, .cons v0 c0 vs cs h0 ht, 0, v, c, hv => .cons v c vs cs hv ht
  | _, _, .cons v0 c0 vs cs h0 ht, i + 1, v, c, hv => .cons v0 c0 _ _ h0 (RelVL.set ht i v c hv)
theorem RelVL.mono {E E' : Env} {blk rw blk' rw' : List Nat} (hE : E.le E') (hb : Pre blk blk') (hr : Pre rw rw') : ∀ {vs : List TV} {cs : List Value}, RelVL E blk rw vs cs → RelVL E' blk' rw' vs cs
  | _, _, .nil => .nil
  | _, _, .cons v0 c0 vs cs h0 ht => .cons v0 c0 vs cs (h0.mono hE hb hr) (RelVL.mono hE hb hr ht)
theorem RelVL.append {E : Env} {blk rw : List Nat} : ∀ {vs : List TV} {cs : List Value} {vs' : List TV} {cs' : List Value}, RelVL E blk rw vs cs → RelVL E blk rw vs' cs' → RelVL E blk rw (vs ++ vs') (cs ++ cs')
  | _, _, _, _, .nil, h' => h'
  | _, _, _, _, .cons v c vs cs h ht, h' => .cons v c _ _ h (RelVL.append ht h')
theorem RelVL.of_reps {E : Env} {blk rw : List Nat} : ∀ {vs : List AV} {cs : List Value}, RepL E vs cs → RelVL E blk rw (vs.map .v) cs
  | _, _, .nil => .nil
  | _, _, .cons v c vs cs h ht => .cons _ _ _ _ h (RelVL.of_reps ht)
theorem RelVL.junk (E : Env) (blk rw : List Nat) (n : Nat) (c : Value) : RelVL E blk rw (List.replicate n .junk) (List.replicate n c) := by
  induction n with
  | zero => exact .nil
  | succ n ih => exact .cons _ _ _ _ trivial ih

/-- A deferred call; the mark of a loop over a function. -/
inductive ADef where
  | call (fn : Fn) (cap args : List AV)
  | mark (d : Nat)
def RelD (E : Env) (d : ADef) (c : Deferred) : Prop :=
  match d with
  | .call fn cap args => ∃ cap' args', c = { target := .fn fn cap', args := args' } ∧ RepL E cap cap'.toList ∧ RepL E args args'.toList
  | .mark d => c = { target := .collected d, args := #[] }
theorem RelD.mono {E E' : Env} (hE : E.le E') {d : ADef} {c : Deferred} (h : RelD E d c) : RelD E' d c := by
  cases d with
  | call fn cap args =>
    obtain ⟨cap', args', h1, h2, h3⟩ := h
    exact ⟨cap', args', h1, h2.mono hE, h3.mono hE⟩
  | mark d => exact h
inductive RelDL (E : Env) : List ADef → List Deferred → Prop where
  | nil : RelDL E [] []
  | cons (d : ADef) (c : Deferred) (ds : List ADef) (cs : List Deferred) (h : RelD E d c) (ht : RelDL E ds cs) : RelDL E (d :: ds) (c :: cs)
theorem RelDL.mono {E E' : Env} (hE : E.le E') : ∀ {ds : List ADef} {cs : List Deferred}, RelDL E ds cs → RelDL E' ds cs
  | _, _, .nil => .nil
  | _, _, .cons d c ds cs h ht => .cons d c ds cs (h.mono hE) (RelDL.mono hE ht)

structure St where
  tmps : List TV
  loc : List (Option (List TV))
  rows : List (TypeId × Nat × Nat)
  defs : List ADef
  M : Mem

def St.put (st : St) (d : Option Nat) (x : TV) : St :=
  match d with
  | some d => { st with tmps := st.tmps.set d x }
  | none => st

inductive RelTo (blk rw : List Nat) : List TV → List AV → Prop where
  | nil : RelTo blk rw [] []
  | cons (x : TV) (v : AV) (xs : List TV) (vs : List AV) (h : x.to blk rw = some v) (ht : RelTo blk rw xs vs) : RelTo blk rw (x :: xs) (v :: vs)
theorem RelTo.mono {blk rw blk' rw' : List Nat} (hb : Pre blk blk') (hr : Pre rw rw') : ∀ {xs : List TV} {vs : List AV}, RelTo blk rw xs vs → RelTo blk' rw' xs vs
  | _, _, .nil => .nil
  | _, _, .cons x v xs vs h ht => .cons x v xs vs (TV.to_mono hb hr h) (RelTo.mono hb hr ht)
theorem RelTo.length {blk rw : List Nat} : ∀ {xs : List TV} {vs : List AV}, RelTo blk rw xs vs → vs.length = xs.length
  | _, _, .nil => rfl
  | _, _, .cons _ _ _ _ _ ht => by simp [RelTo.length ht]
theorem RelTo.at {blk rw : List Nat} : ∀ {xs : List TV} {vs : List AV}, RelTo blk rw xs vs → ∀ (i : Nat) (x : TV), xs[i]? = some x → ∃ v, vs[i]? = some v ∧ x.to blk rw = some v
  | _, _, .nil, i, x, h => by simp at h
  | _, _, .cons x0 v0 xs vs h0 ht, 0, x, h => by simp at h; subst h; exact ⟨v0, by simp, h0⟩
  | _, _, .cons x0 v0 xs vs h0 ht, i + 1, x, h => by
    simp only [List.getElem?_cons_succ] at h ⊢
    exact RelTo.at ht i x h
theorem RelTo.take {blk rw : List Nat} : ∀ {xs : List TV} {vs : List AV} (n : Nat), RelTo blk rw xs vs → RelTo blk rw (xs.take n) (vs.take n)
  | _, _, 0, _ => by simpa using RelTo.nil
  | _, _, n + 1, .nil => by simpa using RelTo.nil
  | _, _, n + 1, .cons x v xs vs h ht => .cons x v _ _ h (RelTo.take n ht)
theorem RelTo.drop {blk rw : List Nat} : ∀ {xs : List TV} {vs : List AV} (n : Nat), RelTo blk rw xs vs → RelTo blk rw (xs.drop n) (vs.drop n)
  | _, _, 0, h => by simpa using h
  | _, _, n + 1, .nil => by simpa using RelTo.nil
  | _, _, n + 1, .cons x v xs vs h ht => by simpa using RelTo.drop n ht
theorem RelTo.append {blk rw : List Nat} : ∀ {xs : List TV} {vs : List AV} {xs' : List TV} {vs' : List AV}, RelTo blk rw xs vs → RelTo blk rw xs' vs' → RelTo blk rw (xs ++ xs') (vs ++ vs')
  | _, _, _, _, .nil, h' => h'
  | _, _, _, _, .cons x v xs vs h ht, h' => .cons x v _ _ h (RelTo.append ht h')
theorem RelTo.of_v {blk rw : List Nat} : ∀ (vs : List AV), RelTo blk rw (vs.map .v) vs
  | [] => .nil
  | v :: vs => .cons _ _ _ _ rfl (RelTo.of_v vs)

/-- The memory: the call's own part, what it knows of others, and a frame F that it leaves alone. -/
structure RelM (B : Nat) (E : Env) (F : Mem) (blk rw : List Nat) (loc : List (Option (List TV))) (rows : List (TypeId × Nat × Nat)) (M : Mem) (MM : Mem) (w : World) : Prop where
  sim : Sim B E MM w
  sub : M.sub MM
  frame : ∀ r o, F r = some o → MM r = some o ∧ M r = none ∧ (∀ b, r = .b b → ∀ (i : Nat) tvs, loc[i]? = some (some tvs) → blk[i]? ≠ some b) ∧ (∀ t, r = .w t → ∀ (i : Nat) x, rows[i]? = some x → rw[i]? ≠ some t)
  locs : ∀ (i : Nat) tvs, loc[i]? = some (some tvs) → ∃ b avs, blk[i]? = some b ∧ MM (.b b) = some (.cells avs) ∧ RelTo blk rw tvs avs ∧ M (.b b) = none ∧ (∀ (j : Nat) tvs', loc[j]? = some (some tvs') → blk[j]? = some b → j = i)
  rws : ∀ (i : Nat) e sz n, rows[i]? = some (e, sz, n) → ∃ t, rw[i]? = some t ∧ MM (.w t) = some (.row e sz n) ∧ M (.w t) = none ∧ (∀ (j : Nat) x, rows[j]? = some x → rw[j]? = some t → j = i)
  blen : blk.length = loc.length
  rlen : rw.length = rows.length

structure Rel (B : Nat) (E : Env) (F : Mem) (blk rw : List Nat) (st : St) (a : Act) (w : World) : Prop where
  tmps : RelVL E blk rw st.tmps a.tmps.toList
  defs : RelDL E st.defs a.defers
  mem : ∃ MM, RelM B E F blk rw st.loc st.rows st.M MM w

inductive AExit where
  | normal
  | exit (id : Nat)
  | ret
  | panic (v : AV)

def RelX (E : Env) : AExit → Exit → Prop
  | .normal, .normal => True
  | .exit id, .exit id' => id = id'
  | .ret, .ret => True
  | .panic v, .panic chain => ∃ c, chain = [{ v := c, recovered := false }] ∧ Rep E v c
  | _, _ => False

theorem RelX.mono {E E' : Env} (hE : E.le E') {x : AExit} {e : Exit} (h : RelX E x e) : RelX E' x e := by
  cases x <;> cases e <;> first | exact h | (obtain ⟨c, h1, h2⟩ := h; exact ⟨c, h1, h2.mono hE⟩)

def Out (B : Nat) (E : Env) (F : Mem) (w : World) (Q : AExit → St → Prop) : Exit → Act → World → Prop := fun e a' w' =>
  ∃ x st' E' blk' rw', Q x st' ∧ RelX E' x e ∧ E.le E' ∧ Rel B E' F blk' rw' st' a' w' ∧ Below B w w'

theorem Out.weaken {B : Nat} {E E1 : Env} {F : Mem} {w w1 : World} {Q Q' : AExit → St → Prop} {e : Exit} {a : Act} {w' : World} (h : Out B E1 F w1 Q e a w') (hE : E.le E1) (hw : Below B w w1) (hQ : ∀ x st, Q x st → Q' x st) : Out B E F w Q' e a w' := by
  obtain ⟨x, st', E', blk', rw', h1, h2, h3, h4, h5⟩ := h
  exact ⟨x, st', E', blk', rw', hQ _ _ h1, h2, hE.trans h3, h4, hw.trans h5⟩

def AWp (ro : Option Nat) (P : Program) (c : Code) (Q : AExit → St → Prop) (st : St) : Prop :=
  ∀ B E F blk rw a w, Rel B E F blk rw st a w → c.wpIn (wf ro) 0 P (Out B E F w Q) a w

theorem AWp.mono {P : Program} {c : Code} {Q Q' : AExit → St → Prop} {st : St} (h : AWp ro P c Q st) (hQ : ∀ x st, Q x st → Q' x st) : AWp ro P c Q' st :=
  fun B E F blk rw a w hr => Code.wpIn_mono (fun e a' w' ho => ho.weaken (Env.le.refl E) (Below.refl B w) hQ) (h B E F blk rw a w hr)

def thenA (K : St → Prop) (Q : AExit → St → Prop) : AExit → St → Prop
  | .normal, st => K st
  | x, st => Q x st

theorem Out.here {B : Nat} {E : Env} {F : Mem} {blk rw : List Nat} {st : St} {a : Act} {w : World} {Q : AExit → St → Prop} (hr : Rel B E F blk rw st a w) (x : AExit) (e : Exit) (hx : RelX E x e) (h : Q x st) : Out B E F w Q e a w :=
  ⟨x, st, E, blk, rw, h, hx, Env.le.refl E, hr, Below.refl B w⟩

section rules
variable {P : Program} {Q : AExit → St → Prop} {st : St}
theorem AWp.skip (h : Q .normal st) : AWp ro P .skip Q st := fun B E F blk rw a w hr => wpIn_skip (Out.here hr .normal .normal trivial h)
theorem AWp.exit {id : Nat} (h : Q (.exit id) st) : AWp ro P (.exit id) Q st := fun B E F blk rw a w hr => wpIn_exit (Out.here hr (.exit id) (.exit id) rfl h)
theorem AWp.ret (h : Q .ret st) : AWp ro P .ret Q st := fun B E F blk rw a w hr => wpIn_ret (Out.here hr .ret .ret trivial h)

theorem AWp.seq {x y : Code} (h : AWp ro P x (thenA (AWp ro P y Q) Q) st) : AWp ro P (.seq x y) Q st := by
  intro B E F blk rw a w hr
  refine wpIn_seq (Code.wpIn_mono ?_ (h B E F blk rw a w hr))
  rintro e a1 w1 ⟨x, st1, E1, blk1, rw1, hQ, hx, hE, hr1, hb⟩
  cases e with
  | normal =>
    cases x with
    | normal => exact Code.wpIn_mono (fun e a' w' ho => ho.weaken hE hb fun _ _ h => h) (hQ B E1 F blk1 rw1 a1 w1 hr1)
    | _ => exact hx.elim
  | exit id => cases x <;> first | exact hx.elim | exact ⟨_, st1, E1, blk1, rw1, hQ, hx, hE, hr1, hb⟩
  | goto l => cases x <;> exact hx.elim
  | ret => cases x <;> first | exact hx.elim | exact ⟨_, st1, E1, blk1, rw1, hQ, hx, hE, hr1, hb⟩
  | panic c => cases x <;> first | exact hx.elim | exact ⟨_, st1, E1, blk1, rw1, hQ, hx, hE, hr1, hb⟩
  | outgrown => cases x <;> exact hx.elim

def blockA (id : Nat) (Q : AExit → St → Prop) : AExit → St → Prop
  | .exit id', st => if id' = id then Q .normal st else Q (.exit id') st
  | x, st => Q x st

theorem AWp.block {id : Nat} {c : Code} (h : AWp ro P c (blockA id Q) st) : AWp ro P (.block id c) Q st := by
  intro B E F blk rw a w hr
  refine wpIn_block (Code.wpIn_mono ?_ (h B E F blk rw a w hr))
  rintro e a1 w1 ⟨x, st1, E1, blk1, rw1, hQ, hx, hE, hr1, hb⟩
  cases e with
  | normal => cases x <;> first | exact hx.elim | exact ⟨_, st1, E1, blk1, rw1, hQ, hx, hE, hr1, hb⟩
  | exit id' =>
    cases x with
    | exit id2 =>
      obtain rfl : id2 = id' := hx
      simp only [Exit.inBlock]
      simp only [blockA] at hQ
      split
      · rename_i hid
        rw [if_pos hid] at hQ
        exact ⟨.normal, st1, E1, blk1, rw1, hQ, trivial, hE, hr1, hb⟩
      · rename_i hid
        rw [if_neg hid] at hQ
        exact ⟨.exit id2, st1, E1, blk1, rw1, hQ, rfl, hE, hr1, hb⟩
    | _ => exact hx.elim
  | goto l => cases x <;> exact hx.elim
  | ret => cases x <;> first | exact hx.elim | exact ⟨_, st1, E1, blk1, rw1, hQ, hx, hE, hr1, hb⟩
  | panic c => cases x <;> first | exact hx.elim | exact ⟨_, st1, E1, blk1, rw1, hQ, hx, hE, hr1, hb⟩
  | outgrown => cases x <;> exact hx.elim

/-- From the head of a loop that has begun. -/
def LoopAt (ro : Option Nat) (P : Program) (c : Code) (Q : Exit → Act → World → Prop) (a : Act) (w : World) : Prop :=
  ∀ (b : Frame) (k : List Item) (cs : List Frame), b.roundOf = ro → ∃ e a' w', Q e a' w' ∧ ArrivesIn (Machine.fenced P (wf ro)) P (lone (b.atR a (.code c :: .inLoop c :: k)) cs w) b k cs e a' w'
theorem LoopAt.wp {c : Code} {Q : Exit → Act → World → Prop} {a : Act} {w : World} (h : LoopAt ro P c Q a w) : (Code.loop c).wpIn (wf ro) 0 P Q a w :=
  fun b k cs hro hb hr => let ⟨e, a', w', hq, harr⟩ := h b k cs hro; ⟨e, a', w', hq, .of_steps (.one (fenced_calm hb hr rfl) stepR_loop) harr⟩
theorem LoopAt.unroll {c : Code} {Q : Exit → Act → World → Prop} {a : Act} {w : World} (h : c.wpIn (wf ro) 0 P (Exit.then (LoopAt ro P c Q) Q) a w) : LoopAt ro P c Q a w := by
  intro b k cs hro
  obtain ⟨e, a₁, w₁, hq, harr⟩ := h b (.inLoop c :: k) cs hro trivial (wf_room _)
  cases e with
  | normal =>
    obtain ⟨e₂, a₂, w₂, hq₂, harr₂⟩ := hq b k cs hro
    exact ⟨e₂, a₂, w₂, hq₂, .of_steps (StepsIn.trans harr (.one (fenced_calm (F := wf ro) (n := 0) trivial (wf_room _) rfl) stepR_inLoop)) harr₂⟩
  | exit id => exact ⟨_, a₁, w₁, hq, .pass (x := .inLoop c) rfl (fun _ _ => .inl (by simp)) harr⟩
  | goto l => exact ⟨_, a₁, w₁, hq, .pass (x := .inLoop c) rfl (fun _ _ => .inl (by simp)) harr⟩
  | ret => exact ⟨_, a₁, w₁, hq, .pass (x := .inLoop c) rfl (fun _ _ => .inl (by simp)) harr⟩
  | panic ch => exact ⟨_, a₁, w₁, hq, .pass (x := .inLoop c) rfl (fun _ _ => .inl (by simp)) harr⟩
  | outgrown => exact ⟨_, a₁, w₁, hq, .pass (x := .inLoop c) rfl (fun _ _ => .inl (by simp)) harr⟩
theorem LoopAt.mono {c : Code} {Q Q' : Exit → Act → World → Prop} {a : Act} {w : World} (h : LoopAt ro P c Q a w) (hQ : ∀ e a w, Q e a w → Q' e a w) : LoopAt ro P c Q' a w :=
  fun b k cs hro => let ⟨e, a', w', hq, harr⟩ := h b k cs hro; ⟨e, a', w', hQ _ _ _ hq, harr⟩

def ALoop (ro : Option Nat) (P : Program) (c : Code) (Q : AExit → St → Prop) (st : St) : Prop :=
  ∀ B E F blk rw a w, Rel B E F blk rw st a w → LoopAt ro P c (Out B E F w Q) a w
theorem AWp.loop {c : Code} (h : ALoop ro P c Q st) : AWp ro P (.loop c) Q st := fun B E F blk rw a w hr => (h B E F blk rw a w hr).wp
theorem ALoop.mono {c : Code} {Q' : AExit → St → Prop} (h : ALoop ro P c Q st) (hQ : ∀ x st, Q x st → Q' x st) : ALoop ro P c Q' st :=
  fun B E F blk rw a w hr => (h B E F blk rw a w hr).mono fun e a' w' ho => ho.weaken (Env.le.refl E) (Below.refl B w) hQ
theorem ALoop.unroll {c : Code} (h : AWp ro P c (thenA (ALoop ro P c Q) Q) st) : ALoop ro P c Q st := by
  intro B E F blk rw a w hr
  refine LoopAt.unroll (Code.wpIn_mono ?_ (h B E F blk rw a w hr))
  rintro e a1 w1 ⟨x, st1, E1, blk1, rw1, hQ, hx, hE, hr1, hb⟩
  cases e with
  | normal =>
    cases x with
    | normal => exact (hQ B E1 F blk1 rw1 a1 w1 hr1).mono fun e a' w' ho => ho.weaken hE hb fun _ _ h => h
    | _ => exact hx.elim
  | exit id => cases x <;> first | exact hx.elim | exact ⟨_, st1, E1, blk1, rw1, hQ, hx, hE, hr1, hb⟩
  | goto l => cases x <;> exact hx.elim
  | ret => cases x <;> first | exact hx.elim | exact ⟨_, st1, E1, blk1, rw1, hQ, hx, hE, hr1, hb⟩
  | panic c => cases x <;> first | exact hx.elim | exact ⟨_, st1, E1, blk1, rw1, hQ, hx, hE, hr1, hb⟩
  | outgrown => cases x <;> exact hx.elim

/-! Operands -/
inductive Opd where
  | t (i : Nat)
  | c (v : AV)
  | f (id : Nat)

/-- That an operand is one. -/
inductive IsOpd : Opd → Operand → Prop where
  | t (i : Nat) : IsOpd (.t i) (.tmp i)
  | f (id : Nat) : IsOpd (.f id) (.func id)
  | c (v : AV) (c : Value) (h : v.concA = some c) : IsOpd (.c v) (.const c)

def St.get (st : St) : Opd → TV
  | .t i => (st.tmps[i]?).getD .junk
  | .c v => .v v
  | .f id => .v (.fn (.func id) [] [])

theorem Rel.opd {B : Nat} {E : Env} {F : Mem} {blk rw : List Nat} {a : Act} {w : World} (hr : Rel B E F blk rw st a w) {x : Opd} {y : Operand} (h : IsOpd x y) : RelV E blk rw (st.get x) (a.eval y) := by
  cases h with
  | t i =>
    simp only [St.get, Act.eval]
    cases hi : st.tmps[i]? with
    | none => trivial
    | some tv =>
      obtain ⟨c, hc, hv⟩ := hr.tmps.at i tv hi
      have : a.tmps.getD i undef = c := by
        have h' : a.tmps[i]? = some c := by simpa using hc
        simp [Array.getD_eq_getD_getElem?, h']
      rw [this]; exact hv
  | f id =>
    have := Rep.fn (E := E) (.func id) [] [] [] [] .nil .nil
    exact this
  | c v c h => exact (AV.concA_rep (E := E) h).1

theorem AWp.cond {c : Operand} {x : Opd} {b : Bool} {p q : Code} (hx : IsOpd x c) (hc : st.get x = .v (.bool b)) (h : AWp ro P (bif b then p else q) Q st) : AWp ro P (.cond c p q) Q st := by
  intro B E F blk rw a w hr
  have := hr.opd hx
  rw [hc] at this
  have hev : a.eval c = .bool b := by
    generalize a.eval c = y at this
    cases this; rfl
  refine wpIn_cond hev ?_
  cases b
  · exact h B E F blk rw a w hr
  · exact h B E F blk rw a w hr
end rules

/-! Regions -/
def AOps (ro : Option Nat) (P : Program) (ops : Array Oper) (l : List Nat) (Q : AExit → St → Prop) (st : St) : Prop :=
  ∀ B E F blk rw a w, Rel B E F blk rw st a w → wpOpsIn (wf ro) 0 P ops (Out B E F w Q) l a w

theorem Oper.wpR_mono {P : Program} {o : Oper} {a : Act} {w : World} {K K' : Act → World → Prop} {Q Q' : Exit → Act → World → Prop} (hK : ∀ a w, K a w → K' a w) (hQ : ∀ e a w, Q e a w → Q' e a w) (h : o.wpIn (wf ro) 0 P a w K Q) : o.wpIn (wf ro) 0 P a w K' Q' := by
  refine ⟨h.1, ?_⟩
  have h2 := h.2
  generalize (o.semAt (wf ro).round a.eval).run P w = r at h2 ⊢
  unfold Oper.uponIn at h2 ⊢
  split at h2
  · exact hK _ _ h2
  · exact hK _ _ h2
  · exact hK _ _ h2
  · refine ⟨h2.1, CallsIn.mono h2.2 fun e w' hh => ?_⟩
    cases e with
    | returned v => exact hK _ _ hh
    | panicked chain => exact hQ _ _ _ hh
    | outgrown => obtain ⟨a', w'', h⟩ := hh; exact ⟨a', w'', hQ _ _ _ h⟩
  · exact ⟨h2.1, RowsIn.mono h2.2 fun v w' hh => hK _ _ hh⟩
  · refine ⟨h2.1, RoundIn.mono h2.2 fun e w' hh => ?_⟩
    cases e with
    | returned v => exact hK _ _ hh
    | panicked chain => exact hQ _ _ _ hh
    | outgrown => obtain ⟨a', w'', h⟩ := hh; exact ⟨a', w'', hQ _ _ _ h⟩
  · exact hQ _ _ _ h2
  · exact h2.elim

theorem wpOpsR_mono {P : Program} {ops : Array Oper} {Q Q' : Exit → Act → World → Prop} (hQ : ∀ e a w, Q e a w → Q' e a w) : ∀ (l : List Nat) (a : Act) (w : World), wpOpsIn (wf ro) 0 P ops Q l a w → wpOpsIn (wf ro) 0 P ops Q' l a w
  | [], a, w, h => hQ _ _ _ h
  | i :: rest, a, w, h => by
    simp only [wpOpsIn] at h ⊢
    cases ho : ops[i]? with
    | none => simp only [ho] at h ⊢; exact wpOpsR_mono hQ rest a w h
    | some o =>
      simp only [ho] at h ⊢
      split
      · rename_i hw
        rw [if_pos hw] at h
        exact Oper.wpR_mono (fun a w hh => wpOpsR_mono hQ rest a w hh) hQ h
      · rename_i hw
        rw [if_neg hw] at h
        exact ⟨h.1, wpOpsR_mono hQ rest _ _ h.2⟩

theorem AWp.region {P : Program} {id : Nat} {ops : Array Oper} {Q : AExit → St → Prop} {st : St} (h : AOps ro P ops (List.range ops.size) Q st) : AWp ro P (.region id ops false) Q st :=
  fun B E F blk rw a w hr => wpIn_region (h B E F blk rw a w hr)

theorem AOps.nil {P : Program} {ops : Array Oper} {Q : AExit → St → Prop} {st : St} (h : Q .normal st) : AOps ro P ops [] Q st :=
  fun B E F blk rw a w hr => Out.here hr .normal .normal trivial h

theorem Act.put_tmps (a : Act) (d : Option Nat) (v : Value) : (a.put d v).tmps.toList = match d with | some d => a.tmps.toList.set d v | none => a.tmps.toList := by
  cases d <;> simp [Act.put]

theorem Rel.put {B : Nat} {E : Env} {F : Mem} {blk rw : List Nat} {st : St} {a : Act} {w : World} (hr : Rel B E F blk rw st a w) (d : Option Nat) {x : TV} {c : Value} (hx : RelV E blk rw x c) : Rel B E F blk rw (st.put d x) (a.put d c) w := by
  cases d with
  | none => exact hr
  | some d =>
    refine ⟨?_, hr.defs, hr.mem⟩
    have := hr.tmps.set d x c hx
    simpa [St.put, Act.put] using this

/-- What an operation yields: a value, the memory turned. -/
def OpVal (P : Program) (o : Oper) (st st1 : St) (x : TV) : Prop :=
  ∀ B E F blk rw a w, Rel B E F blk rw st a w → ∃ c w' E' blk' rw', ((execOp a.eval o).run P w = .ok (.value c) w' ∨ ((execOp a.eval o).run P w = .ok .skip w' ∧ c = undef)) ∧ E.le E' ∧ Below B w w' ∧ Rel B E' F blk' rw' st1 a w' ∧ RelV E' blk' rw' x c

theorem AOps.skipped {P : Program} {ops : Array Oper} {i : Nat} {rest : List Nat} {Q : AExit → St → Prop} {st : St} {o : Oper} (ho : ops[i]? = some o) (hg : ∀ B E F blk rw a w, Rel B E F blk rw st a w → Region.wanted o (yielded ops a.tmps) = false)
    (h : AOps ro P ops rest Q (st.put o.dst .junk)) : AOps ro P ops (i :: rest) Q st := by
  intro B E F blk rw a w hr
  simp only [wpOpsIn, ho]
  rw [if_neg (by rw [hg B E F blk rw a w hr]; simp)]
  refine ⟨fun _ _ => trivial, ?_⟩
  exact h B E F blk rw _ w (hr.put o.dst trivial)

theorem AOps.value {P : Program} {ops : Array Oper} {i : Nat} {rest : List Nat} {Q : AExit → St → Prop} {st st1 : St} {o : Oper} {x : TV} (ho : ops[i]? = some o) (hg : o.guard = none)
    (hv : OpVal P o st st1 x) (h : AOps ro P ops rest Q (st1.put o.dst x)) : AOps ro P ops (i :: rest) Q st := by
  intro B E F blk rw a w hr
  simp only [wpOpsIn, ho]
  rw [if_pos (by simp [Region.wanted, hg])]
  obtain ⟨c, w', E', blk', rw', hrun, hE, hb, hr', hx⟩ := hv B E F blk rw a w hr
  rcases hrun with hrun | ⟨hrun, rfl⟩
  · refine uponIn_run hrun (by simp) ?_
    exact wpOpsR_mono (fun e a' w'' ho => ho.weaken hE hb fun _ _ h => h) rest _ _ (h B E' F blk' rw' _ w' (hr'.put o.dst hx))
  · refine uponIn_run hrun (by simp) ?_
    exact wpOpsR_mono (fun e a' w'' ho => ho.weaken hE hb fun _ _ h => h) rest _ _ (h B E' F blk' rw' _ w' (hr'.put o.dst hx))

/-- Under a guard that is g: the operation changes no memory that is spoken of. -/
theorem AOps.guarded {P : Program} {ops : Array Oper} {i : Nat} {rest : List Nat} {Q : AExit → St → Prop} {st : St} {o : Oper} {x : TV} {g : Bool} (ho : ops[i]? = some o)
    (hg : ∀ B E F blk rw a w, Rel B E F blk rw st a w → Region.wanted o (yielded ops a.tmps) = g)
    (hv : g = true → OpVal P o st st x) (h : AOps ro P ops rest Q (st.put o.dst (.opt g x))) : AOps ro P ops (i :: rest) Q st := by
  intro B E F blk rw a w hr
  simp only [wpOpsIn, ho]
  have hw := hg B E F blk rw a w hr
  cases g with
  | false =>
    rw [if_neg (by rw [hw]; simp)]
    refine ⟨fun _ _ => trivial, ?_⟩
    exact h B E F blk rw _ w (hr.put o.dst ⟨fun e => by simp at e, fun _ => rfl⟩)
  | true =>
    rw [if_pos hw]
    obtain ⟨c, w', E', blk', rw', hrun, hE, hb, hr', hx⟩ := hv rfl B E F blk rw a w hr
    rcases hrun with hrun | ⟨hrun, rfl⟩
    · refine uponIn_run hrun (by simp) ?_
      exact wpOpsR_mono (fun e a' w'' ho => ho.weaken hE hb fun _ _ h => h) rest _ _ (h B E' F blk' rw' _ w' (hr'.put o.dst ⟨fun _ => hx, fun e => by simp at e⟩))
    · refine uponIn_run hrun (by simp) ?_
      exact wpOpsR_mono (fun e a' w'' ho => ho.weaken hE hb fun _ _ h => h) rest _ _ (h B E' F blk' rw' _ w' (hr'.put o.dst ⟨fun _ => hx, fun e => by simp at e⟩))

end Go.Am
/- Calls: contracts, entering a function, leaving it. -/
set_option linter.unusedSectionVars false
set_option linter.unusedVariables false
set_option linter.unusedSimpArgs false
namespace Go.Am
open Go.RowKit
variable [Inhabited LaidBox] {ro : Option Nat}

theorem RelDL.nil_inv {E : Env} {cs : List Deferred} (h : RelDL E [] cs) : cs = [] := by cases h; rfl

inductive AEnd where
  | ret (v : AV)
  | panic (v : AV)

def RelE (E : Env) : AEnd → Ending → Prop
  | .ret v, .returned c => Rep E v c
  | .panic v, .panicked chain => ∃ c, chain = [{ v := c, recovered := false }] ∧ Rep E v c
  | _, _ => False
theorem RelE.mono {E E' : Env} (hE : E.le E') {x : AEnd} {e : Ending} (h : RelE E x e) : RelE E' x e := by
  cases x <;> cases e <;> first | exact Rep.mono h hE | exact h.elim | (obtain ⟨c, h1, h2⟩ := h; exact ⟨c, h1, h2.mono hE⟩)

/-- What lies outside of a memory stays. -/
def Frames (M MM M' MM' : Mem) : Prop := ∀ r o, M r = none → MM r = some o → MM' r = some o ∧ M' r = none

def CallPost (B : Nat) (E : Env) (M MM : Mem) (w : World) (R : AEnd → Mem → Prop) : Ending → World → Prop := fun e w' =>
  ∃ x M' MM' E', R x M' ∧ RelE E' x e ∧ E.le E' ∧ M'.sub MM' ∧ Frames M MM M' MM' ∧ Sim B E' MM' w' ∧ Below B w w'

def ACalls (P : Program) (f : FuncId) (args : List AV) (M : Mem) (R : AEnd → Mem → Prop) : Prop :=
  ∀ B E MM w (cargs : Array Value), M.sub MM → Sim B E MM w → RepL E args cargs.toList → Calls P f cargs w (CallPost B E M MM w R)

theorem ACalls.mono {P : Program} {f : FuncId} {args : List AV} {M : Mem} {R R' : AEnd → Mem → Prop} (h : ACalls P f args M R) (hR : ∀ x M', R x M' → R' x M') : ACalls P f args M R' :=
  fun B E MM w cargs h1 h2 h3 => (h B E MM w cargs h1 h2 h3).mono fun e w' ⟨x, M', MM', E', k, rest⟩ => ⟨x, M', MM', E', hR _ _ k, rest⟩

/-! Values that may leave the function. -/
def TV.ext : TV → Option AV
  | .v x => some x
  | .lsl _ sz es => some (.sl .no sz es)
  | _ => none

theorem Rep.forget {E : Env} {own : Own} {sz : Nat} {es : List AV} {c : Value} (h : Rep E (.sl own sz es) c) : Rep E (.sl .no sz es) c := by
  cases h with
  | slnil _ _ h => exact .slnil _ _ fun t => by simp
  | slz _ a => exact .slz _ a
  | sl _ _ _ b o cap n hn h hcap hown => exact .sl _ _ _ b o cap n hn h hcap trivial

theorem RelV.ext {E : Env} {blk rw : List Nat} {x : TV} {c : Value} {v : AV} (h : RelV E blk rw x c) (hx : x.ext = some v) : Rep E v c := by
  cases x with
  | v x => cases hx; exact h
  | lsl i sz es => cases hx; obtain ⟨t, _, h⟩ := h; exact h.forget
  | _ => cases hx

def extL : List TV → Option (List AV)
  | [] => some []
  | x :: xs => match x.ext, extL xs with
    | some v, some vs => some (v :: vs)
    | _, _ => none

theorem RelVL.ext {E : Env} {blk rw : List Nat} : ∀ {xs : List TV} {cs : List Value} {vs : List AV}, RelVL E blk rw xs cs → extL xs = some vs → RepL E vs cs
  | _, _, _, .nil, h => by simp [extL] at h; subst h; exact .nil
  | _, _, vs, .cons x c xs cs h0 ht, h => by
    unfold extL at h
    split at h
    · rename_i v vs' hv hvs
      cases h
      exact .cons _ _ _ _ (h0.ext hv) (RelVL.ext ht hvs)
    · cases h

theorem RelTo.rel {E : Env} {blk rw : List Nat} : ∀ {xs : List TV} {vs : List AV} {cs : List Value}, RelTo blk rw xs vs → RepL E vs cs → RelVL E blk rw xs cs
  | _, _, _, .nil, .nil => .nil
  | _, _, _, .cons x v xs vs h ht, .cons _ c _ cs h' ht' => .cons x c xs cs (RelV.of_to h h') (RelTo.rel ht ht')

theorem RelVL.take {E : Env} {blk rw : List Nat} : ∀ {xs : List TV} {cs : List Value} (n : Nat), RelVL E blk rw xs cs → RelVL E blk rw (xs.take n) (cs.take n)
  | _, _, 0, _ => by simpa using RelVL.nil
  | _, _, n + 1, .nil => by simpa using RelVL.nil
  | _, _, n + 1, .cons v c vs cs h ht => .cons v c _ _ h (RelVL.take n ht)
theorem RelVL.drop {E : Env} {blk rw : List Nat} : ∀ {xs : List TV} {cs : List Value} (n : Nat), RelVL E blk rw xs cs → RelVL E blk rw (xs.drop n) (cs.drop n)
  | _, _, 0, h => by simpa using h
  | _, _, n + 1, .nil => by simpa using RelVL.nil
  | _, _, n + 1, .cons v c vs cs h ht => by simpa using RelVL.drop n ht

/-- A variable of the call's own. -/
theorem Rel.locAt {B : Nat} {E : Env} {F : Mem} {blk rw : List Nat} {st : St} {a : Act} {w : World} (hr : Rel B E F blk rw st a w) (i : Nat) (tvs : List TV) (h : st.loc[i]? = some (some tvs)) :
    ∃ b ccs ty, blk[i]? = some b ∧ w.heap[b]? = some (.cells ccs ty (0, 0)) ∧ RelVL E blk rw tvs ccs.toList := by
  obtain ⟨MM, hm⟩ := hr.mem
  obtain ⟨b, avs, h1, h2, h3, h4, h5⟩ := hm.locs i tvs h
  obtain ⟨G, nr, hs⟩ := hm.sim
  obtain ⟨_, _, _, ccs, ty, g4, g5⟩ := hs.obj b avs h2
  exact ⟨b, ccs, ty, h1, g4, h3.rel g5⟩

def pickL (agg : Bool) (n : Nat) (tvs : List TV) (off : Nat) : Option TV :=
  if off + n ≤ tvs.length then
    if agg then (extL ((tvs.drop off).take n)).map fun l => .v (.agg l)
    else if n = 1 then tvs[off]? else none
  else none

theorem run_load_loc {P : Program} {t : TypeId} {i : TI} (h : TIOk P t i) {B : Nat} {E : Env} {F : Mem} {blk rw : List Nat} {st : St} {a : Act} {w : World} (hr : Rel B E F blk rw st a w) (k off : Nat) (tvs : List TV) (hk : st.loc[k]? = some (some tvs)) (x : TV) (hx : pickL (isAggD i.desc) i.size tvs off = some x) :
    ∃ b c, blk[k]? = some b ∧ (Instr.loadAt t (.pointer (some ⟨b, off, none⟩))).run P w = .ok c w ∧ RelV E blk rw x c := by
  obtain ⟨b, ccs, ty, h1, h2, h3⟩ := hr.locAt k tvs hk
  have hlen := h3.length
  unfold pickL at hx
  split at hx
  · rename_i hfit
    have hd := (h3.drop off).take i.size
    have hdl : ((ccs.toList.drop off).take i.size).length = i.size := by simp only [List.length_take, List.length_drop]; omega
    have hcells : ∀ j c, ((ccs.toList.drop off).take i.size)[j]? = some c → w.cell? ⟨b, off + j, none⟩ = some c := by
      intro j c hj
      rw [List.getElem?_take] at hj
      split at hj
      · rw [List.getElem?_drop] at hj
        have := cells_of_row w b ccs ty _ h2 _ _ hj
        simpa using this
      · cases hj
    have hrun := run_loadVar_cells (P := P) w h b off _ hdl hcells
    split at hx
    · rename_i hagg
      rw [if_pos hagg] at hrun
      simp only [Option.map_eq_some_iff] at hx
      obtain ⟨l, hl, rfl⟩ := hx
      exact ⟨b, _, h1, by simpa [Instr.loadAt, Instr.sureAddr] using hrun, .agg _ _ (hd.ext hl)⟩
    · rename_i hagg
      split at hx
      · obtain ⟨c, hc1, hc2⟩ := h3.at off x hx
        have hcell : w.cell? ⟨b, off, none⟩ = some c := by
          have := cells_of_row w b ccs ty _ h2 off c hc1
          simpa using this
        rw [if_neg hagg, hcell] at hrun
        exact ⟨b, c, h1, by simpa [Instr.loadAt, Instr.sureAddr] using hrun, hc2⟩
      · cases hx
  · cases hx

theorem run_load_ext {P : Program} {t : TypeId} {i : TI} (h : TIOk P t i) {B : Nat} {E : Env} {F : Mem} {blk rw : List Nat} {st : St} {a : Act} {w : World} (hr : Rel B E F blk rw st a w) (r off : Nat) (cs : List AV) (hM : st.M (.b r) = some (.cells cs)) (v : AV) (hv : pickT (isAggD i.desc) i.size cs off = some v) :
    ∃ c, (Instr.loadAt t (.pointer (some ⟨r, off, none⟩))).run P w = .ok c w ∧ Rep E v c := by
  obtain ⟨MM, hm⟩ := hr.mem
  exact run_load_obj (P := P) w h hm.sim r off cs (hm.sub _ _ hM) v hv

/-! Results -/
def resRun (tmps : Array Value) (rv : ResultVar) : Sem Value :=
  match rv with
  | .tmp t => pure (tmps.getD t undef)
  | .cell p t => do loadVar t (← asAddr (tmps.getD p undef))
theorem results_eq (fn : Func) (tmps : Array Value) : results fn tmps = (do
    let vs ← fn.results.mapM (resRun tmps)
    pure (if h : vs.size = 1 then vs[0] else .tuple vs)) := by
  unfold results
  congr 1
/-- What a result variable holds. -/
def ResIs (P : Program) (rv : ResultVar) (st : St) (v : AV) : Prop :=
  ∀ B E F blk rw a w, Rel B E F blk rw st a w → ∃ c, (resRun a.tmps rv).run P w = .ok c w ∧ Rep E v c

theorem Rel.tmpAt {B : Nat} {E : Env} {F : Mem} {blk rw : List Nat} {st : St} {a : Act} {w : World} (hr : Rel B E F blk rw st a w) (t : Nat) : RelV E blk rw ((st.tmps[t]?).getD .junk) (a.tmps.getD t undef) := hr.opd (IsOpd.t t)

theorem ResIs.tmp {P : Program} {t : Nat} {st : St} {v : AV} (h : ((st.tmps[t]?).getD .junk).ext = some v) : ResIs P (.tmp t) st v :=
  fun B E F blk rw a w hr => ⟨_, rfl, (hr.tmpAt t).ext h⟩

theorem ResIs.cell {P : Program} {p : Nat} {t : TypeId} {i : TI} (hi : TIOk P t i) {st : St} {v : AV} {k off : Nat} {tvs : List TV} {x : TV} (hp : (st.tmps[p]?).getD .junk = .lptr k off) (hk : st.loc[k]? = some (some tvs)) (hx : pickL (isAggD i.desc) i.size tvs off = some x) (hv : x.ext = some v) : ResIs P (.cell p t) st v := by
  intro B E F blk rw a w hr
  have h1 := hr.tmpAt p
  rw [hp] at h1
  obtain ⟨b', hb', he⟩ := h1
  obtain ⟨b, c, hb, hrun, hc⟩ := run_load_loc hi hr k off tvs hk x hx
  rw [hb'] at hb; cases hb
  refine ⟨c, ?_, hc.ext hv⟩
  simp only [resRun, Sem.run_bind, he, asAddr, Sem.run_pure, Result.andThen_ok]
  simpa [Instr.loadAt, Instr.sureAddr] using hrun

theorem ResIs.cellM {P : Program} {p : Nat} {t : TypeId} {i : TI} (hi : TIOk P t i) {st : St} {v : AV} {r off : Nat} {cs : List AV} (hp : (st.tmps[p]?).getD .junk = .v (.ptr r off)) (hk : st.M (.b r) = some (.cells cs)) (hx : pickT (isAggD i.desc) i.size cs off = some v) : ResIs P (.cell p t) st v := by
  intro B E F blk rw a w hr
  have h1 := hr.tmpAt p
  rw [hp] at h1
  obtain ⟨c, hrun, hc⟩ := run_load_ext hi hr r off cs hk v hx
  refine ⟨c, ?_, hc⟩
  have he : a.tmps.getD p undef = .pointer (some ⟨r, off, none⟩) := by
    generalize a.tmps.getD p undef = y at h1
    cases h1; rfl
  simp only [resRun, Sem.run_bind, he, asAddr, Sem.run_pure, Result.andThen_ok]
  simpa [Instr.loadAt, Instr.sureAddr] using hrun

inductive ResL (P : Program) : List ResultVar → St → List AV → Prop where
  | nil (st : St) : ResL P [] st []
  | cons (rv : ResultVar) (rvs : List ResultVar) (st : St) (v : AV) (vs : List AV) (h : ResIs P rv st v) (ht : ResL P rvs st vs) : ResL P (rv :: rvs) st (v :: vs)

theorem ResL.run {P : Program} : ∀ {rvs : List ResultVar} {st : St} {vs : List AV}, ResL P rvs st vs → ∀ B E F blk rw a w, Rel B E F blk rw st a w →
    ∃ cs, (rvs.mapM (resRun a.tmps)).run P w = .ok cs w ∧ RepL E vs cs
  | _, _, _, .nil st, B, E, F, blk, rw, a, w, hr => ⟨[], by simp, .nil⟩
  | _, _, _, .cons rv rvs st v vs h ht, B, E, F, blk, rw, a, w, hr => by
    obtain ⟨c, h1, h2⟩ := h B E F blk rw a w hr
    obtain ⟨cs, h3, h4⟩ := ResL.run ht B E F blk rw a w hr
    refine ⟨c :: cs, ?_, .cons _ _ _ _ h2 h4⟩
    simp only [List.mapM_cons, Sem.run_bind, h1, h3, Result.andThen_ok, Sem.run_pure]

def tupV : List AV → AV
  | [v] => v
  | vs => .tup vs

theorem results_run {P : Program} {fn : Func} {st : St} {vs : List AV} (h : ResL P fn.results.toList st vs) {B : Nat} {E : Env} {F : Mem} {blk rw : List Nat} {a : Act} {w : World} (hr : Rel B E F blk rw st a w) :
    ∃ c, (results fn a.tmps).run P w = .ok c w ∧ Rep E (tupV vs) c := by
  obtain ⟨cs, h1, h2⟩ := h.run B E F blk rw a w hr
  have hlen := h2.length
  have hm : (fn.results.mapM (resRun a.tmps)).run P w = .ok cs.toArray w := by
    rw [Array.mapM_eq_mapM_toList]
    simp only [Sem.run_map, h1, Result.andThen_ok]
  rw [results_eq]
  simp only [Sem.run_bind, hm, Result.andThen_ok]
  cases vs with
  | nil =>
    cases h2
    exact ⟨_, rfl, .tup _ _ .nil⟩
  | cons v vs =>
    cases vs with
    | nil =>
      obtain ⟨c, rfl, hc⟩ := h2.one_inv
      exact ⟨c, rfl, hc⟩
    | cons v' vs' =>
      have hne : ¬ cs.toArray.size = 1 := by simp [hlen]
      refine ⟨.tuple cs.toArray, ?_, .tup _ _ h2⟩
      rw [dif_neg hne]
      rfl

/-! Entering a function. -/
theorem Rel.start {B : Nat} {E : Env} {M MM : Mem} {w : World} {args : List AV} {cargs : Array Value} (hsub : M.sub MM) (hs : Sim B E MM w) (hargs : RepL E args cargs.toList) (k : Nat) :
    Rel B E (fun r => if (M r).isNone then MM r else none) [] [] { tmps := args.map .v ++ List.replicate k .junk, loc := [], rows := [], defs := [], M := M } { tmps := cargs ++ Array.replicate k undef, defers := [] } w := by
  refine ⟨?_, .nil, MM, hs, hsub, ?_, ?_, ?_, rfl, rfl⟩
  · simpa using (RelVL.of_reps (blk := []) (rw := []) hargs).append (RelVL.junk E [] [] k undef)
  · intro r o h
    split at h
    · rename_i hn
      exact ⟨h, by simpa using hn, fun b _ i tvs hi => by simp at hi, fun t _ i x hi => by simp at hi⟩
    · cases h
  · intro i tvs hi; simp at hi
  · intro i e sz n hi; simp at hi

/-- Behind the body of a function without deferred calls. -/
def Fin (P : Program) (fn : Func) (R : AEnd → Mem → Prop) : AExit → St → Prop
  | .normal, st | .ret, st => st.defs = [] ∧ ∃ vs, ResL P fn.results.toList st vs ∧ ∃ M', M'.sub st.M ∧ R (.ret (tupV vs)) M'
  | .panic v, st => st.defs = [] ∧ ∃ M', M'.sub st.M ∧ R (.panic v) M'
  | _, _ => False

theorem Rel.finish {B : Nat} {E' : Env} {M MM M' : Mem} {w' : World} {blk rw : List Nat} {st : St} {a : Act} (hr : Rel B E' (fun r => if (M r).isNone then MM r else none) blk rw st a w') (hM' : M'.sub st.M) :
    ∃ MM', M'.sub MM' ∧ Frames M MM M' MM' ∧ Sim B E' MM' w' := by
  obtain ⟨MM', hm⟩ := hr.mem
  refine ⟨MM', hM'.trans hm.sub, ?_, hm.sim⟩
  intro r o h1 h2
  obtain ⟨k1, k2, _⟩ := hm.frame r o (by simp [h1, h2])
  refine ⟨k1, ?_⟩
  cases hr' : M' r with
  | none => rfl
  | some o' => rw [hM' r o' hr'] at k2; cases k2

theorem ACalls.of_wp {P : Program} {f : FuncId} {fn : Func} {c : Code} {args : List AV} {M : Mem} {R : AEnd → Mem → Prop} (k : Nat) (hf : P.funcs[f]? = some fn) (hb : fn.body = some c) (hn : fn.ntmps - args.length = k)
    (h : AWp none P c (Fin P fn R) { tmps := args.map .v ++ List.replicate k .junk, loc := [], rows := [], defs := [], M := M }) : ACalls P f args M R := by
  intro B E MM w cargs hsub hs hargs
  have hlen : cargs.size = args.length := by have := hargs.length; simpa using this
  have hst := Rel.start hsub hs hargs k
  refine calls_of_wp hf hb ((wpIn_wide (n := 0)).1 ?_)
  have hk : fn.ntmps - cargs.size = k := by rw [hlen]; exact hn
  rw [hk]
  refine Code.wpIn_mono ?_ (h B E _ [] [] _ w hst)
  rintro e a1 w1 ⟨x, st1, E1, blk1, rw1, hQ, hx, hE, hr1, hbw⟩
  cases e with
  | normal =>
    cases x with
    | normal =>
      obtain ⟨hd, vs, hres, M', hM', hR⟩ := hQ
      obtain ⟨c, hc, hrep⟩ := results_run hres hr1
      obtain ⟨MM', k1, k2, k3⟩ := hr1.finish hM'
      have hdef := hr1.defs
      rw [hd] at hdef
      exact ⟨hdef.nil_inv, c, hc, .ret (tupV vs), M', MM', E1, hR, hrep, hE, k1, k2, k3, hbw⟩
    | _ => exact hx.elim
  | ret =>
    cases x with
    | ret =>
      obtain ⟨hd, vs, hres, M', hM', hR⟩ := hQ
      obtain ⟨c, hc, hrep⟩ := results_run hres hr1
      obtain ⟨MM', k1, k2, k3⟩ := hr1.finish hM'
      have hdef := hr1.defs
      rw [hd] at hdef
      exact ⟨hdef.nil_inv, c, hc, .ret (tupV vs), M', MM', E1, hR, hrep, hE, k1, k2, k3, hbw⟩
    | _ => exact hx.elim
  | panic chain =>
    cases x with
    | panic v =>
      obtain ⟨hd, M', hM', hR⟩ := hQ
      obtain ⟨MM', k1, k2, k3⟩ := hr1.finish hM'
      have hdef := hr1.defs
      rw [hd] at hdef
      exact ⟨hdef.nil_inv, .panic v, M', MM', E1, hR, hx, hE, k1, k2, k3, hbw⟩
    | _ => exact hx.elim
  | exit id => cases x <;> first | exact hx.elim | exact hQ.elim
  | goto l => cases x <;> exact hx.elim
  | outgrown => cases x <;> exact hx.elim

/-! A call in a region. -/
/-- What a call turns to: a function with its arguments. -/
def CallIs (P : Program) (o : Oper) (st : St) (f : FuncId) (args : List AV) : Prop :=
  ∀ B E F blk rw a w, Rel B E F blk rw st a w → ∃ cargs : Array Value, (execOp a.eval o).run P w = .ok (.enter f cargs) w ∧ RepL E args cargs.toList

theorem Rel.called {B : Nat} {E E' : Env} {F : Mem} {blk rw : List Nat} {st : St} {a : Act} {w w' : World} {MM MM' M' : Mem} (hr : RelM B E F blk rw st.loc st.rows st.M MM w) (ht : RelVL E blk rw st.tmps a.tmps.toList) (hd : RelDL E st.defs a.defers)
    (hE : E.le E') (hsub : M'.sub MM') (hfr : Frames st.M MM M' MM') (hs : Sim B E' MM' w') : Rel B E' F blk rw { st with M := M' } a w' := by
  refine ⟨ht.mono hE (Pre.refl _) (Pre.refl _), hd.mono hE, MM', hs, hsub, ?_, ?_, ?_, hr.blen, hr.rlen⟩
  · intro r o h
    obtain ⟨h1, h2, h3, h4⟩ := hr.frame r o h
    obtain ⟨k1, k2⟩ := hfr r o h2 h1
    exact ⟨k1, k2, h3, h4⟩
  · intro i tvs h
    obtain ⟨b, avs, h1, h2, h3, h4, h5⟩ := hr.locs i tvs h
    obtain ⟨k1, k2⟩ := hfr (.b b) _ h4 h2
    exact ⟨b, avs, h1, k1, h3, k2, h5⟩
  · intro i e sz n h
    obtain ⟨t, h1, h2, h3, h4⟩ := hr.rws i e sz n h
    obtain ⟨k1, k2⟩ := hfr (.w t) _ h3 h2
    exact ⟨t, h1, k1, k2, h4⟩

theorem AOps.call {P : Program} {ops : Array Oper} {i : Nat} {rest : List Nat} {Q : AExit → St → Prop} {st : St} {o : Oper} {f : FuncId} {args : List AV} (ho : ops[i]? = some o) (hg : o.guard = none)
    (hc : CallIs P o st f args) (h : ACalls P f args st.M fun x M' => match x with
      | .ret v => AOps ro P ops rest Q ({ st with M := M' }.put o.dst (.v v))
      | .panic v => Q (.panic v) { st with M := M' }) : AOps ro P ops (i :: rest) Q st := by
  intro B E F blk rw a w hr
  simp only [wpOpsIn, ho]
  rw [if_pos (by simp [Region.wanted, hg])]
  obtain ⟨cargs, hrun, hargs⟩ := hc B E F blk rw a w hr
  obtain ⟨MM, hm⟩ := hr.mem
  refine uponIn_run hrun (by simp) ⟨fun e => by simp at e, callsR ((h B E MM w cargs hm.sub hm.sim hargs).mono ?_)⟩
  rintro e w' ⟨x, M', MM', E', hR, hx, hE, hsub, hfr, hs, hb⟩
  have hrel := Rel.called (a := a) hm hr.tmps hr.defs hE hsub hfr hs
  cases e with
  | returned c =>
    cases x with
    | ret v => exact wpOpsR_mono (fun e a' w'' ho => ho.weaken hE hb fun _ _ h => h) rest _ _ (hR B E' F blk rw _ w' (hrel.put o.dst hx))
    | panic v => exact hx.elim
  | panicked chain =>
    cases x with
    | ret v => exact hx.elim
    | panic v => exact ⟨.panic v, _, E', blk, rw, hR, hx, hE, hrel, hb⟩
  | outgrown => cases x <;> exact hx.elim

end Go.Am
/- Operations in a resolved form, their evaluation on states, and that it is what the machine does: values that touch no memory. -/
set_option linter.unusedSectionVars false
set_option linter.unusedVariables false
set_option linter.unusedSimpArgs false
namespace Go.Am
open Go.RowKit
variable [Inhabited LaidBox] {ro : Option Nat}

/-- The kinds of types that have a nil. -/
inductive NK where
  | ptr
  | map
  | fn
  | iface
  | slice

/-- The kinds of operations. -/
inductive CK where
  | mv (x : Opd)
  | pick (c a b : Opd)
  | ar (op : BinOp) (x y : Opd)
  | qr (op : BinOp) (x y : Opd)
  | ic (op : BinOp) (x y : Opd)
  | sc (op : BinOp) (x y : Opd)
  | cat (x y : Opd)
  | bc (op : BinOp) (x y : Opd)
  | nl (op : BinOp) (k : NK) (x : Opd)
  | no (x : Opd)
  | ng (x : Opd)
  | si (x i : Opd)
  | ai (len sz : Nat) (agg : Bool) (x i : Opd)
  | ln (str : Bool) (x : Opd)
  | ss (x : Opd) (lo hi : Option Opd)
  | sls (sz : Nat) (x : Opd) (lo hi : Option Opd)
  | fl (off n : Nat) (agg : Bool) (x : Opd)
  | fa (off : Nat) (x : Opd)
  | ia (sz : Nat) (x i : Opd)
  | iaa (len sz : Nat) (x i : Opd)
  | iag (gl len : Nat) (i : Opd)
  | ld (n : Nat) (agg : Bool) (x : Opd)
  | nc (x : Opd)
  | mi (t : TypeId) (x : Opd)
  | mf (fn : Fn) (first cap : List Opd)
  | ex (x : Opd) (i : Nat)
  | cv (k : IntKind) (x : Opd)
  | cvs (x : Opd)
  | bd (zero : List AV) (parts : List (Nat × Nat × Opd))
  | bs (e : TypeId) (sz : Nat) (parts : List Opd)
  | sto (n : Nat) (p x : Opd)
  | al (ty : TypeId) (zero : List AV)
  | alS (ty : TypeId) (zero : List AV)
  | bx (ty : TypeId) (x : Opd)
  | bxS (ty : TypeId) (x : Opd)
  | app (e : TypeId) (sz bytes : Nat) (s x : Opd)
  | mks (e : TypeId) (sz bytes : Nat) (zero : AV) (l c : Opd)
  | mm
  | lk (ok : Bool) (zero : AV) (m k : Opd)
  | mu (m k x : Opd)
  | call (f : FuncId) (args : List Opd)
  | callv (f : Opd) (args : List Opd)
  | dfr (f : Opd) (args : List Opd)
  | pan (x : Opd)
  | recov
  | mn (mx : Bool) (x y : Opd)
  | tas (ok : Bool) (t : TypeId) (zero : AV) (x : Opd)
  | seq (t : TypeId) (op : BinOp) (x y : Opd)
  | other (o : Oper)

structure COp where
  dst : Option Nat
  grd : Option (Nat × Bool)
  k : CK

def Val (T : TT) (ty : TypeId) : Value → Option AV
  | .bool b => some (.bool b)
  | .int k n => some (.int k n)
  | .string s => some (.str s.data.toList)
  | .pointer none => some .nilp
  | .slice none 0 0 => match T ty with
    | some i => match i.desc with
      | .slice e => (T e).map fun j => .sl .full j.size []
      | _ => none
    | none => none
  | .map none => some .nilmap
  | .nilFunc => some .nilfn
  | .nilIface => some .niliface
  | .agg cs => match T ty with
    | some i => if cs.size = 0 then none else none
    | none => none
  | _ => none

theorem Val_conc {T : TT} {ty : TypeId} {c : Value} {v : AV} (h : Val T ty c = some v) : v.concA = some c := by
  unfold Val at h
  split at h
  · cases h; rfl
  · cases h; rfl
  · cases h; simp [AV.concA, AV.conc]
  · cases h; rfl
  · split at h
    · split at h
      · simp only [Option.map_eq_some_iff] at h
        obtain ⟨j, _, rfl⟩ := h
        rfl
      · cases h
    · cases h
  · cases h; rfl
  · cases h; rfl
  · cases h; rfl
  · split at h
    · split at h <;> cases h
    · cases h
  · cases h

def cX (T : TT) (ty : TypeId) : Operand → Option Opd
  | .tmp i => some (.t i)
  | .func f => some (.f f)
  | .const c => (Val T ty c).map .c
  | .global _ => none

theorem cX_is {T : TT} {ty : TypeId} {y : Operand} {x : Opd} (h : cX T ty y = some x) : IsOpd x y := by
  cases y with
  | tmp i => cases h; exact .t i
  | func f => cases h; exact .f f
  | const c =>
    simp only [cX, Option.map_eq_some_iff] at h
    obtain ⟨v, hv, rfl⟩ := h
    exact .c v c (Val_conc hv)
  | global g => cases h

/-- Reading an operand under a guard. -/
def rd (g : Bool) : TV → Option (AV × Prop)
  | .v x => some (x, True)
  | .lsl _ sz es => some (.sl .no sz es, True)
  | .opt h (.v x) => some (x, g = true → h = true)
  | .opt h (.lsl _ sz es) => some (.sl .no sz es, g = true → h = true)
  | _ => none

/-- A pointer into a variable of the call's own. -/
def lp (g : Bool) : TV → Option (Nat × Nat × Prop)
  | .lptr i o => some (i, o, True)
  | .opt h (.lptr i o) => some (i, o, g = true → h = true)
  | _ => none
theorem lp_rel {E : Env} {blk rw : List Nat} {x : TV} {c : Value} {i o : Nat} {p : Prop} (h : RelV E blk rw x c) (hr : lp true x = some (i, o, p)) (hp : p) : ∃ b, blk[i]? = some b ∧ c = .pointer (some ⟨b, o, none⟩) := by
  cases x with
  | lptr i' o' => cases hr; exact h
  | opt g x =>
    cases x with
    | lptr i' o' => cases hr; exact h.1 (hp rfl)
    | _ => cases hr
  | _ => cases hr

theorem rd_rep {E : Env} {blk rw : List Nat} {x : TV} {c : Value} {v : AV} {p : Prop} (h : RelV E blk rw x c) (hr : rd true x = some (v, p)) (hp : p) : Rep E v c := by
  cases x with
  | v x => cases hr; exact h
  | lsl i sz es => cases hr; obtain ⟨t, _, h⟩ := h; exact h.forget
  | opt g x =>
    cases x with
    | v x => cases hr; exact h.1 (hp rfl)
    | lsl i sz es => cases hr; obtain ⟨t, _, h⟩ := h.1 (hp rfl); exact h.forget
    | _ => cases hr
  | _ => cases hr

/-- The range of a kind of whole numbers. -/
def InR (k : IntKind) (n : Int) : Prop :=
  match k with
  | .i8 => -128 ≤ n ∧ n ≤ 127
  | .i16 => -32768 ≤ n ∧ n ≤ 32767
  | .i32 => -2147483648 ≤ n ∧ n ≤ 2147483647
  | .i64 => -9223372036854775808 ≤ n ∧ n ≤ 9223372036854775807
  | .u8 => 0 ≤ n ∧ n ≤ 255
  | .u16 => 0 ≤ n ∧ n ≤ 65535
  | .u32 => 0 ≤ n ∧ n ≤ 4294967295
  | .u64 => 0 ≤ n ∧ n ≤ 18446744073709551615

theorem InR.wrap {k : IntKind} {n : Int} (h : InR k n) : k.wrap n = n := by
  cases k <;> simp only [InR] at h <;> simp [IntKind.wrap, IntKind.bits, IntKind.signed] <;> omega

def arith (op : BinOp) (a b : Int) : Int :=
  match op with
  | .add => a + b
  | .sub => a - b
  | _ => a * b
def quorem (op : BinOp) (a b : Int) : Int :=
  match op with
  | .quo => a.tdiv b
  | _ => a.tmod b
def icmp (op : BinOp) (a b : Int) : Bool :=
  match op with
  | .eql => decide (a = b)
  | .neq => !decide (a = b)
  | .lss => decide (a < b)
  | .leq => decide (a ≤ b)
  | .gtr => decide (b < a)
  | _ => decide (b ≤ a)
def scmp (op : BinOp) (a b : List UInt8) : Bool :=
  match op with
  | .eql => decide (a = b)
  | _ => !decide (a = b)
def bcmp (op : BinOp) (a b : Bool) : Bool :=
  match op with
  | .eql => a == b
  | _ => a != b
def nlB (op : BinOp) (b : Bool) : Bool :=
  match op with
  | .eql => b
  | _ => !b

/-- Whether a value is nil. -/
def isNil : NK → AV → Option Bool
  | .ptr, .nilp | .map, .nilmap | .fn, .nilfn | .iface, .niliface => some true
  | .ptr, .ptr _ _ | .ptr, .eptr _ _ _ _ | .map, .map _ | .fn, .fn _ _ _ | .iface, .iface _ _ => some false
  | .slice, .sl _ _ (_ :: _) => some false
  | _, _ => none

def bound (g : Bool) (d : Int) (get : Opd → TV) : Option Opd → Option (Int × Prop)
  | none => some (d, True)
  | some x => match rd g (get x) with
    | some (.int _ n, p) => some (n, p)
    | _ => none

def fillA (zero : List AV) (g : Bool) (get : Opd → TV) : List (Nat × Nat × Opd) → Option (List AV × Prop)
  | [] => some (zero, True)
  | (off, n, x) :: rest => match rd g (get x) with
    | some (v, p) => match fillA (zero.take off ++ v.cells ++ zero.drop (off + n)) g get rest with
      | some (cs, q) => some (cs, p ∧ v.cells.length = n ∧ (∀ y ∈ v.cells, y.one = true) ∧ q)
      | none => none
    | none => none

def rdL (g : Bool) (get : Opd → TV) : List Opd → Option (List AV × Prop)
  | [] => some ([], True)
  | x :: xs => match rd g (get x), rdL g get xs with
    | some (v, p), some (vs, q) => some (v :: vs, p ∧ q)
    | _, _ => none

/-- The value of an operation that changes no memory that is spoken of, and what it needs. -/
def pev (k : CK) (g : Bool) (st : St) : Option (TV × Prop) :=
  match k with
  | .mv x => match st.get x with
    | .opt h (.v y) => some (.v y, g = true → h = true)
    | .opt _ _ => none
    | y => some (y, True)
  | .pick c a b => match rd g (st.get c), rd true (st.get a), rd true (st.get b) with
    | some (.bool c, p), some (.bool a, q), some (.bool b, r) => some (.v (.bool (bif c then a else b)), p ∧ (c = true → q) ∧ (c = false → r))
    | _, _, _ => none
  | .ar op x y => match rd g (st.get x), rd g (st.get y) with
    | some (.int k a, p), some (.int k' b, q) => some (.v (.int k (arith op a b)), p ∧ q ∧ k = k' ∧ InR k (arith op a b))
    | _, _ => none
  | .qr op x y => match rd g (st.get x), rd g (st.get y) with
    | some (.int k a, p), some (.int k' b, q) => some (.v (.int k (quorem op a b)), p ∧ q ∧ k = k' ∧ b ≠ 0 ∧ InR k (quorem op a b))
    | _, _ => none
  | .ic op x y => match rd g (st.get x), rd g (st.get y) with
    | some (.int k a, p), some (.int k' b, q) => some (.v (.bool (icmp op a b)), p ∧ q ∧ k = k')
    | _, _ => none
  | .sc op x y => match rd g (st.get x), rd g (st.get y) with
    | some (.str a, p), some (.str b, q) => some (.v (.bool (scmp op a b)), p ∧ q)
    | _, _ => none
  | .cat x y => match rd g (st.get x), rd g (st.get y) with
    | some (.str a, p), some (.str b, q) => some (.v (.str (a ++ b)), p ∧ q ∧ a.length + b.length ≤ 9223372036854775807)
    | _, _ => none
  | .bc op x y => match rd g (st.get x), rd g (st.get y) with
    | some (.bool a, p), some (.bool b, q) => some (.v (.bool (bcmp op a b)), p ∧ q)
    | _, _ => none
  | .nl op k x => match st.get x with
    | .lptr _ _ => match k with
      | .ptr => some (.v (.bool (nlB op false)), True)
      | _ => none
    | y => match rd g y with
      | some (v, p) => match isNil k v with
        | some b => some (.v (.bool (nlB op b)), p)
        | none => none
      | none => none
  | .no x => match rd g (st.get x) with
    | some (.bool b, p) => some (.v (.bool (!b)), p)
    | _ => none
  | .ng x => match rd g (st.get x) with
    | some (.int k a, p) => some (.v (.int k (0 - a)), p ∧ InR k (0 - a))
    | _ => none
  | .si x i => match rd g (st.get x), rd g (st.get i) with
    | some (.str s, p), some (.int _ n, q) => some (.v (.int .u8 ((s.getD n.toNat 0).toNat)), p ∧ q ∧ 0 ≤ n ∧ n < s.length)
    | _, _ => none
  | .ln true x => match rd g (st.get x) with
    | some (.str s, p) => some (.v (.int .i64 s.length), p)
    | _ => none
  | .ln false x => match rd g (st.get x) with
    | some (.sl _ _ es, p) => some (.v (.int .i64 es.length), p)
    | _ => none
  | .ss x lo hi => match rd g (st.get x) with
    | some (.str s, p) => match bound g 0 st.get lo, bound g s.length st.get hi with
      | some (l, q), some (h, r) => some (.v (.str ((s.take h.toNat).drop l.toNat)), p ∧ q ∧ r ∧ 0 ≤ l ∧ l ≤ h ∧ h ≤ s.length)
      | _, _ => none
    | _ => none
  | .sls sz x lo hi => match rd g (st.get x) with
    | some (.sl _ sz' es, p) => match bound g 0 st.get lo, bound g es.length st.get hi with
      | some (l, q), some (h, r) => some (.v (.sl .no sz ((es.take h.toNat).drop l.toNat)), p ∧ q ∧ r ∧ 0 ≤ l ∧ l ≤ h ∧ h ≤ es.length ∧ (sz' = sz ∨ es = []))
      | _, _ => none
    | _ => none
  | .fl off n agg x => match rd g (st.get x) with
    | some (.agg cs, p) => match pickT agg n cs off with
      | some v => some (.v v, p)
      | none => none
    | _ => none
  | .fa off x => match lp g (st.get x) with
    | some (i, o, p) => some (.lptr i (o + off), p)
    | none => match rd g (st.get x) with
      | some (.ptr r o, p) => some (.v (.ptr r (o + off)), p)
      | some (.eptr sz es i o, p) => some (.v (.eptr sz es i (o + off)), p)
      | _ => none
  | .ia sz x i => match rd g (st.get x), rd g (st.get i) with
    | some (.sl _ sz' es, p), some (.int _ n, q) => some (.v (.eptr sz es n.toNat 0), p ∧ q ∧ 0 ≤ n ∧ n < es.length ∧ sz' = sz)
    | _, _ => none
  | .iaa len sz x i => match rd g (st.get i) with
    | some (.int _ n, q) => match lp g (st.get x) with
      | some (b, o, p) => some (.lptr b (o + n.toNat * sz), p ∧ q ∧ 0 ≤ n ∧ n < len)
      | none => match rd g (st.get x) with
        | some (.ptr r o, p) => some (.v (.ptr r (o + n.toNat * sz)), p ∧ q ∧ 0 ≤ n ∧ n < len)
        | _ => none
    | _ => none
  | .iag gl len i => match rd g (st.get i) with
    | some (.int _ n, q) => match (default : LaidBox).tab gl n.toNat with
      | some (k, z) => some (.v (.gptr k z), q ∧ 0 ≤ n ∧ n < len)
      | none => none
    | _ => none
  | .ld n agg x => match lp g (st.get x) with
    | some (i, off, p) => match st.loc[i]? with
      | some (some tvs) => match pickL agg n tvs off with
        | some y => some (y, p)
        | none => none
      | _ => none
    | none => match rd g (st.get x) with
      | some (.ptr r off, p) => match st.M (.b r) with
        | some (.cells cs) => match pickT agg n cs off with
          | some v => some (.v v, p)
          | none => none
        | _ => none
      | some (.eptr _ es i off, p) => match es[i]? with
        | some e => match pickT agg n e.cells off with
          | some v => some (.v v, p)
          | none => none
        | none => none
      | some (.gptr k z, p) => some (.v (.int k z), p ∧ n = 1 ∧ agg = false)
      | _ => none
  | .lk ok zero m k => match rd g (st.get k) with
    | some (.str s, q) => match rd g (st.get m) with
      | some (.map r, p) => match st.M (.b r) with
        | some (.map kvs) => some (.v (bif ok then .tup [(findS kvs s).getD zero, .bool (findS kvs s).isSome] else (findS kvs s).getD zero), p ∧ q)
        | _ => none
      | some (.nilmap, p) => some (.v (bif ok then .tup [zero, .bool false] else zero), p ∧ q)
      | _ => none
    | _ => none
  | .nc x => match st.get x with
    | .lptr i off => some (.lptr i off, True)
    | y => match rd g y with
      | some (.ptr r o, p) => some (.v (.ptr r o), p)
      | some (.eptr sz es i o, p) => some (.v (.eptr sz es i o), p)
      | some (.fn (.func f) a b, p) => some (.v (.fn (.func f) a b), p)
      | _ => none
  | .mi t x => match rd g (st.get x) with
    | some (v, p) => some (.v (.iface t v), p)
    | none => none
  | .mf fn first cap => match rdL g st.get first, rdL g st.get cap with
    | some (a, p), some (b, q) => some (.v (.fn fn a b), p ∧ q)
    | _, _ => none
  | .ex x i => match rd g (st.get x) with
    | some (.tup vs, p) => match vs[i]? with
      | some v => some (.v v, p)
      | none => none
    | _ => none
  | .cv k x => match rd g (st.get x) with
    | some (.int _ n, p) => some (.v (.int k n), p ∧ InR k n)
    | _ => none
  | .cvs x => match rd g (st.get x) with
    | some (.str s, p) => some (.v (.str s), p)
    | _ => none
  | .bd zero parts => match fillA zero g st.get parts with
    | some (cs, p) => some (.v (.agg cs), p)
    | none => none
  | .bs _ sz parts => match rdL g st.get parts with
    | some (vs, p) => some (.v (.sl .full sz vs), p ∧ (∀ v ∈ vs, v.cells.length = sz ∧ ∀ y ∈ v.cells, y.one = true))
    | none => none
  | .mn mx x y => match rd g (st.get x), rd g (st.get y) with
    | some (.int k a, p), some (.int k' b, q) => some (.v (.int k (if mx then max a b else min a b)), p ∧ q)
    | _, _ => none
  | .tas ok t zero x => match rd g (st.get x) with
    | some (.iface t' v, p) => if ok then some (.v (.tup [if t' = t then v else zero, .bool (decide (t' = t))]), p) else some (.v v, p ∧ t' = t)
    | some (.niliface, p) => if ok then some (.v (.tup [zero, .bool false]), p) else none
    | _ => none
  | _ => none

/-! What the machine does. -/
section runs
variable {P : Program} (w : World)
theorem run_int_cmp (op : BinOp) (h : op = .eql ∨ op = .neq ∨ op = .lss ∨ op = .leq ∨ op = .gtr ∨ op = .geq) (t : TypeId) (x y : Operand) (k : IntKind) (a b : Int) :
    (do eqGuard op t x y (.int k a) (.int k b); binOp op t (.int k a) (.int k b) : Sem Value).run P w = .ok (.bool (icmp op a b)) w := by
  rcases h with rfl | rfl | rfl | rfl | rfl | rfl <;> simp [eqGuard, binOp, Op.intCmp, icmp] <;> rfl
theorem run_int_arith (op : BinOp) (h : op = .add ∨ op = .sub ∨ op = .mul) (t : TypeId) (x y : Operand) (k : IntKind) (a b : Int) :
    (do eqGuard op t x y (.int k a) (.int k b); binOp op t (.int k a) (.int k b) : Sem Value).run P w = .ok (.int k (k.wrap (arith op a b))) w := by
  rcases h with rfl | rfl | rfl <;> simp [eqGuard, binOp, Op.intArith, arith]
theorem run_int_div (op : BinOp) (h : op = .quo ∨ op = .rem) (t : TypeId) (x y : Operand) (k : IntKind) (a b : Int) (hb : b ≠ 0) (hr : InR k (quorem op a b)) :
    (do eqGuard op t x y (.int k a) (.int k b); binOp op t (.int k a) (.int k b) : Sem Value).run P w = .ok (.int k (quorem op a b)) w := by
  rcases h with rfl | rfl
  · have := hr.wrap
    simp only [quorem] at this
    simp [eqGuard, binOp, Op.intDiv, quorem, hb, this]
  · simp [eqGuard, binOp, Op.intDiv, quorem, hb]
theorem bytes_eq (a b : ByteArray) : (a.toList == b.toList) = decide (a.data.toList = b.data.toList) := by
  rw [ByteArray.toList_eq, ByteArray.toList_eq]
  rw [Bool.eq_iff_iff, beq_iff_eq, decide_eq_true_iff]
theorem run_str_cmp (op : BinOp) (h : op = .eql ∨ op = .neq) (t : TypeId) (x y : Operand) (a b : ByteArray) :
    (do eqGuard op t x y (.string a) (.string b); binOp op t (.string a) (.string b) : Sem Value).run P w = .ok (.bool (scmp op a.data.toList b.data.toList)) w := by
  rcases h with rfl | rfl
  · simp only [eqGuard, binOp, Op.stringOp, scmp, bytes_eq]
    rfl
  · simp only [eqGuard, binOp, Op.stringOp, scmp, bytes_eq]
    rfl
end runs


/-! The resolved form of an operation. -/
def cXL (T : TT) : List TypeId → List Operand → Option (List Opd)
  | _, [] => some []
  | [], y :: ys => match cX T 0 y, cXL T [] ys with
    | some x, some xs => some (x :: xs)
    | _, _ => none
  | t :: ts, y :: ys => match cX T t y, cXL T ts ys with
    | some x, some xs => some (x :: xs)
    | _, _ => none
theorem cXL_is {T : TT} : ∀ {ts : List TypeId} {ys : List Operand} {xs : List Opd}, cXL T ts ys = some xs → xs.length = ys.length ∧ ∀ (i : Nat) (x : Opd), xs[i]? = some x → ∃ y, ys[i]? = some y ∧ IsOpd x y
  | ts, [], xs, h => by
    unfold cXL at h
    cases h
    exact ⟨rfl, fun i x hx => by simp at hx⟩
  | [], y :: ys, xs, h => by
    unfold cXL at h
    split at h
    · rename_i x0 xs0 h1 h2
      cases h
      obtain ⟨k1, k2⟩ := cXL_is h2
      refine ⟨by simp [k1], fun i x hx => ?_⟩
      cases i with
      | zero => simp at hx; subst hx; exact ⟨y, rfl, cX_is h1⟩
      | succ i => simpa using k2 i x (by simpa using hx)
    · cases h
  | t :: ts, y :: ys, xs, h => by
    unfold cXL at h
    split at h
    · rename_i x0 xs0 h1 h2
      cases h
      obtain ⟨k1, k2⟩ := cXL_is h2
      refine ⟨by simp [k1], fun i x hx => ?_⟩
      cases i with
      | zero => simp at hx; subst hx; exact ⟨y, rfl, cX_is h1⟩
      | succ i => simpa using k2 i x (by simpa using hx)
    · cases h

def isNilC : NK → Operand → Bool
  | .ptr, .const (.pointer none) | .slice, .const (.slice none 0 0) | .map, .const (.map none) | .fn, .const .nilFunc | .iface, .const .nilIface => true
  | _, _ => false

def isEqOp : BinOp → Bool
  | .eql | .neq => true
  | _ => false

def descOf (T : TT) (t : TypeId) : TypeDesc := ((T t).map (·.desc)).getD .invalid
def sizeT (T : TT) (t : TypeId) : Option Nat := (T t).map (·.size)
def oX (T : TT) (ty : TypeId) : Option Operand → Option (Option Opd)
  | none => some none
  | some y => (cX T ty y).map some

def place (T : TT) (fs : Array Field) (i : Nat) : Option (Nat × Nat × TypeId) := match fs[i]? with
  | some f => (sizeT T f.type).map fun n => (f.offset, n, f.type)
  | none => none

def bdParts (T : TT) (fs : Array Field) (size : Nat) : List (Nat × Operand) → Option (List (Nat × Nat × Opd))
  | [] => some []
  | (i, y) :: rest => match place T fs i, bdParts T fs size rest with
    | some (off, n, ty), some l => if off + n ≤ size then (cX T ty y).map fun x => (off, n, x) :: l else none
    | _, _ => none

/-- The parts of an array. -/
def abParts (T : TT) (e : TypeId) (esz size : Nat) : List (Nat × Operand) → Option (List (Nat × Nat × Opd))
  | [] => some []
  | (i, y) :: rest => match abParts T e esz size rest with
    | some l => if i * esz + esz ≤ size then (cX T e y).map fun x => (i * esz, esz, x) :: l else none
    | none => none

/-- The parts of a slice, each in its place. -/
def bsParts (T : TT) (e : TypeId) : Nat → List (Nat × Operand) → Option (List Opd)
  | _, [] => some []
  | k, (i, y) :: rest => if i = k then match cX T e y, bsParts T e (k + 1) rest with
      | some x, some l => some (x :: l)
      | _, _ => none
    else none

/-- The address of an element. -/
def iaK (T : TT) (t : TypeId) (x i : Operand) : Option CK :=
  match x with
  | .global gl => match descOf T t, cX T 0 i with
    | .array len e, some i => match sizeT T e with
      | some 1 => some (.iag gl len i)
      | _ => none
    | _, _ => none
  | x => match descOf T t, cX T t x, cX T 0 i with
    | .slice e, some x, some i => (sizeT T e).map fun n => .ia n x i
    | .array len e, some x, some i => (sizeT T e).map fun n => .iaa len n x i
    | _, _, _ => none
def CK.isIa : CK → Bool
  | .ia _ _ _ | .iaa _ _ _ _ | .iag _ _ _ => true
  | _ => false
theorem iaK_isIa {T : TT} {t : TypeId} {x i : Operand} {k : CK} (h : iaK T t x i = some k) : k.isIa = true := by
  unfold iaK at h
  split at h
  · split at h
    · split at h
      · cases h; rfl
      · cases h
    · cases h
  · split at h
    · simp only [Option.map_eq_some_iff] at h
      obtain ⟨n, _, rfl⟩ := h; rfl
    · simp only [Option.map_eq_some_iff] at h
      obtain ⟨n, _, rfl⟩ := h; rfl
    · cases h

def compK (T : TT) (esc : List Nat) (o : Oper) : Option CK :=
  match o.op with
  | .move x | .assign x => (cX T o.type x).map .mv
  | .pick c a b => match cX T 0 c, cX T 0 a, cX T 0 b with
    | some c, some a, some b => some (.pick c a b)
    | _, _, _ => none
  | .binOp op t x y _ =>
    match descOf T t with
    | .int _ => match cX T t x, cX T t y with
      | some x, some y => match op with
        | .add | .sub | .mul => some (.ar op x y)
        | .quo | .rem => some (.qr op x y)
        | .eql | .neq | .lss | .leq | .gtr | .geq => some (.ic op x y)
        | _ => none
      | _, _ => none
    | .string => match cX T t x, cX T t y with
      | some x, some y => match op with
        | .add => some (.cat x y)
        | .eql | .neq => some (.sc op x y)
        | _ => none
      | _, _ => none
    | .bool => match cX T t x, cX T t y with
      | some x, some y => match op with
        | .eql | .neq => some (.bc op x y)
        | _ => none
      | _, _ => none
    | .pointer _ => if isNilC .ptr y && isEqOp op then (cX T t x).map (.nl op .ptr) else none
    | .func _ _ _ => if isNilC .fn y && isEqOp op then (cX T t x).map (.nl op .fn) else none
    | .interface _ => if isNilC .iface y && isEqOp op then (cX T t x).map (.nl op .iface) else none
    | .map _ _ => if isNilC .map y && isEqOp op then (cX T t x).map (.nl op .map) else none
    | .slice _ => if isNilC .slice y && isEqOp op then (cX T t x).map (.nl op .slice) else none
    | _ => none
  | .unOp .not _ x => (cX T 0 x).map .no
  | .unOp .neg _ x => (cX T 0 x).map .ng
  | .index t x i => match descOf T t, cX T t x, cX T 0 i with
    | .string, some x, some i => some (.si x i)
    | .array len e, some x, some i => match T e with
      | some j => some (.ai len j.size (isAggD j.desc) x i)
      | none => none
    | _, _, _ => none
  | .slice t x lo hi none => match cX T t x, oX T 0 lo, oX T 0 hi with
    | some x, some lo, some hi => match descOf T t with
      | .string => some (.ss x lo hi)
      | .slice e => (sizeT T e).map fun n => .sls n x lo hi
      | _ => none
    | _, _, _ => none
  | .field t x f => match descOf T t, cX T t x with
    | .struct fs, some x => match fs[f]? with
      | some fd => match T fd.type with
        | some j => some (.fl fd.offset j.size (isAggD j.desc) x)
        | none => none
      | none => none
    | _, _ => none
  | .fieldAddr t x f => match descOf T t, cX T t x with
    | .struct fs, some x => match fs[f]? with
      | some fd => match T fd.type with
        | some j => if j.size = 0 then none else some (.fa fd.offset x)
        | none => none
      | none => none
    | _, _ => none
  | .indexAddr t x i => iaK T t x i
  | .load t x => match T t, cX T 0 x with
    | some j, some x => some (.ld j.size (isAggD j.desc) x)
    | _, _ => none
  | .store t p x => match T t, cX T 0 p, cX T t x with
    | some j, some p, some x => some (.sto j.size p x)
    | _, _, _ => none
  | .nilCheck x => (cX T 0 x).map .nc
  | .makeInterface t x => match descOf T t with
    | .interface _ | .invalid => none
    | _ => (cX T t x).map (.mi t)
  | .makeFunc fn first cap => match cXL T [] first.toList, cXL T [] cap.toList with
    | some a, some b => some (.mf fn a b)
    | _, _ => none
  | .extract x i => (cX T 0 x).map fun x => .ex x i
  | .convert s d x => match descOf T s, descOf T d with
    | .int _, .int k => (cX T s x).map (.cv k)
    | .string, .string => (cX T s x).map .cvs
    | _, _ => none
  | .build t parts => match T t with
    | some j => match j.desc with
      | .struct fs => if fs.toList.all (fun f => (T f.type).isSome) then (bdParts T fs j.size parts.toList).map (.bd j.zero.cells) else none
      | .array _ e => match T e with
        | some je => (abParts T e je.size j.size parts.toList).map (.bd j.zero.cells)
        | none => none
      | _ => none
    | none => none
  | .buildSlice t len parts => match descOf T t with
    | .slice e => match T e with
      | some j => if parts.size = len ∧ len * j.size ≤ 16777216 ∧ 0 < j.size then (bsParts T e 0 parts.toList).map (.bs e j.size) else none
      | none => none
    | _ => none
  | .alloc t => match T t with
    | some j => match o.dst with
      | some d => some (if esc.contains d then .alS t j.zero.cells else .al t j.zero.cells)
      | none => none
    | none => none
  | .box t x => match o.dst with
    | some d => (cX T t x).map fun x => if esc.contains d then .bxS t x else .bx t x
    | none => none
  | .makeMap t none => match descOf T t with
    | .map _ _ => some .mm
    | _ => none
  | .lookup t m k ok => match descOf T t, cX T t m, cX T 0 k with
    | .map kt et, some m, some k => match descOf T kt, T et with
      | .string, some j => some (.lk ok j.zero m k)
      | _, _ => none
    | _, _, _ => none
  | .mapUpdate t m k x | .insert t m k x => match descOf T t with
    | .map kt et => match descOf T kt, cX T t m, cX T 0 k, cX T et x with
      | .string, some m, some k, some x => some (.mu m k x)
      | _, _, _, _ => none
    | _ => none
  | .typeAssert x _ t ok => match T t, cX T 0 x with
    | some j, some x => match j.desc with
      | .interface _ => none
      | _ => some (.tas ok t j.zero x)
    | _, _ => none
  | .makeSlice t l c => match descOf T t with
    | .slice e => match T e, cX T 0 l, cX T 0 c with
      | some j, some l, some c => some (.mks e j.size j.bytes j.zero l c)
      | _, _, _ => none
    | _ => none
  | .panic x => (cX T 0 x).map .pan
  | .defer c => match c.callee with
    | .value f => match cX T 0 f, cXL T c.argTypes.toList c.args.toList with
      | some f, some xs => some (.dfr f xs)
      | _, _ => none
    | _ => none
  | .call c => match c.callee with
    | .value (.func f) => (cXL T c.argTypes.toList c.args.toList).map (.call f)
    | .value f => match cX T 0 f, cXL T c.argTypes.toList c.args.toList with
      | some f, some xs => some (.callv f xs)
      | _, _ => none
    | .builtin .len => match c.args.toList, c.argTypes.toList with
      | [x], [t] => match descOf T t with
        | .string => (cX T t x).map (.ln true)
        | .slice _ => (cX T t x).map (.ln false)
        | _ => none
      | _, _ => none
    | .builtin .append => match c.args.toList, c.argTypes.toList with
      | [s, x], [t, t'] => match descOf T t, descOf T t' with
        | .slice e, .slice _ => match T e, cX T t s, cX T t x with
          | some j, some s, some x => some (.app e j.size j.bytes s x)
          | _, _, _ => none
        | _, _ => none
      | _, _ => none
    | .builtin .min => match c.args.toList with
      | [x, y] => match cX T 0 x, cX T 0 y with
        | some x, some y => some (.mn false x y)
        | _, _ => none
      | _ => none
    | .builtin .max => match c.args.toList with
      | [x, y] => match cX T 0 x, cX T 0 y with
        | some x, some y => some (.mn true x y)
        | _, _ => none
      | _ => none
    | .builtin .recover => some .recov
    | _ => none
  | _ => none

def compG (ops : Array Oper) (o : Oper) : Option (Option (Nat × Bool)) :=
  match o.guard with
  | none => some none
  | some (j, want) => match (ops[j]?).bind (·.dst) with
    | some d => some (some (d, want))
    | none => none

def compOp (T : TT) (esc : List Nat) (ops : Array Oper) (o : Oper) : COp :=
  match compG ops o with
  | some g => { dst := o.dst, grd := g, k := (compK T esc o).getD (.other o) }
  | none => { dst := o.dst, grd := none, k := .other o }

end Go.Am
/- That the evaluation of operations is what the machine does. -/
set_option linter.unusedSectionVars false
set_option linter.unusedVariables false
set_option linter.unusedSimpArgs false
namespace Go.Am
open Go.RowKit
variable [Inhabited LaidBox] {ro : Option Nat}

section inv
variable {E : Env}
theorem Rep.bool_inv {b : Bool} {c : Value} (h : Rep E (.bool b) c) : c = .bool b := by cases h; rfl
theorem Rep.int_inv {k : IntKind} {n : Int} {c : Value} (h : Rep E (.int k n) c) : c = .int k n := by cases h; rfl
theorem Rep.str_inv {s : List UInt8} {c : Value} (h : Rep E (.str s) c) : ∃ b : ByteArray, c = .string b ∧ b.data.toList = s := by cases h with | str b => exact ⟨b, rfl, rfl⟩
theorem Rep.nilp_inv {c : Value} (h : Rep E .nilp c) : c = .pointer none := by cases h; rfl
theorem Rep.ptr_inv {r off : Nat} {c : Value} (h : Rep E (.ptr r off) c) : c = .pointer (some ⟨r, off, none⟩) := by cases h; rfl
theorem Rep.eptr_inv {sz : Nat} {es : List AV} {i off : Nat} {c : Value} (h : Rep E (.eptr sz es i off) c) : ∃ b o, c = .pointer (some ⟨b, o + i * sz + off, none⟩) ∧ RepEs E sz es b o ∧ i < es.length := by
  cases h with | eptr _ _ _ _ b o h hi => exact ⟨b, o, rfl, h, hi⟩
theorem Rep.gptr_inv {k : IntKind} {z : Int} {c : Value} (h : Rep E (.gptr k z) c) : ∃ g i, c = .pointer (some ⟨g, i, none⟩) ∧ E.base.cell? ⟨g, i, none⟩ = some (.int k z) := by
  cases h with | gptr _ _ g i h => exact ⟨g, i, rfl, h⟩
theorem Rep.sl_inv3 {own : Own} {sz : Nat} {es : List AV} {c : Value} (h : Rep E (.sl own sz es) c) : (c = .slice none 0 0 ∧ es = [] ∧ ∀ t, own = .srow t → E.rowAt t 0 = some (0, 0)) ∨ (∃ a, c = .slice (some a) 0 0 ∧ es = [] ∧ own = .no) ∨ ∃ b o cap, c = .slice (some ⟨b, o, none⟩) es.length cap ∧ RepEs E sz es b o ∧ es.length ≤ cap ∧ OwnOk E own es.length b o cap := by
  cases h with
  | slnil _ _ h => exact .inl ⟨rfl, rfl, h⟩
  | slz _ a => exact .inr (.inl ⟨a, rfl, rfl, rfl⟩)
  | sl _ _ _ b o cap n hn h hcap hown => subst hn; exact .inr (.inr ⟨b, o, cap, rfl, h, hcap, hown⟩)
theorem Rep.sl_inv {own : Own} {sz : Nat} {es : List AV} {c : Value} (h : Rep E (.sl own sz es) c) (hown : own ≠ .no) : (c = .slice none 0 0 ∧ es = [] ∧ ∀ t, own = .srow t → E.rowAt t 0 = some (0, 0)) ∨ ∃ b o cap, c = .slice (some ⟨b, o, none⟩) es.length cap ∧ RepEs E sz es b o ∧ es.length ≤ cap ∧ OwnOk E own es.length b o cap := by
  cases h with
  | slnil _ _ h => exact .inl ⟨rfl, rfl, h⟩
  | slz _ a => exact absurd rfl hown
  | sl _ _ _ b o cap n hn h hcap hown => subst hn; exact .inr ⟨b, o, cap, rfl, h, hcap, hown⟩
theorem Rep.agg_inv {cs : List AV} {c : Value} (h : Rep E (.agg cs) c) : ∃ l : List Value, c = .agg l.toArray ∧ RepL E cs l := by cases h with | agg _ l h => exact ⟨l, rfl, h⟩
theorem Rep.tup_inv {cs : List AV} {c : Value} (h : Rep E (.tup cs) c) : ∃ l : List Value, c = .tuple l.toArray ∧ RepL E cs l := by cases h with | tup _ l h => exact ⟨l, rfl, h⟩
theorem Rep.iface_inv {t : TypeId} {v : AV} {c : Value} (h : Rep E (.iface t v) c) : ∃ c', c = .iface t c' ∧ Rep E v c' := by cases h with | iface _ _ c' h => exact ⟨c', rfl, h⟩
theorem Rep.niliface_inv {c : Value} (h : Rep E .niliface c) : c = .nilIface := by cases h; rfl
theorem Rep.map_inv {r : Nat} {c : Value} (h : Rep E (.map r) c) : c = .map (some r) := by cases h; rfl
theorem Rep.nilmap_inv {c : Value} (h : Rep E .nilmap c) : c = .map none := by cases h; rfl
theorem Rep.nilfn_inv {c : Value} (h : Rep E .nilfn c) : c = .nilFunc := by cases h; rfl
theorem Rep.fn_inv {f : Fn} {a b : List AV} {c : Value} (h : Rep E (.fn f a b) c) : ∃ a' b' : List Value, c = .func f a'.toArray b'.toArray ∧ RepL E a a' ∧ RepL E b b' := by cases h with | fn _ _ _ a' b' h1 h2 => exact ⟨a', b', rfl, h1, h2⟩
end inv

section
variable {P : Program} {o : Oper} {st : St}
theorem OpVal.pure {x : TV} (h : ∀ B E F blk rw a w, Rel B E F blk rw st a w → ∃ c, (execOp a.eval o).run P w = .ok (.value c) w ∧ RelV E blk rw x c) : OpVal P o st st x := by
  intro B E F blk rw a w hr
  obtain ⟨c, h1, h2⟩ := h B E F blk rw a w hr
  exact ⟨c, w, E, blk, rw, .inl h1, Env.le.refl E, Below.refl B w, hr, h2⟩

theorem Rel.rd {B : Nat} {E : Env} {F : Mem} {blk rw : List Nat} {a : Act} {w : World} (hr : Rel B E F blk rw st a w) {x : Opd} {y : Operand} (hx : IsOpd x y) {v : AV} {p : Prop} (h : Am.rd true (st.get x) = some (v, p)) (hp : p) : Rep E v (a.eval y) :=
  rd_rep (hr.opd hx) h hp

theorem run_v {w w' : World} {s : Sem Value} {c : Value} (h : s.run P w = .ok c w') : ((do pure (.value (← s)) : Sem Next)).run P w = .ok (.value c) w' := by
  simp [h]

theorem sound_mv {x : Opd} {y : Operand} (ho : o.op = .move y ∨ o.op = .assign y) (hx : IsOpd x y) {tv : TV} {p : Prop} (h : pev (.mv x) true st = some (tv, p)) (hp : p) : OpVal P o st st tv := by
  refine .pure fun B E F blk rw a w hr => ⟨a.eval y, ?_, ?_⟩
  · rcases ho with ho | ho <;> simp [execOp, ho]
  · have hv := hr.opd hx
    simp only [pev] at h
    split at h
    · rename_i g z he
      cases h
      rw [he] at hv
      exact hv.1 (by simpa using hp)
    · cases h
    · cases h
      exact hv

theorem sound_pick {c a b : Opd} {c' a' b' : Operand} (ho : o.op = .pick c' a' b') (hc : IsOpd c c') (ha : IsOpd a a') (hb : IsOpd b b') {tv : TV} {p : Prop} (h : pev (.pick c a b) true st = some (tv, p)) (hp : p) : OpVal P o st st tv := by
  simp only [pev] at h
  split at h
  · rename_i cb q1 ab q2 bb q3 h1 h2 h3
    cases h
    obtain ⟨p1, p2, p3⟩ := hp
    refine .pure fun B E F blk rw ac w hr => ?_
    have hcv := (hr.rd hc h1 p1).bool_inv
    refine ⟨if cb then ac.eval a' else ac.eval b', by simp [execOp, ho, hcv, asBool], ?_⟩
    cases cb with
    | true => have := (hr.rd ha h2 (p2 rfl)); show Rep E _ _; simpa using this
    | false => have := (hr.rd hb h3 (p3 rfl)); show Rep E _ _; simpa using this
  · cases h

theorem sound_ar {op : BinOp} {x y : Opd} {x' y' : Operand} {t t' : TypeId} (ho : o.op = .binOp op t x' y' t') (hop : op = .add ∨ op = .sub ∨ op = .mul) (hx : IsOpd x x') (hy : IsOpd y y') {tv : TV} {p : Prop} (h : pev (.ar op x y) true st = some (tv, p)) (hp : p) : OpVal P o st st tv := by
  simp only [pev] at h
  split at h
  · rename_i k a q1 k' b q2 h1 h2
    cases h
    obtain ⟨p1, p2, rfl, p3⟩ := hp
    refine .pure fun B E F blk rw ac w hr => ?_
    have e1 := (hr.rd hx h1 p1).int_inv
    have e2 := (hr.rd hy h2 p2).int_inv
    refine ⟨_, ?_, Rep.int k _⟩
    rw [← p3.wrap]
    simp only [execOp, ho, e1, e2]
    exact run_v (run_int_arith w op hop t x' y' k a b)
  · cases h

theorem sound_qr {op : BinOp} {x y : Opd} {x' y' : Operand} {t t' : TypeId} (ho : o.op = .binOp op t x' y' t') (hop : op = .quo ∨ op = .rem) (hx : IsOpd x x') (hy : IsOpd y y') {tv : TV} {p : Prop} (h : pev (.qr op x y) true st = some (tv, p)) (hp : p) : OpVal P o st st tv := by
  simp only [pev] at h
  split at h
  · rename_i k a q1 k' b q2 h1 h2
    cases h
    obtain ⟨p1, p2, rfl, p3, p4⟩ := hp
    refine .pure fun B E F blk rw ac w hr => ?_
    have e1 := (hr.rd hx h1 p1).int_inv
    have e2 := (hr.rd hy h2 p2).int_inv
    refine ⟨_, ?_, Rep.int k _⟩
    simp only [execOp, ho, e1, e2]
    exact run_v (run_int_div w op hop t x' y' k a b p3 p4)
  · cases h

theorem sound_ic {op : BinOp} {x y : Opd} {x' y' : Operand} {t t' : TypeId} (ho : o.op = .binOp op t x' y' t') (hop : op = .eql ∨ op = .neq ∨ op = .lss ∨ op = .leq ∨ op = .gtr ∨ op = .geq) (hx : IsOpd x x') (hy : IsOpd y y') {tv : TV} {p : Prop} (h : pev (.ic op x y) true st = some (tv, p)) (hp : p) : OpVal P o st st tv := by
  simp only [pev] at h
  split at h
  · rename_i k a q1 k' b q2 h1 h2
    cases h
    obtain ⟨p1, p2, rfl⟩ := hp
    refine .pure fun B E F blk rw ac w hr => ?_
    have e1 := (hr.rd hx h1 p1).int_inv
    have e2 := (hr.rd hy h2 p2).int_inv
    refine ⟨_, ?_, Rep.bool _⟩
    simp only [execOp, ho, e1, e2]
    exact run_v (run_int_cmp w op hop t x' y' k a b)
  · cases h

theorem sound_sc {op : BinOp} {x y : Opd} {x' y' : Operand} {t t' : TypeId} (ho : o.op = .binOp op t x' y' t') (hop : op = .eql ∨ op = .neq) (hx : IsOpd x x') (hy : IsOpd y y') {tv : TV} {p : Prop} (h : pev (.sc op x y) true st = some (tv, p)) (hp : p) : OpVal P o st st tv := by
  simp only [pev] at h
  split at h
  · rename_i a q1 b q2 h1 h2
    cases h
    obtain ⟨p1, p2⟩ := hp
    refine .pure fun B E F blk rw ac w hr => ?_
    obtain ⟨s1, e1, rfl⟩ := (hr.rd hx h1 p1).str_inv
    obtain ⟨s2, e2, rfl⟩ := (hr.rd hy h2 p2).str_inv
    refine ⟨_, ?_, Rep.bool _⟩
    simp only [execOp, ho, e1, e2]
    exact run_v (run_str_cmp w op hop t x' y' s1 s2)
  · cases h

theorem sound_cat {x y : Opd} {x' y' : Operand} {t t' : TypeId} (ho : o.op = .binOp .add t x' y' t') (hx : IsOpd x x') (hy : IsOpd y y') {tv : TV} {p : Prop} (h : pev (.cat x y) true st = some (tv, p)) (hp : p) : OpVal P o st st tv := by
  simp only [pev] at h
  split at h
  · rename_i a q1 b q2 h1 h2
    cases h
    obtain ⟨p1, p2, p3⟩ := hp
    refine .pure fun B E F blk rw ac w hr => ?_
    obtain ⟨s1, e1, rfl⟩ := (hr.rd hx h1 p1).str_inv
    obtain ⟨s2, e2, rfl⟩ := (hr.rd hy h2 p2).str_inv
    have hsz : ¬ (((s1.size + s2.size : Nat) : Int) > IntKind.i64.max) := by
      have h1 : s1.size = s1.data.toList.length := by simp
      have h2 : s2.size = s2.data.toList.length := by simp
      have h3 : IntKind.i64.max = 9223372036854775807 := by decide
      rw [h1, h2, h3]; omega
    refine ⟨.string (s1 ++ s2), ?_, ?_⟩
    · simp only [execOp, ho, e1, e2]
      refine run_v ?_
      simp only [eqGuard, binOp, Op.stringOp, if_neg hsz]
      rfl
    · have := Rep.str (E := E) (s1 ++ s2)
      show Rep E _ _
      simpa using this
  · cases h

theorem equalIn_bool {t : TypeId} (ht : P.underlying t = some .bool) (d : Nat) (a b : Bool) (w : World) : (Op.equalIn (d + 1) t (.bool a) (.bool b)).run P w = .ok (a == b) w := by
  simp only [Op.equalIn, Sem.run_bind, run_underlying ht, Result.andThen_ok]
  rfl

theorem sound_bc {op : BinOp} {x y : Opd} {x' y' : Operand} {t t' : TypeId} (ho : o.op = .binOp op t x' y' t') (hop : op = .eql ∨ op = .neq) (ht : P.underlying t = some .bool) (hx : IsOpd x x') (hy : IsOpd y y') {tv : TV} {p : Prop} (h : pev (.bc op x y) true st = some (tv, p)) (hp : p) : OpVal P o st st tv := by
  simp only [pev] at h
  split at h
  · rename_i a q1 b q2 h1 h2
    cases h
    obtain ⟨p1, p2⟩ := hp
    refine .pure fun B E F blk rw ac w hr => ?_
    have e1 := (hr.rd hx h1 p1).bool_inv
    have e2 := (hr.rd hy h2 p2).bool_inv
    refine ⟨_, ?_, Rep.bool _⟩
    simp only [execOp, ho, e1, e2]
    refine run_v ?_
    have heq : (Op.equal t (.bool a) (.bool b)).run P w = .ok (a == b) w := equalIn_bool ht 9999 a b w
    rcases hop with rfl | rfl
    · simp only [eqGuard, binOp, Sem.run_bind, bcmp, heq, Sem.run_ite, Sem.run_pure, Result.andThen_ok, ite_self]
    · simp only [eqGuard, binOp, Sem.run_bind, bcmp, heq, Sem.run_ite, Sem.run_pure, Result.andThen_ok, ite_self]
      rfl
  · cases h

theorem sound_no {x : Opd} {x' : Operand} {t : TypeId} (ho : o.op = .unOp .not t x') (hx : IsOpd x x') {tv : TV} {p : Prop} (h : pev (.no x) true st = some (tv, p)) (hp : p) : OpVal P o st st tv := by
  simp only [pev] at h
  split at h
  · rename_i a q1 h1
    cases h
    refine .pure fun B E F blk rw ac w hr => ?_
    have e1 := (hr.rd hx h1 hp).bool_inv
    exact ⟨_, by simp [execOp, ho, e1, Op.unary], Rep.bool _⟩
  · cases h

theorem sound_ng {x : Opd} {x' : Operand} {t : TypeId} (ho : o.op = .unOp .neg t x') (hx : IsOpd x x') {tv : TV} {p : Prop} (h : pev (.ng x) true st = some (tv, p)) (hp : p) : OpVal P o st st tv := by
  simp only [pev] at h
  split at h
  · rename_i k a q1 h1
    cases h
    obtain ⟨p1, p2⟩ := hp
    refine .pure fun B E F blk rw ac w hr => ?_
    have e1 := (hr.rd hx h1 p1).int_inv
    have := p2.wrap
    exact ⟨.int k (0 - a), by simp only [execOp, ho, e1, Op.unary, Op.intArith, this]; rfl, Rep.int k _⟩
  · cases h

theorem sound_si {x i : Opd} {x' i' : Operand} {t : TypeId} (ho : o.op = .index t x' i') (ht : P.underlying t = some .string) (hx : IsOpd x x') (hi : IsOpd i i') {tv : TV} {p : Prop} (h : pev (.si x i) true st = some (tv, p)) (hp : p) : OpVal P o st st tv := by
  simp only [pev] at h
  split at h
  · rename_i s q1 k n q2 h1 h2
    cases h
    obtain ⟨p1, p2, p3, p4⟩ := hp
    refine .pure fun B E F blk rw ac w hr => ?_
    obtain ⟨s1, e1, rfl⟩ := (hr.rd hx h1 p1).str_inv
    have e2 := (hr.rd hi h2 p2).int_inv
    have hlt : n.toNat < s1.size := by
      have : s1.size = s1.data.toList.length := by simp
      omega
    refine ⟨_, ?_, Rep.int _ _⟩
    simp only [execOp, ho, e1, e2]
    refine run_v ?_
    have hget : (s1.data.toList.getD n.toNat 0).toNat = (s1[n.toNat]'hlt).toNat := by
      have : s1.data.toList[n.toNat]? = some (s1[n.toNat]'hlt) := by
        simp [ByteArray.getElem_eq_getElem_data, hlt]
      simp [List.getD, this]
    rw [hget]
    simp [Instr.index, asIntOf, run_underlying ht, p3, ByteArray.getElem?_lt' s1 n.toNat hlt]
  · cases h

theorem size_toList (s : ByteArray) : s.size = s.data.toList.length := by simp

theorem sound_bound {B : Nat} {E : Env} {F : Mem} {blk rw : List Nat} {a : Act} {w : World} (hr : Rel B E F blk rw st a w) {d : Int} {x : Option Opd} {y : Option Operand} (hxy : (x = none ∧ y = none) ∨ ∃ x0 y0, x = some x0 ∧ y = some y0 ∧ IsOpd x0 y0) {n : Int} {p : Prop} (h : bound true d st.get x = some (n, p)) (hp : p) :
    (y = none ∧ n = d) ∨ ∃ y0 k, y = some y0 ∧ a.eval y0 = .int k n := by
  rcases hxy with ⟨rfl, rfl⟩ | ⟨x0, y0, rfl, rfl, hx⟩
  · cases h; exact .inl ⟨rfl, rfl⟩
  · simp only [bound] at h
    split at h
    · rename_i k m q h1
      cases h
      exact .inr ⟨y0, k, rfl, (hr.rd hx h1 hp).int_inv⟩
    · cases h

theorem run_bounds {w : World} (isSlice : Bool) (len cap : Nat) (hlc : len ≤ cap) (lo hi : Option Value) (l h : Int)
    (hlo : (lo = none ∧ l = 0) ∨ ∃ k, lo = some (.int k l)) (hhi : (hi = none ∧ h = len) ∨ ∃ k, hi = some (.int k h)) (h0 : 0 ≤ l) (h1 : l ≤ h) (h2 : h ≤ len) :
    (Instr.sliceBounds isSlice len cap lo hi none).run P w = .ok (l.toNat, h.toNat, cap) w := by
  have hh : 0 ≤ h ∧ h ≤ (cap : Int) := by omega
  have hl : 0 ≤ l ∧ l ≤ ((h.toNat : Nat) : Int) := by omega
  rcases hlo with ⟨rfl, rfl⟩ | ⟨k, rfl⟩ <;> rcases hhi with ⟨rfl, rfl⟩ | ⟨k', rfl⟩
  · simp [Instr.sliceBounds]
  · simp [Instr.sliceBounds, Instr.sliceBound, asIntOf, hh]
  · have hl' : 0 ≤ l ∧ l ≤ (len : Int) := by omega
    simp [Instr.sliceBounds, Instr.sliceBound, asIntOf, hl']
  · simp only [Instr.sliceBounds, Instr.sliceBound, asIntOf, Sem.run_bind, Sem.run_pure, Result.andThen_ok, Sem.run_ite, if_pos hh, if_pos hl, Option.isSome_none]

theorem extract_data' (s : ByteArray) (l h : Nat) : (s.extract l h).data.toList = (s.data.toList.take h).drop l := by
  simp [ByteArray.data_extract, List.extract_eq_take_drop, List.drop_take]

theorem sound_ss {x : Opd} {lo hi : Option Opd} {x' : Operand} {lo' hi' : Option Operand} {t : TypeId} (ho : o.op = .slice t x' lo' hi' none) (ht : P.underlying t = some .string) (hx : IsOpd x x')
    (hlo : (lo = none ∧ lo' = none) ∨ ∃ x0 y0, lo = some x0 ∧ lo' = some y0 ∧ IsOpd x0 y0) (hhi : (hi = none ∧ hi' = none) ∨ ∃ x0 y0, hi = some x0 ∧ hi' = some y0 ∧ IsOpd x0 y0)
    {tv : TV} {p : Prop} (h : pev (.ss x lo hi) true st = some (tv, p)) (hp : p) : OpVal P o st st tv := by
  simp only [pev] at h
  split at h
  · rename_i s q1 h1
    split at h
    · rename_i l q2 hn q3 h2 h3
      cases h
      obtain ⟨p1, p2, p3, p4, p5, p6⟩ := hp
      refine .pure fun B E F blk rw ac w hr => ?_
      obtain ⟨s1, e1, rfl⟩ := (hr.rd hx h1 p1).str_inv
      have b1 := sound_bound hr hlo h2 p2
      have b2 := sound_bound hr hhi h3 p3
      have hb := run_bounds (P := P) (w := w) false s1.size s1.size (Nat.le_refl _) (lo'.map ac.eval) (hi'.map ac.eval) l hn
        (by rcases b1 with ⟨rfl, rfl⟩ | ⟨y0, k, rfl, e⟩
            · exact .inl ⟨rfl, rfl⟩
            · exact .inr ⟨k, by simp [e]⟩)
        (by rcases b2 with ⟨rfl, rfl⟩ | ⟨y0, k, rfl, e⟩
            · exact .inl ⟨rfl, by simp⟩
            · exact .inr ⟨k, by simp [e]⟩) p4 p5 (by rw [size_toList]; exact p6)
      refine ⟨.string (s1.extract l.toNat hn.toNat), ?_, ?_⟩
      · simp only [execOp, ho, e1]
        refine run_v ?_
        simp [Instr.sliceAt, run_underlying ht, Instr.slice, hb]
      · have := Rep.str (E := E) (s1.extract l.toNat hn.toNat)
        rwa [extract_data'] at this
    · cases h
  · cases h

theorem sound_sls {x : Opd} {lo hi : Option Opd} {x' : Operand} {lo' hi' : Option Operand} {t e : TypeId} {ie : TI} (ho : o.op = .slice t x' lo' hi' none) (ht : P.underlying t = some (.slice e)) (he : TIOk P e ie) (hx : IsOpd x x')
    (hlo : (lo = none ∧ lo' = none) ∨ ∃ x0 y0, lo = some x0 ∧ lo' = some y0 ∧ IsOpd x0 y0) (hhi : (hi = none ∧ hi' = none) ∨ ∃ x0 y0, hi = some x0 ∧ hi' = some y0 ∧ IsOpd x0 y0)
    {tv : TV} {p : Prop} (h : pev (.sls ie.size x lo hi) true st = some (tv, p)) (hp : p) : OpVal P o st st tv := by
  simp only [pev] at h
  split at h
  · rename_i own sz' es q1 h1
    split at h
    · rename_i l q2 hn q3 h2 h3
      cases h
      obtain ⟨p1, p2, p3, p4, p5, p6, p7⟩ := hp
      refine .pure fun B E F blk rw ac w hr => ?_
      have b1 := sound_bound hr hlo h2 p2
      have b2 := sound_bound hr hhi h3 p3
      rcases (hr.rd hx h1 p1).sl_inv3 with ⟨e1, rfl, _⟩ | ⟨a0, e1, rfl, _⟩ | ⟨b, of, cap, e1, hes, hcap, _⟩
      · have hb := run_bounds (P := P) (w := w) true 0 0 (Nat.le_refl _) (lo'.map ac.eval) (hi'.map ac.eval) l hn
          (by rcases b1 with ⟨rfl, rfl⟩ | ⟨y0, k, rfl, e⟩
              · exact .inl ⟨rfl, rfl⟩
              · exact .inr ⟨k, by simp [e]⟩)
          (by rcases b2 with ⟨rfl, rfl⟩ | ⟨y0, k, rfl, e⟩
              · exact .inl ⟨rfl, by simp⟩
              · exact .inr ⟨k, by simp [e]⟩) p4 p5 (by simpa using p6)
        have hl0 : l = 0 := by simp at p6; omega
        have hn0 : hn = 0 := by simp at p6; omega
        subst hl0; subst hn0
        refine ⟨.slice none 0 0, ?_, ?_⟩
        · simp only [execOp, ho, e1]
          refine run_v ?_
          simp [Instr.sliceAt, run_underlying ht, Instr.slice, hb, he.run_size]
        · have := Rep.slnil (E := E) .no ie.size (fun t => by simp)
          simpa [RelV] using this
      · have hb := run_bounds (P := P) (w := w) true 0 0 (Nat.le_refl _) (lo'.map ac.eval) (hi'.map ac.eval) l hn
          (by rcases b1 with ⟨rfl, rfl⟩ | ⟨y0, k, rfl, e⟩
              · exact .inl ⟨rfl, rfl⟩
              · exact .inr ⟨k, by simp [e]⟩)
          (by rcases b2 with ⟨rfl, rfl⟩ | ⟨y0, k, rfl, e⟩
              · exact .inl ⟨rfl, by simp⟩
              · exact .inr ⟨k, by simp [e]⟩) p4 p5 (by simpa using p6)
        have hl0 : l = 0 := by simp at p6; omega
        have hn0 : hn = 0 := by simp at p6; omega
        subst hl0; subst hn0
        refine ⟨.slice (some a0) 0 0, ?_, ?_⟩
        · simp only [execOp, ho, e1]
          refine run_v ?_
          simp [Instr.sliceAt, run_underlying ht, Instr.slice, hb, he.run_size]
        · have := Rep.slz (E := E) ie.size a0
          simpa [RelV] using this
      · have hb := run_bounds (P := P) (w := w) true es.length cap hcap (lo'.map ac.eval) (hi'.map ac.eval) l hn
          (by rcases b1 with ⟨rfl, rfl⟩ | ⟨y0, k, rfl, e⟩
              · exact .inl ⟨rfl, rfl⟩
              · exact .inr ⟨k, by simp [e]⟩)
          (by rcases b2 with ⟨rfl, rfl⟩ | ⟨y0, k, rfl, e⟩
              · exact .inl ⟨rfl, by simp⟩
              · exact .inr ⟨k, by simp [e]⟩) p4 p5 p6
        have hlen : ((es.take hn.toNat).drop l.toNat).length = hn.toNat - l.toNat := by simp; omega
        have hsz : RepEs E ie.size es b of := by
          rcases p7 with rfl | rfl
          · exact hes
          · exact .nil _ _ _
        have hcells : RepEs E ie.size ((es.take hn.toNat).drop l.toNat) b (of + l.toNat * ie.size) := (hsz.take hn.toNat).drop l.toNat (by simp; omega)
        have hrun : ((do pure (.value (← Instr.sliceAt t (ac.eval x') (lo'.map ac.eval) (hi'.map ac.eval) none)) : Sem Next)).run P w = .ok (.value (.slice (if cap = l.toNat then some ⟨b, of, none⟩ else some ⟨b, of + l.toNat * ie.size, none⟩) (hn.toNat - l.toNat) (cap - l.toNat))) w := by
          refine run_v ?_
          simp only [e1, Instr.sliceAt, Sem.run_bind, run_underlying ht, Result.andThen_ok, Instr.slice, hb, he.run_size, Sem.run_pure]
          by_cases hc : cap = l.toNat
          · simp [hc]
          · simp [hc, Addr.add_lit]
        refine ⟨_, by simpa only [execOp, ho, Option.map_none] using hrun, ?_⟩
        by_cases hc : cap = l.toNat
        · rw [if_pos hc]
          have h0 : hn.toNat - l.toNat = 0 := by omega
          have hnil : (es.take hn.toNat).drop l.toNat = [] := List.eq_nil_of_length_eq_zero (by omega)
          rw [hnil, h0]
          exact Rep.sl .no ie.size [] b of (cap - l.toNat) 0 rfl (.nil _ _ _) (by omega) trivial
        · rw [if_neg hc]
          exact Rep.sl .no ie.size _ b _ (cap - l.toNat) _ hlen.symm hcells (by omega) trivial
    · cases h
  · cases h
end
end Go.Am
