/- An abstract machine over the kit's weakest preconditions: abstract values, their relation to memory, the abstract memory. -/
import Derived.WalkKit
import Derived.Below
import Derived.Defers
import Derived.Recover
import Derived.Laws.Cells
import Derived.Laws.CopyRow
import Derived.Laws.AppendOwn
import Derived.Laws.Rows
set_option linter.unusedSectionVars false
set_option linter.unusedVariables false
set_option linter.unusedSimpArgs false
namespace Go.Am
open Go.RowKit

/-- Who may append to a slice: nobody knows, whoever (its capacity is its length), the row t alone. -/
inductive Own where
  | no
  | full
  | srow (t : Nat)

inductive AV where
  | junk
  | bool (b : Bool)
  | int (k : IntKind) (n : Int)
  | str (s : List UInt8)
  | nilp
  | ptr (r off : Nat)
  | eptr (sz : Nat) (es : List AV) (i off : Nat)
  | sl (own : Own) (sz : Nat) (es : List AV)
  | map (r : Nat)
  | nilmap
  | fn (f : Fn) (first captured : List AV)
  | nilfn
  | iface (t : TypeId) (v : AV)
  | niliface
  | agg (cs : List AV)
  | tup (vs : List AV)
  | raw (c : Value)

def AV.cells : AV → List AV
  | .agg cs => cs
  | v => [v]

/-- The value of one cell. -/
def AV.one : AV → Bool
  | .agg _ | .tup _ | .junk => false
  | _ => true

structure Env where
  cell : Nat → Nat → Option Value
  rowAt : Nat → Nat → Option (Nat × Nat)
  base : World

/-- What is known of the world in which the outermost call began: a seat's own choice. -/
structure LaidBox where
  ok : World → Prop

structure Env.le (E E' : Env) : Prop where
  cell : ∀ b o v, E.cell b o = some v → E'.cell b o = some v
  row : ∀ t n x, E.rowAt t n = some x → E'.rowAt t n = some x
  base : E'.base = E.base

theorem Env.le.refl (E : Env) : E.le E := ⟨fun _ _ _ h => h, fun _ _ _ h => h, rfl⟩
theorem Env.le.trans {E E' E'' : Env} (h : E.le E') (k : E'.le E'') : E.le E'' :=
  ⟨fun b o v e => k.cell b o v (h.cell b o v e), fun t n x e => k.row t n x (h.row t n x e), k.base.trans h.base⟩

def OwnOk (E : Env) : Own → Nat → Nat → Nat → Nat → Prop
  | .no, _, _, _, _ => True
  | .full, n, _, o, cap => cap = n ∧ o = 0
  | .srow t, n, b, o, cap => E.rowAt t n = some (b, cap) ∧ o = 0

mutual
inductive Rep (E : Env) : AV → Value → Prop where
  | junk (c : Value) : Rep E .junk c
  | bool (b : Bool) : Rep E (.bool b) (.bool b)
  | int (k : IntKind) (n : Int) : Rep E (.int k n) (.int k n)
  | str (b : ByteArray) : Rep E (.str b.data.toList) (.string b)
  | nilp : Rep E .nilp (.pointer none)
  | ptr (r off : Nat) : Rep E (.ptr r off) (.pointer (some ⟨r, off, none⟩))
  | eptr (sz : Nat) (es : List AV) (i off b o : Nat) (h : RepEs E sz es b o) (hi : i < es.length) : Rep E (.eptr sz es i off) (.pointer (some ⟨b, o + i * sz + off, none⟩))
  | slnil (own : Own) (sz : Nat) (h : ∀ t, own = .srow t → E.rowAt t 0 = some (0, 0)) : Rep E (.sl own sz []) (.slice none 0 0)
  | sl (own : Own) (sz : Nat) (es : List AV) (b o cap n : Nat) (hn : n = es.length) (h : RepEs E sz es b o) (hcap : n ≤ cap) (hown : OwnOk E own n b o cap) : Rep E (.sl own sz es) (.slice (some ⟨b, o, none⟩) n cap)
  | slz (sz : Nat) (a : Addr) : Rep E (.sl .no sz []) (.slice (some a) 0 0)
  | raw (c : Value) (h : c.oneCell' = true) : Rep E (.raw c) c
  | map (r : Nat) : Rep E (.map r) (.map (some r))
  | nilmap : Rep E .nilmap (.map none)
  | fn (f : Fn) (first captured : List AV) (first' captured' : List Value) (h1 : RepL E first first') (h2 : RepL E captured captured') : Rep E (.fn f first captured) (.func f first'.toArray captured'.toArray)
  | nilfn : Rep E .nilfn .nilFunc
  | iface (t : TypeId) (v : AV) (c : Value) (h : Rep E v c) : Rep E (.iface t v) (.iface t c)
  | niliface : Rep E .niliface .nilIface
  | agg (cs : List AV) (cs' : List Value) (h : RepL E cs cs') : Rep E (.agg cs) (.agg cs'.toArray)
  | tup (cs : List AV) (cs' : List Value) (h : RepL E cs cs') : Rep E (.tup cs) (.tuple cs'.toArray)
inductive RepL (E : Env) : List AV → List Value → Prop where
  | nil : RepL E [] []
  | cons (v : AV) (c : Value) (vs : List AV) (cs : List Value) (h : Rep E v c) (ht : RepL E vs cs) : RepL E (v :: vs) (c :: cs)
/-- Cells of values, one behind the other from an offset on. -/
inductive RepCs (E : Env) : List AV → Nat → Nat → Prop where
  | nil (b o : Nat) : RepCs E [] b o
  | cons (v : AV) (c : Value) (vs : List AV) (b o : Nat) (hc : E.cell b o = some c) (h1 : v.one = true) (h : Rep E v c) (ht : RepCs E vs b (o + 1)) : RepCs E (v :: vs) b o
inductive RepEs (E : Env) : Nat → List AV → Nat → Nat → Prop where
  | nil (sz b o : Nat) : RepEs E sz [] b o
  | cons (sz : Nat) (e : AV) (es : List AV) (b o : Nat) (hs : e.cells.length = sz) (h : RepCs E e.cells b o) (ht : RepEs E sz es b (o + sz)) : RepEs E sz (e :: es) b o
end

section mono
variable {E E' : Env} (hE : E.le E')
theorem OwnOk.mono {own : Own} {n b o cap : Nat} (h : OwnOk E own n b o cap) (hE : E.le E') : OwnOk E' own n b o cap := by
  cases own with
  | no => trivial
  | full => exact h
  | srow t => exact ⟨hE.row _ _ _ h.1, h.2⟩
mutual
theorem Rep.mono : ∀ {v : AV} {c : Value}, Rep E v c → E.le E' → Rep E' v c
  | _, _, .junk c, _ => .junk c
  | _, _, .bool b, _ => .bool b
  | _, _, .int k n, _ => .int k n
  | _, _, .str b, _ => .str b
  | _, _, .nilp, _ => .nilp
  | _, _, .ptr r off, _ => .ptr r off
  | _, _, .eptr sz es i off b o h hi, hE => .eptr sz es i off b o (RepEs.mono h hE) hi
  | _, _, .slnil own sz h, hE => .slnil own sz fun t e => hE.row _ _ _ (h t e)
  | _, _, .sl own sz es b o cap n hn h hcap hown, hE => .sl own sz es b o cap n hn (RepEs.mono h hE) hcap (hown.mono hE)
  | _, _, .slz sz a, _ => .slz sz a
  | _, _, .raw c h, _ => .raw c h
  | _, _, .map r, _ => .map r
  | _, _, .nilmap, _ => .nilmap
  | _, _, .fn f a b a' b' h1 h2, hE => .fn f a b a' b' (RepL.mono h1 hE) (RepL.mono h2 hE)
  | _, _, .nilfn, _ => .nilfn
  | _, _, .iface t v c h, hE => .iface t v c (Rep.mono h hE)
  | _, _, .niliface, _ => .niliface
  | _, _, .agg cs cs' h, hE => .agg cs cs' (RepL.mono h hE)
  | _, _, .tup cs cs' h, hE => .tup cs cs' (RepL.mono h hE)
theorem RepL.mono : ∀ {vs : List AV} {cs : List Value}, RepL E vs cs → E.le E' → RepL E' vs cs
  | _, _, .nil, _ => .nil
  | _, _, .cons v c vs cs h ht, hE => .cons v c vs cs (Rep.mono h hE) (RepL.mono ht hE)
theorem RepCs.mono : ∀ {vs : List AV} {b o : Nat}, RepCs E vs b o → E.le E' → RepCs E' vs b o
  | _, _, _, .nil b o, _ => .nil b o
  | _, _, _, .cons v c vs b o hc h1 h ht, hE => .cons v c vs b o (hE.cell _ _ _ hc) h1 (Rep.mono h hE) (RepCs.mono ht hE)
theorem RepEs.mono : ∀ {sz : Nat} {es : List AV} {b o : Nat}, RepEs E sz es b o → E.le E' → RepEs E' sz es b o
  | _, _, _, _, .nil sz b o, _ => .nil sz b o
  | _, _, _, _, .cons sz e es b o hs h ht, hE => .cons sz e es b o hs (RepCs.mono h hE) (RepEs.mono ht hE)
end
end mono

/-! Lists -/
theorem RepL.length {E : Env} : ∀ {vs : List AV} {cs : List Value}, RepL E vs cs → cs.length = vs.length
  | _, _, .nil => rfl
  | _, _, .cons _ _ _ _ _ ht => by simp [RepL.length ht]

theorem RepL.at {E : Env} : ∀ {vs : List AV} {cs : List Value} (h : RepL E vs cs) (i : Nat) (v : AV), vs[i]? = some v → ∃ c, cs[i]? = some c ∧ Rep E v c
  | _, _, .nil, i, v, h => by simp at h
  | _, _, .cons v0 c0 vs cs h0 ht, 0, v, h => by simp at h; subst h; exact ⟨c0, by simp, h0⟩
  | _, _, .cons v0 c0 vs cs h0 ht, i + 1, v, h => by
    simp only [List.getElem?_cons_succ] at h ⊢
    exact RepL.at ht i v h

theorem RepL.set {E : Env} : ∀ {vs : List AV} {cs : List Value} (h : RepL E vs cs) (i : Nat) (v : AV) (c : Value) (hv : Rep E v c), RepL E (vs.set i v) (cs.set i c)
  | _, _, .nil, i, v, c, hv => by simpa using RepL.nil
  | _, _, .cons v0 c0 vs cs h0 ht, 0, v, c, hv => .cons v c vs cs hv ht
  | _, _, .cons v0 c0 vs cs h0 ht, i + 1, v, c, hv => .cons v0 c0 _ _ h0 (RepL.set ht i v c hv)

theorem RepL.append {E : Env} : ∀ {vs : List AV} {cs : List Value} {vs' : List AV} {cs' : List Value}, RepL E vs cs → RepL E vs' cs' → RepL E (vs ++ vs') (cs ++ cs')
  | _, _, _, _, .nil, h' => h'
  | _, _, _, _, .cons v c vs cs h ht, h' => .cons v c _ _ h (RepL.append ht h')

theorem RepL.take {E : Env} : ∀ {vs : List AV} {cs : List Value} (n : Nat), RepL E vs cs → RepL E (vs.take n) (cs.take n)
  | _, _, 0, _ => by simpa using RepL.nil
  | _, _, n + 1, .nil => by simpa using RepL.nil
  | _, _, n + 1, .cons v c vs cs h ht => .cons v c _ _ h (RepL.take n ht)

theorem RepL.drop {E : Env} : ∀ {vs : List AV} {cs : List Value} (n : Nat), RepL E vs cs → RepL E (vs.drop n) (cs.drop n)
  | _, _, 0, h => by simpa using h
  | _, _, n + 1, .nil => by simpa using RepL.nil
  | _, _, n + 1, .cons v c vs cs h ht => by simpa using RepL.drop n ht

theorem RepL.replicate {E : Env} (n : Nat) (v : AV) (c : Value) (h : Rep E v c) : RepL E (List.replicate n v) (List.replicate n c) := by
  induction n with
  | zero => exact .nil
  | succ n ih => exact .cons v c _ _ h ih

theorem RepL.map_of {E : Env} {α : Type} (f : α → AV) (g : α → Value) (l : List α) (h : ∀ x ∈ l, Rep E (f x) (g x)) : RepL E (l.map f) (l.map g) := by
  induction l with
  | nil => exact .nil
  | cons x l ih => exact .cons _ _ _ _ (h x (by simp)) (ih fun y hy => h y (by simp [hy]))

theorem RepL.nil_inv {E : Env} {cs : List Value} (h : RepL E [] cs) : cs = [] := by cases h; rfl
theorem RepL.cons_inv {E : Env} {v : AV} {vs : List AV} {cs : List Value} (h : RepL E (v :: vs) cs) : ∃ c cs', cs = c :: cs' ∧ Rep E v c ∧ RepL E vs cs' := by
  cases h with
  | cons _ c _ cs' h ht => exact ⟨c, cs', rfl, h, ht⟩
theorem RepL.one_inv {E : Env} {v : AV} {cs : List Value} (h : RepL E [v] cs) : ∃ c, cs = [c] ∧ Rep E v c := by
  obtain ⟨c, cs', rfl, h0, ht⟩ := h.cons_inv
  exact ⟨c, by rw [ht.nil_inv], h0⟩
theorem RepL.two_inv {E : Env} {v v' : AV} {cs : List Value} (h : RepL E [v, v'] cs) : ∃ c c', cs = [c, c'] ∧ Rep E v c ∧ Rep E v' c' := by
  obtain ⟨c, cs', rfl, h0, ht⟩ := h.cons_inv
  obtain ⟨c', rfl, h'⟩ := ht.one_inv
  exact ⟨c, c', rfl, h0, h'⟩

theorem Rep.one {E : Env} {v : AV} {c : Value} (h : Rep E v c) (h1 : v.one = true) : c.oneCell' = true := by
  cases h <;> first | rfl | assumption | simp [AV.one] at h1

theorem Rep.cellsL {E : Env} {v : AV} {c : Value} (h : Rep E v c) (hv : v ≠ .junk) : RepL E v.cells c.cells.toList := by
  cases h <;> first
    | exact absurd rfl hv
    | (rename_i h1
       have : c.cells = #[c] := by cases c <;> first | rfl | cases h1
       rw [this]
       exact .cons _ _ _ _ (.raw c h1) .nil)
    | (simp only [AV.cells, Value.cells]; first | assumption | exact .cons _ _ _ _ (by constructor <;> assumption) .nil)

/-- The cells of a struct, each with its value. -/
def Lays (E : Env) (cs : List Value) (b o : Nat) : Prop := ∀ j c, cs[j]? = some c → E.cell b (o + j) = some c

theorem Lays.nil (E : Env) (b o : Nat) : Lays E [] b o := fun j c h => by simp at h
theorem Lays.tail {E : Env} {c : Value} {cs : List Value} {b o : Nat} (h : Lays E (c :: cs) b o) : Lays E cs b (o + 1) := fun j c' hj => by
  have := h (j + 1) c' (by simpa using hj)
  rwa [show o + 1 + j = o + (j + 1) by omega]
theorem Lays.head {E : Env} {c : Value} {cs : List Value} {b o : Nat} (h : Lays E (c :: cs) b o) : E.cell b o = some c := by
  have := h 0 c (by simp)
  simpa using this
theorem Lays.drop {E : Env} {cs : List Value} {b o : Nat} (h : Lays E cs b o) (n : Nat) : Lays E (cs.drop n) b (o + n) := fun j c hj => by
  have := h (n + j) c (by simpa [List.getElem?_drop] using hj)
  rwa [show o + n + j = o + (n + j) by omega]
theorem Lays.take {E : Env} {cs : List Value} {b o : Nat} (h : Lays E cs b o) (n : Nat) : Lays E (cs.take n) b o := fun j c hj => by
  refine h j c ?_
  rw [List.getElem?_take] at hj
  split at hj
  · exact hj
  · simp at hj

theorem RepCs.lays {E : Env} : ∀ {vs : List AV} {b o : Nat}, RepCs E vs b o → ∃ cs, RepL E vs cs ∧ Lays E cs b o ∧ (∀ c ∈ cs, c.oneCell' = true)
  | _, _, _, .nil b o => ⟨[], .nil, Lays.nil E b o, by simp⟩
  | _, _, _, .cons v c vs b o hc h1 h ht => by
    obtain ⟨cs, hr, hl, h1'⟩ := RepCs.lays ht
    refine ⟨c :: cs, .cons v c vs cs h hr, ?_, ?_⟩
    · intro j c' hj
      cases j with
      | zero => simp at hj; subst hj; simpa using hc
      | succ j =>
        have := hl j c' (by simpa using hj)
        rwa [show o + (j + 1) = o + 1 + j by omega]
    · intro c' hc'
      rcases List.mem_cons.1 hc' with rfl | hm
      · exact h.one h1
      · exact h1' c' hm

theorem RepCs.of {E : Env} : ∀ {vs : List AV} {cs : List Value} {b o : Nat}, RepL E vs cs → (∀ v ∈ vs, v.one = true) → Lays E cs b o → RepCs E vs b o
  | _, _, _, _, .nil, _, _ => .nil _ _
  | _, _, _, _, .cons v c vs cs h ht, h1, hl => .cons v c vs _ _ hl.head (h1 v (by simp)) h (RepCs.of ht (fun x hx => h1 x (by simp [hx])) hl.tail)

theorem RepCs.ones {E : Env} : ∀ {vs : List AV} {b o : Nat}, RepCs E vs b o → ∀ v ∈ vs, v.one = true
  | _, _, _, .nil _ _, v, hv => by simp at hv
  | _, _, _, .cons v0 c vs b o hc h1 h ht, v, hv => by
    rcases List.mem_cons.1 hv with rfl | hm
    · exact h1
    · exact RepCs.ones ht v hm

theorem RepCs.drop {E : Env} : ∀ {vs : List AV} {b o : Nat} (n : Nat), RepCs E vs b o → RepCs E (vs.drop n) b (o + n)
  | _, _, _, 0, h => by simpa using h
  | _, b, o, n + 1, .nil _ _ => by simpa using RepCs.nil b (o + (n + 1))
  | _, b, o, n + 1, .cons v c vs _ _ hc h1 h ht => by
    have := RepCs.drop n ht
    simpa [show o + 1 + n = o + (n + 1) by omega] using this
theorem RepCs.take {E : Env} : ∀ {vs : List AV} {b o : Nat} (n : Nat), RepCs E vs b o → RepCs E (vs.take n) b o
  | _, b, o, 0, h => by simpa using RepCs.nil b o
  | _, b, o, n + 1, .nil _ _ => by simpa using RepCs.nil b o
  | _, b, o, n + 1, .cons v c vs _ _ hc h1 h ht => by simpa using RepCs.cons v c _ b o hc h1 h (RepCs.take n ht)

theorem RepEs.at {E : Env} : ∀ {sz : Nat} {es : List AV} {b o : Nat} (h : RepEs E sz es b o) (i : Nat) (e : AV), es[i]? = some e → RepCs E e.cells b (o + i * sz) ∧ e.cells.length = sz
  | _, _, _, _, .nil _ _ _, i, e, h => by simp at h
  | _, _, _, _, .cons sz e0 es b o hs h ht, 0, e, he => by simp at he; subst he; simpa using ⟨h, hs⟩
  | _, _, _, _, .cons sz e0 es b o hs h ht, i + 1, e, he => by
    have := RepEs.at ht i e (by simpa using he)
    rwa [show o + sz + i * sz = o + (i + 1) * sz by rw [Nat.add_mul]; omega] at this

theorem RepEs.drop {E : Env} : ∀ {sz : Nat} {es : List AV} {b o : Nat} (n : Nat), RepEs E sz es b o → n ≤ es.length → RepEs E sz (es.drop n) b (o + n * sz)
  | _, _, _, _, 0, h, _ => by simpa using h
  | _, _, b, o, n + 1, .nil sz _ _, hn => by simp at hn
  | _, _, b, o, n + 1, .cons sz e es _ _ hs h ht, hn => by
    have := RepEs.drop n ht (by simpa using hn)
    simpa [show o + sz + n * sz = o + (n + 1) * sz by rw [Nat.add_mul]; omega] using this

theorem RepEs.take {E : Env} : ∀ {sz : Nat} {es : List AV} {b o : Nat} (n : Nat), RepEs E sz es b o → RepEs E sz (es.take n) b o
  | sz, _, b, o, 0, h => by simpa using RepEs.nil sz b o
  | _, _, b, o, n + 1, .nil sz _ _ => by simpa using RepEs.nil sz b o
  | _, _, b, o, n + 1, .cons sz e es _ _ hs h ht => by simpa using RepEs.cons sz e _ b o hs h (RepEs.take n ht)

theorem RepEs.append {E : Env} : ∀ {sz : Nat} {es es' : List AV} {b o : Nat}, RepEs E sz es b o → RepEs E sz es' b (o + es.length * sz) → RepEs E sz (es ++ es') b o
  | _, _, _, _, _, .nil sz b o, h' => by simpa using h'
  | _, _, es', _, _, .cons sz e es b o hs h ht, h' => by
    refine .cons sz e _ b o hs h (RepEs.append ht ?_)
    simpa [show o + sz + es.length * sz = o + (es.length + 1) * sz by rw [Nat.add_mul]; omega] using h'

/-- All cells of a row of elements. -/
def flat (es : List AV) : List AV := es.flatMap AV.cells
theorem flat_nil : flat [] = [] := rfl
theorem flat_cons (e : AV) (es : List AV) : flat (e :: es) = e.cells ++ flat es := by simp [flat]
theorem flat_append (a b : List AV) : flat (a ++ b) = flat a ++ flat b := by simp [flat]

theorem Lays.append {E : Env} {cs cs' : List Value} {b o : Nat} (h : Lays E cs b o) (h' : Lays E cs' b (o + cs.length)) : Lays E (cs ++ cs') b o := by
  intro j c hj
  rw [List.getElem?_append] at hj
  split at hj
  · exact h j c hj
  · rename_i hlt
    have := h' (j - cs.length) c hj
    rwa [show o + cs.length + (j - cs.length) = o + j by omega] at this

theorem RepEs.lays {E : Env} : ∀ {sz : Nat} {es : List AV} {b o : Nat}, RepEs E sz es b o → ∃ cs, RepL E (flat es) cs ∧ cs.length = es.length * sz ∧ Lays E cs b o ∧ (∀ c ∈ cs, c.oneCell' = true)
  | _, _, _, _, .nil sz b o => ⟨[], .nil, by simp, Lays.nil E b o, by simp⟩
  | _, _, _, _, .cons sz e es b o hs h ht => by
    obtain ⟨cs, hr, hl, h1⟩ := h.lays
    obtain ⟨ds, hr', hlen, hl', h1'⟩ := RepEs.lays ht
    have hc : cs.length = sz := by rw [hr.length, hs]
    refine ⟨cs ++ ds, ?_, ?_, ?_, ?_⟩
    · rw [flat_cons]; exact hr.append hr'
    · simp [hc, hlen, Nat.add_mul]; omega
    · exact hl.append (by rw [hc]; exact hl')
    · intro c hm
      rcases List.mem_append.1 hm with hm | hm
      · exact h1 c hm
      · exact h1' c hm

theorem RepEs.of {E : Env} {sz : Nat} : ∀ {es : List AV} {cs : List Value} {b o : Nat}, (∀ e ∈ es, e.cells.length = sz) → (∀ v ∈ flat es, v.one = true) → RepL E (flat es) cs → Lays E cs b o → RepEs E sz es b o
  | [], cs, b, o, _, _, _, _ => .nil sz b o
  | e :: es, cs, b, o, hs, h1, hr, hl => by
    rw [flat_cons] at hr h1
    have hlen : e.cells.length = sz := hs e (by simp)
    have ht := hr.take e.cells.length
    have hd := hr.drop e.cells.length
    rw [List.take_left] at ht
    rw [List.drop_left] at hd
    refine .cons sz e es b o hlen (RepCs.of ht (fun v hv => h1 v (by simp [hv])) (hl.take _)) ?_
    have hl' := hl.drop e.cells.length
    rw [hlen] at hl' hd
    exact RepEs.of (fun x hx => hs x (by simp [hx])) (fun v hv => h1 v (by simp [hv])) hd hl'

theorem RepEs.sizes {E : Env} : ∀ {sz : Nat} {es : List AV} {b o : Nat}, RepEs E sz es b o → ∀ e ∈ es, e.cells.length = sz
  | _, _, _, _, .nil _ _ _, e, he => by simp at he
  | _, _, _, _, .cons sz e0 es b o hs h ht, e, he => by
    rcases List.mem_cons.1 he with rfl | hm
    · exact hs
    · exact RepEs.sizes ht e hm
theorem RepEs.ones {E : Env} : ∀ {sz : Nat} {es : List AV} {b o : Nat}, RepEs E sz es b o → ∀ v ∈ flat es, v.one = true
  | _, _, _, _, .nil _ _ _, v, hv => by simp [flat] at hv
  | _, _, _, _, .cons sz e0 es b o hs h ht, v, hv => by
    rw [flat_cons] at hv
    rcases List.mem_append.1 hv with hm | hm
    · exact h.ones v hm
    · exact RepEs.ones ht v hm

end Go.Am
