/- The abstract memory: what it says of a world, and what loads, stores, new blocks and appends do to both. -/
import Derived.Test.YtpephlhhdefdgaaDoorAmA
import Derived.Deep.AppendSrc
set_option linter.unusedSectionVars false
set_option linter.unusedVariables false
set_option linter.unusedSimpArgs false
namespace Go.Am
open Go.RowKit

variable [Inhabited LaidBox]

/-- The outermost call's world, as far as it is known. -/
def Okk (B : Nat) (E : Env) : Prop := (default : LaidBox).ok E.base ∧ E.base.heap.size = B

/-- The record of a loop over a function. -/
structure LoopRec where
  state : LoopState
  pend : Option Code
  fn : FuncId
  vs : List AV
  ps : Array Tmp
  assign : Code
  body : Code
  d : Nat

/-- `defb`: the block for the deferred calls of a loop's rounds, of which there are none; `dead`: such a block or a record that nobody asks for any more. -/
inductive AObj where
  | cells (cs : List AV)
  | map (kvs : List (List UInt8 × AV))
  | row (e : TypeId) (sz n : Nat)
  | loop (L : LoopRec)
  | defb
  | dead

/-- Blocks that hold no cells. -/
def AObj.oth : AObj → Bool
  | .map _ | .loop _ | .defb | .dead => true
  | _ => false

/-- What memory is asked for: a block, or a row by its name. -/
inductive Key where
  | b (r : Nat)
  | w (t : Nat)
  deriving DecidableEq

abbrev Mem := Key → Option AObj
def Mem.set (M : Mem) (r : Key) (o : AObj) : Mem := fun x => if x = r then some o else M x
theorem Mem.set_same (M : Mem) (r : Key) (o : AObj) : (M.set r o) r = some o := by simp [Mem.set]
theorem Mem.set_other (M : Mem) (r x : Key) (o : AObj) (h : x ≠ r) : (M.set r o) x = M x := by simp [Mem.set, h]
theorem Mem.set_set (M : Mem) (r : Key) (o o' : AObj) : (M.set r o).set r o' = M.set r o' := by
  funext x; simp only [Mem.set]; split <;> rfl
theorem Mem.set_comm (M : Mem) (r s : Key) (o o' : AObj) (h : r ≠ s) : (M.set r o).set s o' = (M.set s o').set r o := by
  funext x; simp only [Mem.set]; split <;> split <;> simp_all
theorem Mem.set_self (M : Mem) (r : Key) (o : AObj) (h : M r = some o) : M.set r o = M := by
  funext x; simp only [Mem.set]; split <;> simp_all

/-- The entries of a map. -/
inductive RepM (E : Env) : List (List UInt8 × AV) → List MapEntry → Prop where
  | nil : RepM E [] []
  | cons (k : List UInt8) (v : AV) (e : MapEntry) (kvs : List (List UInt8 × AV)) (es : List MapEntry) (hk : Rep E (.str k) e.key) (hv : Rep E v e.val) (ht : RepM E kvs es) : RepM E ((k, v) :: kvs) (e :: es)
theorem RepM.mono {E E' : Env} (hE : E.le E') : ∀ {kvs : List (List UInt8 × AV)} {es : List MapEntry}, RepM E kvs es → RepM E' kvs es
  | _, _, .nil => .nil
  | _, _, .cons k v e kvs es hk hv ht => .cons k v e kvs es (hk.mono hE) (hv.mono hE) (RepM.mono hE ht)

def RepO (E : Env) : AObj → Obj → Prop
  | .map kvs, .map es _ => RepM E kvs es.toList
  | .loop L, .loop r => r.state = L.state ∧ r.pending = L.pend ∧ r.fn = L.fn ∧ RepL E L.vs r.tmps.toList ∧ r.params = L.ps ∧ r.assign = L.assign ∧ r.body = L.body ∧ r.defers = L.d
  | .defb, .deferred ds => ds = some []
  | .dead, .deferred _ => True
  | .dead, .loop _ => True
  | _, _ => False
theorem RepO.mono {E E' : Env} (hE : E.le E') {o : AObj} {c : Obj} (h : RepO E o c) : RepO E' o c := by
  cases o <;> cases c <;> first | exact h.elim | exact trivial | exact RepM.mono hE h | exact h | exact ⟨h.1, h.2.1, h.2.2.1, h.2.2.2.1.mono hE, h.2.2.2.2⟩
theorem RepO.no_cells {E : Env} {o : AObj} {cs : Array Value} {ty : TypeId} {f : Nat × Nat} (h : RepO E o (.cells cs ty f)) : False := by cases o <;> exact h

structure Sim0 (B : Nat) (E : Env) (G : Nat → Option Nat) (nr : Nat) (M : Mem) (w : World) : Prop where
  base : B ≤ w.heap.size
  cell : ∀ b o v, E.cell b o = some v → w.cell? ⟨b, o, none⟩ = some v
  dom : ∀ r o, M (.b r) = some o → B ≤ r ∧ r < w.heap.size
  obj : ∀ r cs, M (.b r) = some (.cells cs) → G r = none ∧ (∀ o, E.cell r o = none) ∧ (∀ v ∈ cs, v.one = true) ∧ ∃ ccs ty, w.heap[r]? = some (.cells ccs ty (0, 0)) ∧ RepL E cs ccs.toList
  mp : ∀ r o, o.oth = true → M (.b r) = some o → ∃ c, w.heap[r]? = some c ∧ RepO E o c
  row : ∀ t e sz n, M (.w t) = some (.row e sz n) → (∀ m, n < m → E.rowAt t m = none) ∧ ((n = 0 ∧ ∃ b, E.rowAt t 0 = some (b, 0)) ∨ ∃ b cap cur, E.rowAt t n = some (b, cap) ∧ B ≤ b ∧ G b = some t ∧ w.heap[b]? = some (.cells cur e (0, 0)) ∧ n ≤ cap ∧ cap ≤ maxLen ∧ cur.size = cap * sz ∧ (∀ o, n * sz ≤ o → E.cell b o = none))
  rdom : ∀ t o, M (.w t) = some o → t < nr
  fresh : ∀ t m, nr ≤ t → E.rowAt t m = none
  grow : ∀ b t, G b = some t → t < nr
  ok : Okk B E
  old : ∀ k, k < B → w.heap[k]? = E.base.heap[k]?

def Sim (B : Nat) (E : Env) (M : Mem) (w : World) : Prop := ∃ G nr, Sim0 B E G nr M w

/-- A smaller memory. -/
def Mem.sub (M M' : Mem) : Prop := ∀ r o, M r = some o → M' r = some o
theorem Mem.sub.refl (M : Mem) : M.sub M := fun _ _ h => h
theorem Mem.sub.trans {M M' M'' : Mem} (h : M.sub M') (k : M'.sub M'') : M.sub M'' := fun r o e => k r o (h r o e)
theorem Mem.sub.set_new {M M' : Mem} (h : M.sub M') {r : Key} {o : AObj} (hr : M r = none) : M.sub (M'.set r o) := fun x o' e => by
  by_cases hx : x = r
  · subst hx; rw [hr] at e; cases e
  · rw [Mem.set_other _ _ _ _ hx]; exact h x o' e
theorem Mem.sub.set {M M' : Mem} (h : M.sub M') (r : Key) (o : AObj) : (M.set r o).sub (M'.set r o) := fun x o' e => by
  by_cases hx : x = r
  · subst hx; rw [Mem.set_same] at e ⊢; exact e
  · rw [Mem.set_other _ _ _ _ hx] at e ⊢; exact h x o' e

theorem Sim.weaken {B : Nat} {E : Env} {M M' : Mem} {w : World} (h : Sim B E M' w) (hs : M.sub M') : Sim B E M w := by
  obtain ⟨G, nr, h⟩ := h
  exact ⟨G, nr, h.base, h.cell, fun r o e => h.dom r o (hs _ o e), fun r cs e => h.obj r cs (hs _ _ e), fun r o ho e => h.mp r o ho (hs _ _ e), fun t e sz n he => h.row t e sz n (hs _ _ he), fun t o e => h.rdom t o (hs _ o e), h.fresh, h.grow, h.ok, h.old⟩

theorem cell_lt {w : World} {b o : Nat} {v : Value} (h : w.cell? ⟨b, o, none⟩ = some v) : b < w.heap.size := World.block_lt_of_cell? w _ h

section
variable {B : Nat} {E : Env} {G : Nat → Option Nat} {nr : Nat} {M : Mem} {w : World}
theorem Sim0.cell_none (h : Sim0 B E G nr M w) {b : Nat} (hb : w.heap.size ≤ b) (o : Nat) : E.cell b o = none := by
  cases hc : E.cell b o with
  | none => rfl
  | some v => have := cell_lt (h.cell b o v hc); omega

theorem Sim0.dom_none (h : Sim0 B E G nr M w) {r : Nat} (hr : w.heap.size ≤ r) : M (.b r) = none := by
  cases hc : M (.b r) with
  | none => rfl
  | some o => have := (h.dom r o hc).2; omega

/-- A draw. -/
theorem Sim.drewN {w' : World} (h : Sim B E M w) (hh : w'.heap = w.heap) : Sim B E M w' := by
  obtain ⟨G, nr, h⟩ := h
  have hc : ∀ a, w'.cell? a = w.cell? a := fun a => by simp [World.cell?, hh]
  exact ⟨G, nr, by rw [hh]; exact h.base, fun b o v e => by rw [hc]; exact h.cell b o v e, fun r o e => by rw [hh]; exact h.dom r o e,
    fun r cs e => by simpa [hh] using h.obj r cs e, fun r o ho e => by simpa [hh] using h.mp r o ho e, fun t e sz n he => by simpa [hh] using h.row t e sz n he, h.rdom, h.fresh, h.grow, h.ok, by rw [hh]; exact h.old⟩

/-- A new block that nobody speaks of yet. -/
theorem Sim0.alloc (h : Sim0 B E G nr M w) (o : Obj) : Sim0 B E G nr M (w.alloc o) := by
  have hh : ∀ k, k < w.heap.size → (w.alloc o).heap[k]? = w.heap[k]? := fun k hk => Below.heap_alloc w o k hk
  refine ⟨by have := h.base; simp; omega, ?_, ?_, ?_, ?_, ?_, h.rdom, h.fresh, h.grow, h.ok, fun k hk => (hh k (Nat.lt_of_lt_of_le hk h.base)).trans (h.old k hk)⟩
  · intro b of v e
    have hc := h.cell b of v e
    rw [World.cell?_alloc_lt _ _ _ (cell_lt hc)]; exact hc
  · intro r ob e
    have := h.dom r ob e
    simp; omega
  · intro r cs e
    obtain ⟨h1, h2, h3, ccs, ty, h4, h5⟩ := h.obj r cs e
    exact ⟨h1, h2, h3, ccs, ty, by rw [hh r (h.dom r _ e).2]; exact h4, h5⟩
  · intro r o ho e
    obtain ⟨c, h4, h5⟩ := h.mp r o ho e
    exact ⟨c, by rw [hh r (h.dom r _ e).2]; exact h4, h5⟩
  · intro t e sz n he
    obtain ⟨h0, h1 | ⟨b, cap, cur, h1, h2, h3, h4, h5⟩⟩ := h.row t e sz n he
    · exact ⟨h0, .inl h1⟩
    · exact ⟨h0, .inr ⟨b, cap, cur, h1, h2, h3, by rw [hh b (Array.getElem?_eq_some_iff.1 h4).1]; exact h4, h5⟩⟩
end

/-- The environment with more cells. -/
def Env.lay (E : Env) (b o : Nat) (cs : List Value) : Env :=
  { E with cell := fun b' o' => if b' = b ∧ o ≤ o' ∧ o' < o + cs.length then cs[o' - o]? else E.cell b' o' }
theorem Env.lay_le (E : Env) (b o : Nat) (cs : List Value) (h : ∀ j, j < cs.length → E.cell b (o + j) = none) : E.le (E.lay b o cs) := by
  refine ⟨fun b' o' v e => ?_, fun _ _ _ e => e, rfl⟩
  simp only [Env.lay]
  split
  · rename_i hc
    obtain ⟨rfl, h1, h2⟩ := hc
    have := h (o' - o) (by omega)
    rw [show o + (o' - o) = o' by omega] at this
    rw [this] at e; cases e
  · exact e
theorem Env.lay_lays (E : Env) (b o : Nat) (cs : List Value) : Lays (E.lay b o cs) cs b o := by
  intro j c hj
  have hlt : j < cs.length := by
    rcases Nat.lt_or_ge j cs.length with h | h
    · exact h
    · rw [List.getElem?_eq_none h] at hj; cases hj
  simp only [Env.lay]
  rw [if_pos ⟨trivial, by omega, by omega⟩, show o + j - o = j by omega]
  exact hj
theorem Env.lay_inv {E : Env} {b o : Nat} {cs : List Value} {b' o' : Nat} {v : Value} (h : (E.lay b o cs).cell b' o' = some v) : (b' = b ∧ o ≤ o' ∧ o' < o + cs.length ∧ cs[o' - o]? = some v) ∨ E.cell b' o' = some v := by
  simp only [Env.lay] at h
  split at h
  · rename_i hc; exact .inl ⟨hc.1, hc.2.1, hc.2.2, h⟩
  · exact .inr h
theorem Env.lay_other {E : Env} {b o : Nat} {cs : List Value} {b' o' : Nat} (h : b' ≠ b ∨ o' < o ∨ o + cs.length ≤ o') : (E.lay b o cs).cell b' o' = E.cell b' o' := by
  simp only [Env.lay]
  rw [if_neg (by omega)]

section
variable {B : Nat} {E : Env} {G : Nat → Option Nat} {nr : Nat} {M : Mem} {w : World}
theorem Sim0.row_block_lt (h : Sim0 B E G nr M w) {t : Nat} {e : TypeId} {sz n b cap : Nat} (hM : M (.w t) = some (.row e sz n)) (hr : E.rowAt t n = some (b, cap)) (hg : ∃ cur : Array Value, w.heap[b]? = some (.cells cur e (0, 0))) : b < w.heap.size := by
  obtain ⟨cur, hg⟩ := hg
  exact (Array.getElem?_eq_some_iff.1 hg).1

/-- A new variable. -/
theorem Sim0.new_obj (h : Sim0 B E G nr M w) (ty : TypeId) (cs : List AV) (ccs : List Value) (hr : RepL E cs ccs) (h1 : ∀ v ∈ cs, v.one = true) :
    Sim0 B E (fun x => if x = w.heap.size then none else G x) nr (M.set (.b w.heap.size) (.cells cs)) (w.alloc (.cells ccs.toArray ty)) := by
  have ha := h.alloc (.cells ccs.toArray ty)
  have hnew : (w.alloc (.cells ccs.toArray ty)).heap[w.heap.size]? = some (.cells ccs.toArray ty (0, 0)) := heap_alloc_new w _
  refine ⟨ha.base, ha.cell, ?_, ?_, ?_, ?_, ?_, ha.fresh, ?_, ha.ok, ha.old⟩
  · intro r o e
    by_cases hx : r = w.heap.size
    · subst hx; have := h.base; simp; omega
    · rw [Mem.set_other _ _ _ _ (by simpa using hx)] at e; exact ha.dom r o e
  · intro r cs' e
    by_cases hx : r = w.heap.size
    · subst hx
      rw [Mem.set_same] at e; cases e
      exact ⟨by simp, fun o => h.cell_none (Nat.le_refl _) o, h1, _, _, hnew, by simpa using hr⟩
    · rw [Mem.set_other _ _ _ _ (by simpa using hx)] at e
      obtain ⟨g1, g2⟩ := ha.obj r cs' e
      exact ⟨by simp [hx, g1], g2⟩
  · intro r o ho e
    by_cases hx : r = w.heap.size
    · subst hx; rw [Mem.set_same] at e; cases e; cases ho
    · rw [Mem.set_other _ _ _ _ (by simpa using hx)] at e; exact ha.mp r o ho e
  · intro t e sz n he
    rw [Mem.set_other _ _ _ _ (by simp)] at he
    obtain ⟨h0, g0 | ⟨b, cap, cur, g1, g2, g3, g4, g5⟩⟩ := h.row t e sz n he
    · exact ⟨h0, .inl g0⟩
    · have hb := (Array.getElem?_eq_some_iff.1 g4).1
      exact ⟨h0, .inr ⟨b, cap, cur, g1, g2, by simp [show b ≠ w.heap.size by omega, g3], by rw [Below.heap_alloc w _ b hb]; exact g4, g5⟩⟩
  · intro t o e
    rw [Mem.set_other _ _ _ _ (by simp)] at e; exact h.rdom t o e
  · intro b t e
    split at e
    · cases e
    · exact h.grow b t e

/-- A new block without cells. -/
theorem Sim0.new_oth (h : Sim0 B E G nr M w) (o : AObj) (c : Obj) (ho : o.oth = true) (hc : RepO E o c) :
    Sim0 B E G nr (M.set (.b w.heap.size) o) (w.alloc c) := by
  have ha := h.alloc c
  have hnew : (w.alloc c).heap[w.heap.size]? = some c := heap_alloc_new w _
  refine ⟨ha.base, ha.cell, ?_, ?_, ?_, ?_, ?_, ha.fresh, ha.grow, ha.ok, ha.old⟩
  · intro r o' e
    by_cases hx : r = w.heap.size
    · subst hx; have := h.base; simp; omega
    · rw [Mem.set_other _ _ _ _ (by simpa using hx)] at e; exact ha.dom r o' e
  · intro r cs' e
    by_cases hx : r = w.heap.size
    · subst hx; rw [Mem.set_same] at e; cases e; cases ho
    · rw [Mem.set_other _ _ _ _ (by simpa using hx)] at e; exact ha.obj r cs' e
  · intro r o' ho' e
    by_cases hx : r = w.heap.size
    · subst hx; rw [Mem.set_same] at e; cases e
      exact ⟨_, hnew, hc⟩
    · rw [Mem.set_other _ _ _ _ (by simpa using hx)] at e; exact ha.mp r o' ho' e
  · intro t e sz n he
    rw [Mem.set_other _ _ _ _ (by simp)] at he
    exact ha.row t e sz n he
  · intro t o e
    rw [Mem.set_other _ _ _ _ (by simp)] at e; exact h.rdom t o e
theorem Sim0.new_map (h : Sim0 B E G nr M w) :
    Sim0 B E G nr (M.set (.b w.heap.size) (.map [])) (w.alloc (.map #[] 0)) := h.new_oth _ _ rfl .nil
theorem Sim0.mpm (h : Sim0 B E G nr M w) (r : Nat) (kvs : List (List UInt8 × AV)) (hM : M (.b r) = some (.map kvs)) : ∃ es clock, w.heap[r]? = some (.map es clock) ∧ RepM E kvs es.toList := by
  obtain ⟨c, h1, h2⟩ := h.mp r _ rfl hM
  cases c <;> first | exact h2.elim | exact ⟨_, _, h1, h2⟩

/-- Cells that will never turn. -/
theorem Sim0.new_cells (h : Sim0 B E G nr M w) (ty : TypeId) (cs : List Value) (rest : List Value) :
    Sim0 B (E.lay w.heap.size 0 cs) G nr M (w.alloc (.cells (cs ++ rest).toArray ty)) ∧ E.le (E.lay w.heap.size 0 cs) := by
  have hle : E.le (E.lay w.heap.size 0 cs) := Env.lay_le _ _ _ _ fun j _ => h.cell_none (Nat.le_refl _) _
  have ha := h.alloc (.cells (cs ++ rest).toArray ty)
  refine ⟨⟨ha.base, ?_, ha.dom, ?_, ?_, ?_, ha.rdom, ha.fresh, ha.grow, ha.ok, ha.old⟩, hle⟩
  · intro b o v e
    rcases Env.lay_inv e with ⟨rfl, h1, h2, h3⟩ | e'
    · rw [World.cell?_alloc_new]
      simp only [Nat.sub_zero] at h3
      simp only [List.getElem?_toArray]
      rw [List.getElem?_append_left (by omega)]; exact h3
    · exact ha.cell b o v e'
  · intro r cs' e
    obtain ⟨g1, g2, g3, ccs, ty', g4, g5⟩ := ha.obj r cs' e
    have hne : r ≠ w.heap.size := by have := (h.dom r _ e).2; omega
    exact ⟨g1, fun o => by rw [Env.lay_other (.inl hne)]; exact g2 o, g3, ccs, ty', g4, g5.mono hle⟩
  · intro r o ho e
    obtain ⟨c, g1, g2⟩ := ha.mp r o ho e
    exact ⟨c, g1, g2.mono hle⟩
  · intro t e sz n he
    obtain ⟨h0, g0 | ⟨b, cap, cur, g1, g2, g3, g4, g5, g6, g7, g8⟩⟩ := h.row t e sz n he
    · exact ⟨h0, .inl g0⟩
    · have hb := (Array.getElem?_eq_some_iff.1 g4).1
      exact ⟨h0, .inr ⟨b, cap, cur, g1, g2, g3, by rw [Below.heap_alloc w _ b hb]; exact g4, g5, g6, g7, fun o ho => by rw [Env.lay_other (.inl (by omega))]; exact g8 o ho⟩⟩

/-- A name for a slice without capacity. -/
theorem Sim0.row_nil (h : Sim0 B E G nr M w) (e : TypeId) (sz b : Nat) :
    ∃ E', E.le E' ∧ Sim0 B E' G (nr + 1) (M.set (.w nr) (.row e sz 0)) w ∧ E'.rowAt nr 0 = some (b, 0) := by
  let E' : Env := { E with rowAt := fun t' m => if t' = nr ∧ m = 0 then some (b, 0) else E.rowAt t' m }
  have hle : E.le E' := ⟨fun _ _ _ x => x, fun t' m x hx => by
    simp only [E']
    split
    · rename_i hc; obtain ⟨rfl, rfl⟩ := hc
      rw [h.fresh t' 0 (Nat.le_refl _)] at hx; cases hx
    · exact hx, rfl⟩
  refine ⟨E', hle, ⟨h.base, h.cell, ?_, ?_, ?_, ?_, ?_, ?_, ?_, h.ok, h.old⟩, by simp [E']⟩
  · intro r o er
    rw [Mem.set_other _ _ _ _ (by simp)] at er; exact h.dom r o er
  · intro r cs er
    rw [Mem.set_other _ _ _ _ (by simp)] at er
    obtain ⟨g1, g2, g3, ccs, ty', g4, g5⟩ := h.obj r cs er
    exact ⟨g1, g2, g3, ccs, ty', g4, g5.mono hle⟩
  · intro r o ho er
    rw [Mem.set_other _ _ _ _ (by simp)] at er
    obtain ⟨c, g1, g2⟩ := h.mp r o ho er
    exact ⟨c, g1, g2.mono hle⟩
  · intro t e' sz' n' he
    by_cases hx : t = nr
    · subst hx
      rw [Mem.set_same] at he; cases he
      refine ⟨fun m hm => ?_, .inl ⟨rfl, b, by simp [E']⟩⟩
      simp only [E']; rw [if_neg (by omega)]; exact h.fresh _ _ (Nat.le_refl _)
    · rw [Mem.set_other _ _ _ _ (by simpa using hx)] at he
      have hr : ∀ m, E'.rowAt t m = E.rowAt t m := fun m => by simp only [E']; rw [if_neg (by simp [hx])]
      obtain ⟨h0, g0 | ⟨b', cap, cur, g1, g2⟩⟩ := h.row t e' sz' n' he
      · exact ⟨fun m hm => by rw [hr]; exact h0 m hm, .inl (by rw [hr]; exact g0)⟩
      · exact ⟨fun m hm => by rw [hr]; exact h0 m hm, .inr ⟨b', cap, cur, by rw [hr]; exact g1, g2⟩⟩
  · intro t o er
    by_cases hx : t = nr
    · omega
    · rw [Mem.set_other _ _ _ _ (by simpa using hx)] at er
      have := h.rdom t o er
      omega
  · intro t m ht
    have : t ≠ nr := by omega
    simp only [E']; rw [if_neg (by simp [this])]
    exact h.fresh t m (by omega)
  · intro b t hb
    have := h.grow b t hb
    omega

/-- A row moves into a new block. -/
theorem Sim0.row_new (h : Sim0 B E G nr M w) (t : Nat) (e : TypeId) (sz n n0 cap : Nat) (cs rest : List Value) (hcs : cs.length = n * sz) (hsz : cs.length + rest.length = cap * sz) (hcap : n ≤ cap) (hmax : cap ≤ maxLen)
    (hM : M (.w t) = some (.row e sz n0)) (hn0 : n0 < n) :
    ∃ E' G', E.le E' ∧ Sim0 B E' G' nr (M.set (.w t) (.row e sz n)) (w.alloc (.cells (cs ++ rest).toArray e)) ∧ E'.rowAt t n = some (w.heap.size, cap) ∧ Lays E' cs w.heap.size 0 := by
  obtain ⟨h1, hle1⟩ := h.new_cells e cs rest
  have hnone : ∀ m, n ≤ m → E.rowAt t m = none := fun m hm => (h.row t e sz n0 hM).1 m (by omega)
  let E1 := E.lay w.heap.size 0 cs
  let E' : Env := { E1 with rowAt := fun t' m => if t' = t ∧ m = n then some (w.heap.size, cap) else E1.rowAt t' m }
  have hle2 : E1.le E' := ⟨fun _ _ _ x => x, fun t' m x hx => by
    simp only [E']
    split
    · rename_i hc; obtain ⟨rfl, rfl⟩ := hc
      have : E1.rowAt t' m = none := hnone m (Nat.le_refl _)
      rw [this] at hx; cases hx
    · exact hx, rfl⟩
  refine ⟨E', fun x => if x = w.heap.size then some t else G x, hle1.trans hle2, ⟨h1.base, h1.cell, ?_, ?_, ?_, ?_, ?_, ?_, ?_, h1.ok, h1.old⟩, by simp [E'], ?_⟩
  · intro r o er
    rw [Mem.set_other _ _ _ _ (by simp)] at er; exact h1.dom r o er
  · intro r cs' er
    rw [Mem.set_other _ _ _ _ (by simp)] at er
    obtain ⟨g1, g2, g3, ccs, ty', g4, g5⟩ := h1.obj r cs' er
    have hne : r ≠ w.heap.size := by have := (h.dom r _ er).2; omega
    exact ⟨by simp [hne, g1], g2, g3, ccs, ty', g4, g5.mono hle2⟩
  · intro r o ho er
    rw [Mem.set_other _ _ _ _ (by simp)] at er
    obtain ⟨c, g1, g2⟩ := h1.mp r o ho er
    exact ⟨c, g1, g2.mono hle2⟩
  · intro t' e' sz' n' he
    by_cases hx : t' = t
    · subst hx
      rw [Mem.set_same] at he; cases he
      refine ⟨fun m hm => ?_, .inr ⟨w.heap.size, cap, _, by simp [E'], h.base, by simp, heap_alloc_new w _, hcap, hmax, by simp [hsz], fun o ho => ?_⟩⟩
      · simp only [E']; rw [if_neg (by omega)]; exact hnone m (by omega)
      · show (E.lay w.heap.size 0 cs).cell w.heap.size o = none
        rw [Env.lay_other (.inr (.inr (by omega)))]
        exact h.cell_none (Nat.le_refl _) o
    · rw [Mem.set_other _ _ _ _ (by simpa using hx)] at he
      have hr : ∀ m, E'.rowAt t' m = E.rowAt t' m := fun m => by simp only [E']; rw [if_neg (by simp [hx])]; rfl
      obtain ⟨h0, g0 | ⟨b, cap', cur, g1, g2, g3, g4, g5, g6, g7, g8⟩⟩ := h.row t' e' sz' n' he
      · exact ⟨fun m hm => by rw [hr]; exact h0 m hm, .inl (by rw [hr]; exact g0)⟩
      · have hb := (Array.getElem?_eq_some_iff.1 g4).1
        exact ⟨fun m hm => by rw [hr]; exact h0 m hm, .inr ⟨b, cap', cur, by rw [hr]; exact g1, g2, by simp [show b ≠ w.heap.size by omega, g3], by rw [Below.heap_alloc w _ b hb]; exact g4, g5, g6, g7, fun o ho => by show (E.lay w.heap.size 0 cs).cell b o = none; rw [Env.lay_other (.inl (by omega))]; exact g8 o ho⟩⟩
  · intro t' o er
    by_cases hx : t' = t
    · subst hx; exact h.rdom _ _ hM
    · rw [Mem.set_other _ _ _ _ (by simpa using hx)] at er; exact h.rdom t' o er
  · intro t' m ht'
    have : t' ≠ t := by have := h.rdom t _ hM; omega
    simp only [E']; rw [if_neg (by simp [this])]
    exact h.fresh t' m ht'
  · intro b t' hb
    split at hb
    · cases hb; exact h.rdom _ _ hM
    · exact h.grow b t' hb
  · exact Env.lay_lays E w.heap.size 0 cs

/-- Cells behind a row's own, within its capacity. -/
theorem Sim0.row_more (h : Sim0 B E G nr M w) (t : Nat) (e : TypeId) (sz n m : Nat) (hM : M (.w t) = some (.row e sz n)) (b cap : Nat) (cur : Array Value) (hrow : E.rowAt t n = some (b, cap)) (hG : G b = some t) (hBb : B ≤ b) (hg : w.heap[b]? = some (.cells cur e (0, 0)))
    (g6 : cap ≤ maxLen) (g7 : cur.size = cap * sz) (g8 : ∀ o, n * sz ≤ o → E.cell b o = none) (news : List Value) (hl : news.length = m * sz) (hroom : n + m ≤ cap) (hm : 0 < m) :
    ∃ E', E.le E' ∧ Sim0 B E' G nr (M.set (.w t) (.row e sz (n + m))) (w.setRow b (cur.toList.take (n * sz) ++ news ++ cur.toList.drop (n * sz + news.length)).toArray) ∧ E'.rowAt t (n + m) = some (b, cap) ∧ Lays E' news b (n * sz) := by
  have h0 := (h.row t e sz n hM).1
  let E1 := E.lay b (n * sz) news
  have hle1 : E.le E1 := Env.lay_le _ _ _ _ fun j _ => g8 _ (by omega)
  let E' : Env := { E1 with rowAt := fun t' k => if t' = t ∧ k = n + m then some (b, cap) else E1.rowAt t' k }
  have hle2 : E1.le E' := ⟨fun _ _ _ x => x, fun t' k x hx => by
    simp only [E']
    split
    · rename_i hc; obtain ⟨rfl, rfl⟩ := hc
      have : E1.rowAt t' (n + m) = none := h0 _ (by omega)
      rw [this] at hx; cases hx
    · exact hx, rfl⟩
  have hfit : n * sz + news.length ≤ cur.size := by rw [hl, g7, ← Nat.add_mul]; exact Nat.mul_le_mul_right _ hroom
  have hsize : (cur.toList.take (n * sz) ++ news ++ cur.toList.drop (n * sz + news.length)).toArray.size = cap * sz := by
    simp only [List.size_toArray, List.length_append, List.length_take, List.length_drop, Array.length_toList]
    omega
  refine ⟨E', hle1.trans hle2, ⟨by simpa using h.base, ?_, ?_, ?_, ?_, ?_, ?_, ?_, h.grow, h.ok, fun k hk => (setRow_other w b k _ (by omega)).trans (h.old k hk)⟩, by simp [E'], ?_⟩
  · intro b' o v ec
    rcases Env.lay_inv (E := E) (b := b) (o := n * sz) (cs := news) ec with ⟨rfl, k1, k2, k3⟩ | ec'
    · rw [cell_setRow_same w b' o cur _ e _ hg]
      simp only [List.getElem?_toArray]
      rw [List.append_assoc, List.getElem?_append_right (by simp; omega), List.getElem?_append_left (by simp; omega)]
      rw [← k3]
      congr 1
      simp only [List.length_take, Array.length_toList]
      omega
    · have hc := h.cell b' o v ec'
      by_cases hb : b' = b
      · subst hb
        have hlt : o < n * sz := by
          rcases Nat.lt_or_ge o (n * sz) with h' | h'
          · exact h'
          · rw [g8 o h'] at ec'; cases ec'
        rw [cell_setRow_same w b' o cur _ e _ hg]
        have hcur : w.cell? ⟨b', o, none⟩ = cur[o]? := by simp [World.cell?, hg]
        rw [hcur] at hc
        simp only [List.getElem?_toArray]
        rw [List.append_assoc, List.getElem?_append_left (by simp; omega), List.getElem?_take, if_pos hlt]
        simpa using hc
      · rw [cell_setRow_other w b _ _ (by simpa using hb)]; exact hc
  · intro r o er
    simp only [setRow_size]
    rw [Mem.set_other _ _ _ _ (by simp)] at er; exact h.dom r o er
  · intro r cs' er
    rw [Mem.set_other _ _ _ _ (by simp)] at er
    obtain ⟨k1, k2, k3, ccs, ty', k4, k5⟩ := h.obj r cs' er
    have hne : r ≠ b := by rintro rfl; rw [hG] at k1; cases k1
    exact ⟨k1, fun o => by show (E.lay b (n * sz) news).cell r o = none; rw [Env.lay_other (.inl hne)]; exact k2 o, k3, ccs, ty', by rw [setRow_other w b r _ hne]; exact k4, k5.mono (hle1.trans hle2)⟩
  · intro r o ho er
    rw [Mem.set_other _ _ _ _ (by simp)] at er
    obtain ⟨c, k1, k2⟩ := h.mp r o ho er
    have hne : r ≠ b := by rintro rfl; rw [hg] at k1; cases k1; exact k2.no_cells
    exact ⟨c, by rw [setRow_other w b r _ hne]; exact k1, k2.mono (hle1.trans hle2)⟩
  · intro t' e' sz' n' he
    by_cases hx : t' = t
    · subst hx
      rw [Mem.set_same] at he; cases he
      refine ⟨fun k hk => ?_, .inr ⟨b, cap, _, by simp [E'], hBb, hG, setRow_heap w b cur _ e _ hg, hroom, g6, hsize, fun o ho => ?_⟩⟩
      · simp only [E']; rw [if_neg (by omega)]; exact h0 k (by omega)
      · show (E.lay b (n * sz) news).cell b o = none
        have : n * sz + news.length ≤ o := by rw [hl, ← Nat.add_mul]; exact ho
        rw [Env.lay_other (.inr (.inr this))]
        exact g8 o (by omega)
    · rw [Mem.set_other _ _ _ _ (by simpa using hx)] at he
      have hr : ∀ m, E'.rowAt t' m = E.rowAt t' m := fun m => by simp only [E']; rw [if_neg (by simp [hx])]; rfl
      obtain ⟨k0, k0' | ⟨b', cap', cur', k1, k2, k3, k4, k5, k6, k7, k8⟩⟩ := h.row t' e' sz' n' he
      · exact ⟨fun k hk => by rw [hr]; exact k0 k hk, .inl (by rw [hr]; exact k0')⟩
      · have hb : b' ≠ b := by rintro rfl; rw [hG] at k3; cases k3; exact hx rfl
        refine ⟨fun k hk => by rw [hr]; exact k0 k hk, .inr ⟨b', cap', cur', by rw [hr]; exact k1, k2, k3, by rw [setRow_other w b b' _ hb]; exact k4, k5, k6, k7, fun o ho => ?_⟩⟩
        show (E.lay b (n * sz) news).cell b' o = none
        rw [Env.lay_other (.inl hb)]; exact k8 o ho
  · intro t' o er
    by_cases hx : t' = t
    · subst hx; exact h.rdom _ _ hM
    · rw [Mem.set_other _ _ _ _ (by simpa using hx)] at er; exact h.rdom t' o er
  · intro t' k ht'
    have : t' ≠ t := by have := h.rdom t _ hM; omega
    simp only [E']; rw [if_neg (by simp [this])]
    exact h.fresh t' k ht'
  · exact Env.lay_lays E b (n * sz) news
end

end Go.Am
