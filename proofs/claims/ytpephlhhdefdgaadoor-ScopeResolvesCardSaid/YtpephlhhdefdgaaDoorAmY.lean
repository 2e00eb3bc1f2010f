/- From a contract of the abstract machine to a row: a law that answers true whatever its arguments. -/
import Derived.Test.YtpephlhhdefdgaaDoorAmW
import Derived.ProofKit
import Derived.LaidMore
import Derived.Lay
import Derived.SevenTiedAt
import Derived.HandedShaped
set_option linter.unusedSectionVars false
set_option linter.unusedVariables false
set_option linter.unusedSimpArgs false
namespace Go.Am
open Go.RowKit Go.ChangeShapes

theorem okWide_cells {P : Program} {w : World} {r : Reach} {b : Nat} {t : TypeId} {v : Value} (h : Value.okWide P w r b t v) (ha : isAgg P t = false) : v.cells = #[v] := by
  cases v <;> first | rfl | skip
  rename_i cs
  exfalso
  unfold isAgg at ha
  unfold Value.okWide at h
  split at h
  · rename_i hu; simp [hu] at ha
  · rename_i hu; simp [hu] at ha
  · unfold Cell.okWide Cell.ok at h
    split at h <;> simp_all

theorem okWide_agg {P : Program} {w : World} {r : Reach} {b : Nat} {t : TypeId} {v : Value} (h : Value.okWide P w r b t v) (ha : isAgg P t = true) : ∃ cs, v = .agg cs := by
  unfold isAgg at ha
  unfold Value.okWide at h
  split at h
  · obtain ⟨cs, rfl, _⟩ := h; exact ⟨cs, rfl⟩
  · obtain ⟨cs, rfl, _⟩ := h; exact ⟨cs, rfl⟩
  · rename_i h1 h2
    split at ha
    · rename_i hu; exact absurd hu (h1 _)
    · rename_i hu; exact absurd hu (h2 _ _)
    · cases ha

/-- What the arguments look like. -/
def ArgsLook (P : Program) (R : Nat) : List TypeId → List AV → Prop
  | [], [] => True
  | t :: ts, a :: as => (∃ n l, a = elA (isAgg P t) l ∧ (∀ v ∈ l, v.one = true) ∧ Looks P R n t l) ∧ ArgsLook P R ts as
  | _, _ => False

section
variable {H : Type} {enc : TypeId × Value → H} {P : Program} {W : World} {R : Nat}
theorem argsLook_of (hl : laidOutB P = true) {base : Nat} {r : Reach} : ∀ (ts : List TypeId) (vs : List Value) (ds : List (DataW H)) (ps : List MemPlace), (∀ t ∈ ts, t < P.types.size) →
    (∀ (j : Nat) t v, ts[j]? = some t → vs[j]? = some v → Value.okWide P W r base t v) →
    DataW.TrodAll enc P W 0 (fun _ => true) true ts vs ds ps → (∀ k ∈ DataW.weightsEach P ts ds, k ≤ R) → ∃ as, RepL (E0 W) as vs ∧ ArgsLook P R ts as
  | [], vs, ds, ps, _, _, h, _ => by
    obtain ⟨rfl, rfl, rfl⟩ := trodAll_nil h
    exact ⟨[], .nil, trivial⟩
  | t :: ts, vs, ds, ps, hts, hok, h, hw => by
    obtain ⟨v, vs, d, ds, p, q, rfl, rfl, rfl, ⟨fuel, hd⟩, hrest⟩ := trodAll_cons h
    rw [DataW.weightsEach] at hw
    obtain ⟨as, h1, h2⟩ := argsLook_of hl ts vs ds q (fun t ht => hts t (by simp [ht])) (fun j t v a b => hok (j + 1) t v (by simpa using a) (by simpa using b)) hrest fun k hk => hw k (List.mem_append_right _ hk)
    obtain ⟨l, k1, k2, k3⟩ := looks_of hl fuel t _ _ (hts t (by simp)) hd fun k hk => hw k (List.mem_append_left _ hk)
    have hv := hok 0 t v rfl rfl
    refine ⟨elA (isAgg P t) l :: as, .cons _ _ _ _ ?_ h1, ⟨⟨fuel, l, rfl, k2, k3⟩, h2⟩⟩
    cases ha : isAgg P t with
    | true =>
      obtain ⟨cs, rfl⟩ := okWide_agg hv ha
      simp only [Value.cells] at k1
      exact Rep.agg l cs.toList k1
    | false =>
      obtain ⟨x, rfl⟩ := k3.single ha
      rw [okWide_cells hv ha] at k1
      obtain ⟨c, e, hc⟩ := k1.one_inv
      cases e
      exact hc

theorem trodAll_below (hl : laidOutB P = true) {W' : World} (hb : Below W.heap.size W W') : ∀ (ts : List TypeId) (vs : List Value) (ds : List (DataW H)) (ps : List MemPlace), (∀ t ∈ ts, P.readableRec t = true ∧ t < P.types.size) →
    DataW.TrodAll enc P W 0 (fun _ => true) true ts vs ds ps → (∀ x ∈ ps, x.block < W.heap.size) → DataW.TrodAll enc P W' 0 (fun b => decide (b < W.heap.size)) true ts vs ds ps
  | [], vs, ds, ps, _, h, _ => by
    obtain ⟨rfl, rfl, rfl⟩ := trodAll_nil h
    exact trodAll_mk0
  | t :: ts, vs, ds, ps, hts, h, hlt => by
    obtain ⟨v, vs, d, ds, p, q, rfl, rfl, rfl, hd, hrest⟩ := trodAll_cons h
    exact ⟨p, q, Below.trod hl (hts t (by simp)).1 (hts t (by simp)).2 hd hb fun x hx => hlt x (by simp [hx]), trodAll_below hl hb ts vs ds q (fun t ht => hts t (by simp [ht])) hrest fun x hx => hlt x (by simp [hx]), rfl⟩

theorem trodAll_length {w : World} {base : Nat} {sp : Nat → Bool} {held : Bool} : ∀ {ts : List TypeId} {vs : List Value} {ds : List (DataW H)} {ps : List MemPlace}, DataW.TrodAll enc P w base sp held ts vs ds ps → ds.length = ts.length
  | [], vs, ds, ps, h => by
    obtain ⟨rfl, rfl, rfl⟩ := trodAll_nil h
    rfl
  | t :: ts, vs, ds, ps, h => by
    obtain ⟨v, vs, d, ds, p, q, rfl, rfl, rfl, hd, hrest⟩ := trodAll_cons h
    simp [trodAll_length hrest]
end

section
variable [Inhabited LaidBox] {H : Type} {enc : TypeId × Value → H}
theorem lifted_of {C : Checked} {os : Os} {f : FuncId} {fn : Func} {s : ChangeSpec} {conds : List PathCond} {X : World → Array Value → Prop} {tb : TypeId}
    (hX : ∀ (w w' : World) (args : Array Value), w.heap = w'.heap → X w args → X w' args)
    (own : ownKnob C.prog.godebug = none) (started : os.Started) (noInit : C.prog.inits.idxOf? f = none) (hfn : C.prog.funcs[f]? = some fn)
    (hl : laidOutB C.prog = true) (hpar : (fn.params.toList.all fun t => C.prog.readableRec t && decide (t < C.prog.types.size)) = true) (hvars : s.vars = [])
    (hs : ∀ ds : List (DataW H), ds.length = fn.params.toList.length → s.fn H ds = { results := [.lit (.bool true)], args := ds })
    (hres : fn.resultTypes = #[tb]) (htb : C.prog.underlying tb = some .bool)
    (witness : ∃ (w : World) (tape : Tape) (i : Input), w.os = os ∧ (w.forCall tape i).Shaped C.prog ∧ i.vars = [] ∧ Input.okWide C.prog (w.forCall tape i) .any w.heap.size f i ∧
      ((s.pre enc C.prog fn conds false (w.forCall tape i).memory i.args ∧ X (w.forCall tape i).memory i.args) ∧ sizedMet enc C.prog fn (OpenSpec.ofChange s) false (w.forCall tape i).memory i.args) ∧ ({} : Assume).holds C.prog (lone (Frame.enter C.prog f i.args .normal) [] (w.forCall tape i)))
    (hbox : ∀ (W : World) (args : Array Value), W.ShapedOpen C.prog → X W args → (default : LaidBox).ok W)
    (core : ∀ as, ArgsLook C.prog reachBytes fn.params.toList as → Pure C.prog f as (.bool true)) :
    ReturnsInHanded {} C os f .any (fun w args => (s.pre enc C.prog fn conds false w args ∧ X w args) ∧ sizedMet enc C.prog fn (OpenSpec.ofChange s) false w args) (s.post enc C.prog fn false true false false) := by
  refine returnsInHanded_of_calls own started noInit witness ?_
  intro w tape i _ hsh _ hok hpre _
  obtain ⟨_, _, _, fn', hfn', _, _, _, _, hval⟩ := hok
  have e : fn' = fn := Option.some.inj (hfn'.symm.trans hfn)
  subst e
  obtain ⟨⟨⟨ds, gs, before, hw, hc⟩, hx⟩, hz⟩ := hpre
  have hW := DataW.Whole.of_heap (w' := w.forCall tape i) (by rfl) hw
  have hwt := hz.weights hw
  have hx' := hX _ (w.forCall tape i) _ (by rfl) hx
  generalize w.forCall tape i = W at *
  have hpar' : ∀ t ∈ fn'.params.toList, C.prog.readableRec t = true ∧ t < C.prog.types.size := fun t ht => by
    have := List.all_eq_true.1 hpar t ht
    simpa using this
  obtain ⟨p, q, hA, hV, rfl, hfz, hnd⟩ := id hW
  rw [hvars] at hV
  obtain ⟨rfl, rfl⟩ := trodVars_none hV
  have hlt : ∀ x ∈ p, x.block < W.heap.size := fun x hx => hW.lt x (by simp [hx])
  obtain ⟨as, k1, k2⟩ := argsLook_of (R := reachBytes) hl _ _ _ _ (fun t ht => (hpar' t ht).2) (fun j t v a b => hval j t v (by simpa using a) (by simpa using b)) hA fun k hk => by
    have := List.all_eq_true.1 hwt k
    simp only [decide_eq_true_eq] at this
    refine this ?_
    simpa [OpenSpec.ofChange, OpenSpec.bare, ChangeSpec.plain, DataSpec.varTypes, hvars] using hk
  refine ((core as k2 (fun _ => none)) _ _ _ W i.args (Mem.sub.refl _) (sim_E0 W (hbox W i.args hsh hx')) k1).mono fun e W' ⟨x, M', MM', E', hRx, hr, _, _, _, _, hb⟩ => ?_
  obtain ⟨hx1, _⟩ := hRx
  subst hx1
  cases e with
  | returned v =>
    cases (show Rep E' (.bool true) v from hr)
    refine ChangeSpec.post_blind ⟨ds, [], p ++ [], [], p, [], hW, ?_, ?_, ?_, hb.frame _, fun h => by cases h⟩
    · rw [List.append_nil, hs ds (trodAll_length hA), hres]
      exact trodAll_mk1 (shut_bool htb true)
    · rw [List.append_nil, hs ds (trodAll_length hA)]
      exact trodAll_below hl hb _ _ _ _ hpar' hA hlt
    · rw [List.append_nil, hs ds (trodAll_length hA), hvars]
      rfl
  | _ => exact hr.elim
end
end Go.Am
