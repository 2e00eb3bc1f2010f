/- More rules: a library's contract lifted, a test of a slice for nil, a row of the call's own handed out. -/
import Derived.Test.YtpephlhhdefdgaaDoorAmV
set_option linter.unusedSectionVars false
set_option linter.unusedVariables false
set_option linter.unusedSimpArgs false
namespace Go.Am
open Go.RowKit
variable [Inhabited LaidBox] {ro : Option Nat}

def strs (l : List (List UInt8)) : List AV := l.map AV.str
theorem strs_len (l : List (List UInt8)) : (strs l).length = l.length := by simp [strs]
theorem strs_at (l : List (List UInt8)) (i : Nat) (x : List UInt8) (h : l[i]? = some x) : (strs l)[i]? = some (.str x) := by simp [strs, h]
theorem strs_nil : strs [] = [] := rfl
theorem strs_cons (x : List UInt8) (l : List (List UInt8)) : strs (x :: l) = .str x :: strs l := rfl
theorem strs_append (a b : List (List UInt8)) : strs (a ++ b) = strs a ++ strs b := by simp [strs]
theorem strs_drop (l : List (List UInt8)) (n : Nat) : (strs l).drop n = strs (l.drop n) := by simp [strs]
theorem strs_take (l : List (List UInt8)) (n : Nat) : (strs l).take n = strs (l.take n) := by simp [strs]

/-- A world that lies above another one. -/
theorem Sim.above {B : Nat} {E : Env} {M : Mem} {w w' : World} (h : Sim B E M w) (hb : Below w.heap.size w w') : Sim B E M w' := by
  obtain ⟨G, nr, h⟩ := h
  have hh : ∀ (k : Nat) o, w.heap[k]? = some o → w'.heap[k]? = some o := fun k o hk => by rw [hb.block k (Array.getElem?_eq_some_iff.1 hk).1]; exact hk
  refine ⟨G, nr, Nat.le_trans h.base hb.size, fun b o v e => ?_, fun r o e => ⟨(h.dom r o e).1, Nat.lt_of_lt_of_le (h.dom r o e).2 hb.size⟩, fun r cs e => ?_, fun r o ho e => ?_, fun t e sz n he => ?_, h.rdom, h.fresh, h.grow, h.ok, fun k hk => ?_⟩
  · have hc := h.cell b o v e
    rw [hb.cell (p := ⟨b, o, none⟩) (cell_lt hc)]; exact hc
  · obtain ⟨g1, g2, g3, ccs, ty, g4, g5⟩ := h.obj r cs e
    exact ⟨g1, g2, g3, ccs, ty, hh _ _ g4, g5⟩
  · obtain ⟨c, g1, g2⟩ := h.mp r o ho e
    exact ⟨c, hh _ _ g1, g2⟩
  · obtain ⟨h0, g0 | ⟨b, cap, cur, g1, g2, g3, g4, g5⟩⟩ := h.row t e sz n he
    · exact ⟨h0, .inl g0⟩
    · exact ⟨h0, .inr ⟨b, cap, cur, g1, g2, g3, hh _ _ g4, g5⟩⟩
  · rw [hb.block k (Nat.lt_of_lt_of_le hk h.base)]; exact h.old k hk

theorem Frames.refl {M MM : Mem} (h : M.sub MM) : Frames M MM M MM := fun r o h1 h2 => ⟨h2, h1⟩

/-- A function of a library that hands back a value and leaves what lay in the heap alone. -/
theorem Pure.of_lib {P : Program} {f : FuncId} {args : List AV} {v : AV} (h : ∀ B E MM w (cargs : Array Value), Sim B E MM w → RepL E args cargs.toList → Calls P f cargs w fun e w' => ∃ c, e = .returned c ∧ Rep E v c ∧ Below w.heap.size w w') : Pure P f args v := by
  intro M B E MM w cargs hsub hs hargs
  refine (h B E MM w cargs hs hargs).mono ?_
  rintro e w' ⟨c, rfl, hc, hb⟩
  obtain ⟨G, nr, hs0⟩ := id hs
  exact ⟨.ret v, M, MM, E, ⟨rfl, rfl⟩, hc, Env.le.refl E, hsub, Frames.refl hsub, hs.above hb, hb.mono hs0.base⟩

/-- One that hands back a new slice as long as its room. -/
theorem Pure.of_new {P : Program} {f : FuncId} {args : List AV} {sz : Nat} {es : List AV} (hsz : ∀ x ∈ es, x.cells.length = sz) (hone : ∀ v ∈ flat es, v.one = true)
    (h : ∀ B E MM w (cargs : Array Value), Sim B E MM w → RepL E args cargs.toList → Calls P f cargs w fun e w' => ∃ cs ty, RepL E (flat es) cs ∧ e = .returned (.slice (some ⟨w.heap.size, 0, none⟩) es.length es.length) ∧ w' = w.alloc (.cells cs.toArray ty)) : Pure P f args (.sl .full sz es) := by
  intro M B E MM w cargs hsub hs hargs
  refine (h B E MM w cargs hs hargs).mono ?_
  rintro e w' ⟨cs, ty, hcs, rfl, rfl⟩
  obtain ⟨G, nr, hs0⟩ := id hs
  obtain ⟨hs1, hle⟩ := hs0.new_cells ty cs []
  simp only [List.append_nil] at hs1
  exact ⟨.ret _, M, MM, _, ⟨rfl, rfl⟩, .sl _ _ _ w.heap.size 0 es.length _ rfl (RepEs.of hsz hone (hcs.mono hle) (Env.lay_lays E w.heap.size 0 cs)) (Nat.le_refl _) ⟨rfl, rfl⟩, hle, hsub, Frames.refl hsub, ⟨G, nr, hs1⟩, (Below.refl B w).alloc hs0.base _⟩

theorem flat_strs (l : List (List UInt8)) : flat (strs l) = strs l := by
  induction l with
  | nil => rfl
  | cons x l ih =>
    show flat (AV.str x :: strs l) = _
    have : flat (AV.str x :: strs l) = [AV.str x] ++ flat (strs l) := rfl
    rw [this, ih]; rfl

/-- Strings in the cells of a row. -/
theorem RepEs.strs {E : Env} : ∀ {l : List (List UInt8)} {b o : Nat}, RepEs E 1 (Am.strs l) b o → ∃ xs : List ByteArray, xs.map (·.data.toList) = l ∧ ∀ (j : Nat) x, xs[j]? = some x → E.cell b (o + j) = some (.string x)
  | [], _, _, _ => ⟨[], rfl, fun j x h => by simp at h⟩
  | x :: l, b, o, h => by
    rw [strs_cons] at h
    cases h with
    | cons _ e es _ _ hs hc ht =>
      cases hc with
      | cons _ c _ _ _ h1 h2 h3 h4 =>
        obtain ⟨xs, h5, h6⟩ := RepEs.strs ht
        cases h3 with
        | str s =>
          refine ⟨s :: xs, by simp [h5], fun j y hj => ?_⟩
          cases j with
          | zero => simp at hj; subst hj; simpa using h1
          | succ j =>
            have := h6 j y (by simpa using hj)
            rwa [show o + (j + 1) = o + 1 + j by omega]

section
variable {P : Program} {T : TT} {esc : List Nat} {Q : AExit → St → Prop} {st : St}

theorem compK_nls {o : Oper} {op : BinOp} {x : Opd} (hT : TTOk P T) (k3 : compK T esc o = some (.nl op .slice x)) : ∃ t x' t' e, o.op = .binOp op t x' (.const (nilOf .slice)) t' ∧ P.underlying t = some (.slice e) ∧ IsOpd x x' ∧ (op = .eql ∨ op = .neq) := by
  cases ho : o.op with
  | binOp op' t x' y t' =>
    simp only [compK, ho] at k3
    repeat' (split at k3)
    all_goals first
      | (cases k3; done)
      | (simp only [Option.map_eq_some_iff] at k3
         obtain ⟨_, _, k3⟩ := k3
         cases k3; done)
      | (rename_i hd hcond
         simp only [Bool.and_eq_true] at hcond
         simp only [Option.map_eq_some_iff] at k3
         obtain ⟨x1, hx, k3⟩ := k3
         cases k3
         have hop : op = .eql ∨ op = .neq := by
           have := hcond.2
           cases op <;> first | exact .inl rfl | exact .inr rfl | simp [isEqOp] at this
         have hy := isNilC_is hcond.1
         subst hy
         exact ⟨t, x', t', _, rfl, descOf_und hT hd (by simp), cX_is hx, hop⟩)
      | (exfalso; simp at k3; done)
  | call c =>
    exfalso
    simp only [compK, ho] at k3
    repeat' (split at k3)
    all_goals first | (cases k3; done) | (simp at k3; done)
  | unOp op t x => cases op <;> simp [compK, ho] at k3
  | slice t x lo hi mx =>
    exfalso
    cases mx <;> simp only [compK, ho, reduceCtorEq] at k3
    repeat' (split at k3)
    all_goals first | (cases k3; done) | (simp at k3; done)
  | makeMap t r =>
    exfalso
    cases r <;> simp only [compK, ho, reduceCtorEq] at k3
    repeat' (split at k3)
    all_goals first | (cases k3; done)
  | box t x =>
    exfalso
    simp only [compK, ho] at k3
    split at k3
    · simp only [Option.map_eq_some_iff] at k3
      obtain ⟨_, _, k3⟩ := k3
      split at k3 <;> cases k3
    · cases k3
  | alloc t =>
    exfalso
    simp only [compK, ho] at k3
    split at k3
    · split at k3
      · simp only [Option.some.injEq] at k3
        split at k3 <;> cases k3
      · cases k3
    · cases k3
  | _ =>
    exfalso
    simp only [compK, ho, reduceCtorEq] at k3
    try (repeat' (split at k3))
    all_goals first | (cases k3; done) | (simp at k3; done)

/-- A test of a slice for nil, of which nothing is known. -/
theorem COps.nlAny (hT : TTOk P T) {d : Option Nat} {op : BinOp} {x : Opd} {cs : List COp} {own : Own} {sz : Nat} {es : List AV} (hx : st.get x = .v (.sl own sz es))
    (h : ∀ z : Bool, (z = true → es = []) → COps ro P T esc cs Q (st.put d (.v (.bool (nlB op z))))) : COps ro P T esc ({ dst := d, grd := none, k := .nl op .slice x } :: cs) Q st := by
  intro ops idxs hc
  obtain ⟨i, is, o, rfl, h1, h2, h3⟩ := hc.cons
  obtain ⟨k1, k2, k3⟩ := compOp_inv h2 (by intro o' e; cases e)
  simp only at k1 k2 k3
  obtain ⟨t, x', t', e, ho, ht, hxo, hop⟩ := compK_nls hT k3
  intro B E F blk rw a w hr
  simp only [wpOpsIn, h1]
  rw [if_pos (by simp [Region.wanted, compG_none k2])]
  have hv := hr.opd hxo
  rw [hx] at hv
  have hsl : ∃ y n c, a.eval x' = .slice y n c ∧ (y.isNone = true → es = []) := by
    rcases Rep.sl_inv3 hv with ⟨e1, e2, _⟩ | ⟨a0, e1, e2, _⟩ | ⟨b, o, cap, e1, _⟩
    · exact ⟨_, _, _, e1, fun _ => e2⟩
    · exact ⟨_, _, _, e1, fun _ => e2⟩
    · exact ⟨_, _, _, e1, fun h => by cases h⟩
  obtain ⟨y, n, c, hsl, hempty⟩ := hsl
  have heq0 : ∀ n, (Op.equalIn (n + 1) t (a.eval x') (nilOf .slice)).run P w = .ok y.isNone w := by
    intro n
    rw [hsl]
    cases y <;> (simp only [Op.equalIn, Sem.run_bind, run_underlying ht, Result.andThen_ok, nilOf]; rfl)
  have heq : (Op.equal t (a.eval x') (nilOf .slice)).run P w = .ok y.isNone w := heq0 9999
  have hg := eqGuard_nil (P := P) hop (t := t) (x := x') (k := .slice) (c := a.eval x') w (by rw [hsl]; intro cs; simp)
  have hev : a.eval (.const (nilOf .slice)) = nilOf .slice := rfl
  have hrun : (execOp a.eval o).run P w = .ok (.value (.bool (nlB op y.isNone))) w := by
    simp only [execOp, ho]
    refine run_v ?_
    rw [hev]
    simp only [Sem.run_bind, hg, Result.andThen_ok]
    rcases hop with rfl | rfl
    · have : binOp .eql t (a.eval x') (nilOf .slice) = ((do _root_.Pure.pure (Value.bool (← Op.equal t (a.eval x') (nilOf .slice)))) : Sem Value) := by rw [hsl]; rfl
      rw [this]
      simp only [Sem.run_bind, heq, Result.andThen_ok, Sem.run_pure, nlB]
    · have : binOp .neq t (a.eval x') (nilOf .slice) = ((do _root_.Pure.pure (Value.bool (!(← Op.equal t (a.eval x') (nilOf .slice))))) : Sem Value) := by rw [hsl]; rfl
      rw [this]
      simp only [Sem.run_bind, heq, Result.andThen_ok, Sem.run_pure, nlB]
  refine uponIn_run hrun (by simp) ?_
  rw [k1] at h
  exact h y.isNone hempty ops is h3 B E F blk rw _ w (hr.put o.dst (x := .v (.bool _)) (Rep.bool _))

/-- A row of the call's own becomes one that memory speaks of. -/
theorem Rel.handsOut {B : Nat} {E : Env} {F : Mem} {blk rw : List Nat} {a : Act} {w : World} (hr : Rel B E F blk rw st a w) {i k sz n : Nat} {es : List AV} {e : TypeId} (hi : st.tmps[i]? = some (.lsl k sz es)) (hk : st.rows = [(e, sz, n)]) (h0 : k = 0) (hj : ∀ j x, j ≠ i → st.tmps[j]? = some x → ∀ k' s' l', x ≠ .lsl k' s' l' ∧ ∀ g y, x ≠ .opt g y) (hl : st.loc = []) :
    ∃ t, st.M (.w t) = none ∧ Rel B E F blk [] { st with tmps := st.tmps.set i (.v (.sl (.srow t) sz es)), rows := [], M := st.M.set (.w t) (.row e sz n) } a w := by
  subst h0
  obtain ⟨MM, hm⟩ := hr.mem
  obtain ⟨t, h1, h2, h3, h4⟩ := hm.rws 0 e sz n (by rw [hk]; rfl)
  refine ⟨t, h3, ?_, hr.defs, MM, hm.sim, ?_, fun r o hF => ?_, fun i tvs h => ?_, fun i e sz n h => ?_, hm.blen, rfl⟩
  · have hlen := hr.tmps.length
    obtain ⟨c, hc, hrep⟩ := hr.tmps.at i _ hi
    obtain ⟨t', ht', hrep⟩ := hrep
    rw [h1] at ht'; cases ht'
    have key : ∀ {xs : List TV} {cs : List Value}, RelVL E blk rw xs cs → (∀ (j : Nat) x, xs[j]? = some x → ∀ k' s' l', x ≠ .lsl k' s' l' ∧ ∀ g y, x ≠ .opt g y) → RelVL E blk [] xs cs := by
      intro xs cs h
      induction h with
      | nil => intro _; exact .nil
      | cons x c xs cs h ht ih =>
        intro hn
        refine .cons _ _ _ _ ?_ (ih fun j x hx => hn (j + 1) x (by simpa using hx))
        have := hn 0 x rfl
        cases x with
        | junk => trivial
        | v x => exact h
        | lptr i off => exact h
        | lsl i sz es => exact absurd rfl (this i sz es).1
        | opt g x => exact absurd rfl ((this 0 0 []).2 g x)
    have h5 : RelVL E blk rw (st.tmps.set i (.v (.sl (.srow t) sz es))) (a.tmps.toList.set i c) := hr.tmps.set i (.v (.sl (.srow t) sz es)) c hrep
    have : a.tmps.toList.set i c = a.tmps.toList := by
      refine List.ext_getElem? fun j => ?_
      rw [List.getElem?_set]
      split
      · rename_i h; subst h
        split
        · exact hc.symm
        · rename_i h; rw [List.getElem?_eq_none (by omega)]
      · rfl
    rw [this] at h5
    refine key h5 fun j x hx => ?_
    by_cases hji : i = j
    · subst hji
      rw [List.getElem?_set] at hx
      split at hx
      · split at hx
        · cases hx; intro k' s' l'; exact ⟨by simp, by simp⟩
        · cases hx
      · exact absurd rfl ‹_›
    · rw [List.getElem?_set_ne hji] at hx
      exact hj j x (Ne.symm hji) hx
  · intro r o e'
    by_cases hx : r = .w t
    · subst hx
      have e2 : (st.M.set (.w t) (.row e sz n)) (.w t) = some o := e'
      rw [Mem.set_same] at e2; cases e2; exact h2
    · have e2 : (st.M.set (.w t) (.row e sz n)) r = some o := e'
      rw [Mem.set_other _ _ _ _ hx] at e2; exact hm.sub r o e2
  · obtain ⟨f1, f2, f3, f4⟩ := hm.frame r o hF
    have hne : r ≠ .w t := by rintro rfl; exact f4 t rfl 0 _ (by rw [hk]; rfl) h1
    exact ⟨f1, by show (st.M.set (.w t) (.row e sz n)) r = none; rw [Mem.set_other _ _ _ _ hne]; exact f2, f3, fun t' _ i x hi' => by simp at hi'⟩
  · rw [hl] at h; simp at h
  · simp at h

theorem CWp.regO {cs : List COp} (h : COps ro P T esc cs Q st) : CWp ro P T esc (.reg false cs) Q st := by
  intro c hc
  cases c with
  | region id ops draw =>
    cases draw with
    | true => cases hc
    | false =>
    simp only [comp] at hc
    cases hc
    refine AWp.region (h ops _ ?_)
    have := CompL.all (T := T) (esc := esc) ops ops.toList 0 (fun j o hj => by simpa using hj)
    simpa [List.range_eq_range'] using this
  | cond x a b => simp only [comp] at hc; split at hc <;> cases hc
  | rangeFunc g ps a b => simp only [comp] at hc; split at hc <;> cases hc
  | _ => cases hc

/-- One quiet operation. -/
theorem COps.step (hT : TTOk P T) {d : Option Nat} {k : CK} {cs : List COp} {x : TV} {p : Prop} (hno : ∀ o, k ≠ .other o) (hq : pev k true st = some (x, p)) (hp : p) (h : COps ro P T esc cs Q (st.put d x)) : COps ro P T esc (⟨d, none, k⟩ :: cs) Q st := by
  intro ops idxs hc
  obtain ⟨i, is, o, rfl, h1, h2, h3⟩ := hc.cons
  obtain ⟨k1, k2, k3⟩ := compOp_inv h2 hno
  simp only at k1 k2 k3
  refine AOps.value h1 (compG_none k2) (pev_ok hT k3 hq hp) ?_
  rw [← k1]
  exact h ops is h3

/-- A nil slice in a slot gets a name, in a region. -/
theorem COps.own {cs : List COp} {i sz : Nat} (e : TypeId) (hi : st.tmps[i]? = some (.v (.sl .full sz []))) (h : COps ro P T esc cs Q { st with tmps := st.tmps.set i (.lsl st.rows.length sz []), rows := st.rows ++ [(e, sz, 0)] }) : COps ro P T esc cs Q st := by
  intro ops idxs hc B E F blk rw a w hr
  obtain ⟨E', rw', hE, hr'⟩ := hr.own_tmp e hi
  exact wpOpsR_mono (fun e a' w' ho => ho.weaken hE (Below.refl B w) fun _ _ h => h) idxs _ _ (h ops idxs hc B E' F blk rw' a w hr')

theorem CWp.handsOut {cc : CC} {i sz n : Nat} {es : List AV} {e : TypeId} (hi : st.tmps[i]? = some (.lsl 0 sz es)) (hk : st.rows = [(e, sz, n)]) (hj : ∀ j x, j ≠ i → st.tmps[j]? = some x → ∀ k' s' l', x ≠ .lsl k' s' l' ∧ ∀ g y, x ≠ .opt g y) (hl : st.loc = [])
    (h : ∀ t, st.M (.w t) = none → CWp ro P T esc cc Q { st with tmps := st.tmps.set i (.v (.sl (.srow t) sz es)), rows := [], M := st.M.set (.w t) (.row e sz n) }) : CWp ro P T esc cc Q st := by
  intro c hc B E F blk rw a w hr
  obtain ⟨t, ht, hr'⟩ := hr.handsOut hi hk rfl hj hl
  exact h t ht c hc B E F blk [] a w hr'
end
section
variable {P : Program} {T : TT} {esc : List Nat} {Q : AExit → St → Prop} {st : St} {cs : List COp} {pr ck : List (List Nat)} {l : List (Nat × COp × List Nat)} {R : List (Nat × Fact)} {i : Nat} {d : Option Nat} {g : Option (Nat × Bool)} {chk : List Nat}
theorem evalD_call {f : FuncId} {xs : List Opd} (h : DOps ro P T esc cs pr ck Q R ((i, ⟨d, g, .call f xs⟩, chk) :: l) st) : evalD ro P T esc cs pr ck Q ((i, ⟨d, g, .call f xs⟩, chk) :: l) R st := by cases g <;> exact h
theorem evalD_callv {f : Opd} {xs : List Opd} (h : DOps ro P T esc cs pr ck Q R ((i, ⟨d, g, .callv f xs⟩, chk) :: l) st) : evalD ro P T esc cs pr ck Q ((i, ⟨d, g, .callv f xs⟩, chk) :: l) R st := by cases g <;> exact h
end
/-- Two results in cells, behind loops over functions. -/
theorem FinM.two {P : Program} {st : St} {fn : Func} {R : AEnd → Mem → Prop} {x : AExit} {ds : List Nat} {p q : Nat} {t u : TypeId} {i j : TI} {r r' : Nat} {cs cs' : List AV} {v v' : AV} {M' : Mem} (hx : x = .ret ∨ x = .normal) (hres : fn.results = #[.cell p t, .cell q u]) (hi : TIOk P t i) (hj : TIOk P u j)
    (hds : st.defs = ds.map .mark) (hdb : defbs ds st.M) (hp : (st.tmps[p]?).getD .junk = .v (.ptr r 0)) (hq : (st.tmps[q]?).getD .junk = .v (.ptr r' 0)) (hr : st.M (.b r) = some (.cells cs)) (hr' : st.M (.b r') = some (.cells cs'))
    (hv : pickT (isAggD i.desc) i.size cs 0 = some v) (hv' : pickT (isAggD j.desc) j.size cs' 0 = some v') (hnr : r ∉ ds) (hnr' : r' ∉ ds) (hM : M'.sub st.M) (hMd : ∀ d ∈ ds, M' (.b d) = none) (h : R (.ret (.tup [v, v'])) M') : FinM P fn R x st := by
  have key : ∃ ds : List Nat, st.defs = ds.map .mark ∧ defbs ds st.M ∧ ∃ M1, M1.sub st.M ∧ (∀ d ∈ ds, M1 (.b d) = none) ∧ ∃ vs, ResL P fn.results.toList { st with M := M1, defs := [] } vs ∧ ∃ M', M'.sub M1 ∧ R (.ret (tupV vs)) M' := by
    let M1 : Mem := fun k => if k ∈ ds.map Key.b then none else st.M k
    have m1 : ∀ r0 : Nat, r0 ∉ ds → M1 (.b r0) = st.M (.b r0) := fun r0 h0 => by
      simp only [M1]; rw [if_neg (by simpa using h0)]
    refine ⟨ds, hds, hdb, M1, ?_, ?_, [v, v'], ?_, M', ?_, h⟩
    · intro k o hk
      simp only [M1] at hk
      split at hk
      · cases hk
      · exact hk
    · intro d hd
      simp only [M1]; rw [if_pos (by simpa using hd)]
    · rw [hres]
      exact .cons _ _ _ _ _ (.cellM hi hp (by show M1 (.b r) = _; rw [m1 r hnr]; exact hr) hv) (.cons _ _ _ _ _ (.cellM hj hq (by show M1 (.b r') = _; rw [m1 r' hnr']; exact hr') hv') (.nil _))
    · intro k o hk
      simp only [M1]
      split
      · rename_i hin
        simp only [List.mem_map] at hin
        obtain ⟨d, hd, rfl⟩ := hin
        rw [hMd d hd] at hk; cases hk
      · exact hM k o hk
  rcases hx with rfl | rfl <;> exact key

theorem Mem.set_none {M : Mem} {k k' : Key} {o : AObj} (h : (M.set k o) k' = none) : k' ≠ k ∧ M k' = none := by
  by_cases e : k' = k
  · subst e; rw [Mem.set_same] at h; cases h
  · rw [Mem.set_other _ _ _ _ e] at h; exact ⟨e, h⟩
theorem Mem.set_b {M : Mem} {r r' : Nat} {o : AObj} (h : r' ≠ r) : (M.set (.b r) o) (.b r') = M (.b r') := Mem.set_other _ _ _ _ (by simpa using h)
theorem Mem.set_w {M : Mem} {r t : Nat} {o : AObj} : (M.set (.b r) o) (.w t) = M (.w t) := Mem.set_other _ _ _ _ (by simp)
/-- One result, in a cell of a variable of the call's own. -/
theorem Fin.cell1 {P : Program} {st : St} {fn : Func} {R : AEnd → Mem → Prop} {x : AExit} {p k : Nat} {t : TypeId} {i : TI} {tvs : List TV} {y : TV} {v : AV} {M' : Mem} (hx : x = .ret ∨ x = .normal) (hres : fn.results = #[.cell p t]) (hi : TIOk P t i) (hd : st.defs = [])
    (hp : (st.tmps[p]?).getD .junk = .lptr k 0) (hk : st.loc[k]? = some (some tvs)) (hy : pickL (isAggD i.desc) i.size tvs 0 = some y) (hv : y.ext = some v) (hM : M'.sub st.M) (h : R (.ret v) M') : Fin P fn R x st := by
  have : ∃ vs, ResL P fn.results.toList st vs ∧ ∃ M', M'.sub st.M ∧ R (.ret (tupV vs)) M' := ⟨[v], by rw [hres]; exact .cons _ _ _ _ _ (.cell hi hp hk hy hv) (.nil _), M', hM, h⟩
  rcases hx with rfl | rfl <;> exact ⟨hd, this⟩
section
variable {P : Program} {T : TT} {esc : List Nat} {Q : AExit → St → Prop} {st : St} {cs : List COp} {d : Option Nat} {g : Option (Nat × Bool)}
theorem evalC_call {f : FuncId} {xs : List Opd} (h : COps ro P T esc (⟨d, g, .call f xs⟩ :: cs) Q st) : evalC ro P T esc Q (⟨d, g, .call f xs⟩ :: cs) st := by
  cases g with
  | none => exact h
  | some dw =>
    obtain ⟨d0, w⟩ := dw
    simp only [evalC]
    split
    · exact h
    · exact h
theorem evalC_callv {f : Opd} {xs : List Opd} (h : COps ro P T esc (⟨d, g, .callv f xs⟩ :: cs) Q st) : evalC ro P T esc Q (⟨d, g, .callv f xs⟩ :: cs) st := by
  cases g with
  | none => exact h
  | some dw =>
    obtain ⟨d0, w⟩ := dw
    simp only [evalC]
    split
    · exact h
    · exact h
end
end Go.Am
