/- Loops over functions: the record, rounds, yield, the marks at a function's end. -/
import Derived.Test.YtpephlhhdefdgaaDoorAmS
import Derived.RangeFuncRecord
set_option linter.unusedSectionVars false
set_option linter.unusedVariables false
set_option linter.unusedSimpArgs false
namespace Go.Am
open Go.RowKit
variable [Inhabited LaidBox] {ro : Option Nat}

/-- What a slot's value is outside of the call. -/
def TV.av : TV → AV
  | .v x => x
  | _ => .junk
def avT : AV → TV
  | .junk => .junk
  | v => .v v
theorem RelV.av {E : Env} {blk rw : List Nat} {x : TV} {c : Value} (h : RelV E blk rw x c) : Rep E x.av c := by
  cases x <;> first | exact h | exact .junk c
theorem RelVL.av {E : Env} {blk rw : List Nat} : ∀ {xs : List TV} {cs : List Value}, RelVL E blk rw xs cs → RepL E (xs.map TV.av) cs
  | _, _, .nil => .nil
  | _, _, .cons x c xs cs h ht => .cons _ _ _ _ h.av (RelVL.av ht)
theorem Rep.avT {E : Env} {blk rw : List Nat} {v : AV} {c : Value} (h : Rep E v c) : RelV E blk rw (avT v) c := by
  cases v <;> first | exact h | exact trivial
theorem RepL.avT {E : Env} {blk rw : List Nat} : ∀ {vs : List AV} {cs : List Value}, RepL E vs cs → RelVL E blk rw (vs.map Am.avT) cs
  | _, _, .nil => .nil
  | _, _, .cons v c vs cs h ht => .cons _ _ _ _ h.avT (RepL.avT ht)

/-- The slots at the beginning of a round. -/
def roundT : List Tmp → List AV → List TV → List TV
  | p :: ps, a :: as, ts => roundT ps as (ts.set p (.v a))
  | _, _, ts => ts
theorem roundT_rel {E : Env} {blk rw : List Nat} : ∀ (ps : List Tmp) {as : List AV} {cs : List Value} {ts : List TV} {us : List Value}, RepL E as cs → RelVL E blk rw ts us →
    RelVL E blk rw (roundT ps as ts) ((ps.zip cs).foldl (fun us x => us.set x.1 x.2) us)
  | [], _, _, _, _, .nil, h => h
  | [], _, _, _, _, .cons .., h => h
  | _ :: _, _, _, _, _, .nil, h => h
  | p :: ps, _, _, _, _, .cons a c as cs ha ht, h => roundT_rel ps ht (h.set p (.v a) c ha)

theorem foldl_setR (l : List (Tmp × Value)) : ∀ us : Array Value, (l.foldl (fun us x => us.setIfInBounds x.1 x.2) us).toList = l.foldl (fun us x => us.set x.1 x.2) us.toList := by
  induction l with
  | nil => intro us; rfl
  | cons x l ih => intro us; rw [List.foldl_cons, ih, List.foldl_cons, Array.toList_setIfInBounds]
theorem round_tmps (ps : Array Tmp) (as us : Array Value) : ((ps.zip as).foldl (fun tmps (t, a) => tmps.setIfInBounds t a) us).toList = (ps.toList.zip as.toList).foldl (fun us x => us.set x.1 x.2) us.toList := by
  rw [← foldl_setR, ← Array.toList_zip, Array.foldl_toList]

/-- A call of the value that a loop over a function hands over. -/
def AYields (P : Program) (l : Nat) (args : List AV) (M : Mem) (R : AEnd → Mem → Prop) : Prop :=
  ∀ B E MM w (cargs : Array Value), M.sub MM → Sim B E MM w → RepL E args cargs.toList → ∃ fn tmps assign body, (Instr.yield l cargs).run P w = .ok (.round l fn tmps assign body) w ∧ RoundIn (wf none) 0 P l fn tmps assign body w (CallPost B E M MM w R)

theorem AYields.mono {P : Program} {l : Nat} {args : List AV} {M : Mem} {R R' : AEnd → Mem → Prop} (h : AYields P l args M R) (hR : ∀ x M', R x M' → R' x M') : AYields P l args M R' := by
  intro B E MM w cargs h1 h2 h3
  obtain ⟨fn, tmps, assign, body, k1, k2⟩ := h B E MM w cargs h1 h2 h3
  exact ⟨fn, tmps, assign, body, k1, k2.mono fun e w' ⟨x, M', MM', E', k, rest⟩ => ⟨x, M', MM', E', hR _ _ k, rest⟩⟩

theorem roundR {P : Program} {ro ro' : Option Nat} {n : Nat} {l : Nat} {f : FuncId} {tmps : Array Value} {assign body : Code} {w : World} {R : Ending → World → Prop} (h : RoundIn (wf ro) n P l f tmps assign body w R) : RoundIn (wf ro') n P l f tmps assign body w R := h

/-- A record turns. -/
theorem Rel.othSet {B : Nat} {E : Env} {F : Mem} {blk rw : List Nat} {st : St} {a : Act} {w : World} (hr : Rel B E F blk rw st a w) (r : Nat) (o o' : AObj) (ho : o.oth = true) (ho' : o'.oth = true) (hM : st.M (.b r) = some o) (c' : Obj) (hc : RepO E o' c') :
    Rel B E F blk rw { st with M := st.M.set (.b r) o' } a (w.putObj r c') ∧ Below B w (w.putObj r c') := by
  obtain ⟨MM, hm⟩ := hr.mem
  obtain ⟨G, nr, hs⟩ := hm.sim
  have hMM := hm.sub _ _ hM
  refine ⟨⟨hr.tmps, hr.defs, _, hm.setM hM ⟨G, nr, hs.oth_set r o o' ho ho' hMM c' hc⟩⟩, ?_⟩
  have hB := (hs.dom r _ hMM).1
  exact ⟨rfl, rfl, rfl, by simp, fun k hk => World.putObj_heap_other (by omega)⟩

theorem Rel.loop {B : Nat} {E : Env} {F : Mem} {blk rw : List Nat} {st : St} {a : Act} {w : World} (hr : Rel B E F blk rw st a w) {r : Nat} {L : LoopRec} (hM : st.M (.b r) = some (.loop L)) :
    ∃ c : Loop, w.heap[r]? = some (.loop c) ∧ RepO E (.loop L) (.loop c) := by
  obtain ⟨MM, hm⟩ := hr.mem
  obtain ⟨G, nr, hs⟩ := hm.sim
  obtain ⟨c, h1, h2⟩ := hs.mp r _ rfl (hm.sub _ _ hM)
  cases c <;> first | exact h2.elim | exact ⟨_, h1, h2⟩

/-- How a round's body may be left. -/
def roundA (l : Nat) (R : AEnd → Mem → Prop) : AExit → St → Prop
  | .normal, st => ∃ L, st.M (.b l) = some (.loop L) ∧ ∃ M', M'.sub (st.M.set (.b l) (.loop { L with state := .ready, pend := none })) ∧ R (.ret (.bool true)) M'
  | .ret, st => ∃ L, st.M (.b l) = some (.loop L) ∧ ∃ M', M'.sub (st.M.set (.b l) (.loop { L with state := .done, pend := some .ret })) ∧ R (.ret (.bool false)) M'
  | .exit id, st => ∃ L, st.M (.b l) = some (.loop L) ∧ ∃ M', M'.sub (st.M.set (.b l) (.loop { L with state := .done, pend := some (.exit id) })) ∧ R (.ret (.bool false)) M'
  | .panic _, _ => False

theorem AYields.of_wp {P : Program} {l : Nat} {args : List AV} {M : Mem} {R : AEnd → Mem → Prop} {L : LoopRec} (hM : M (.b l) = some (.loop L)) (hlen : args.length = L.ps.size)
    (h : AWp (some l) P L.assign (fun x st1 => x = .normal ∧ ∃ L', st1.M (.b l) = some (.loop L') ∧ L'.state = .ready ∧
        AWp (some l) P L.body (roundA l R) { st1 with M := st1.M.set (.b l) (.loop { L' with state := .busy }) })
      { tmps := roundT L.ps.toList args (L.vs.map avT), loc := [], rows := [], defs := [], M := M }) : AYields P l args M R := by
  intro B E MM w cargs hsub hs hargs
  obtain ⟨G, nr, hs0⟩ := id hs
  obtain ⟨c, hc1, hc2⟩ := hs0.mp l _ rfl (hsub _ _ hM)
  cases c <;> try exact hc2.elim
  rename_i rec
  obtain ⟨q1, q2, q3, q4, q5, q6, q7, q8⟩ := hc2
  have hsz : cargs.size = rec.params.size := by rw [q5, ← hlen]; simpa using hargs.length
  refine ⟨_, _, _, _, run_yield hc1 hsz, ?_⟩
  have hst : Rel B E (fun r => if (M r).isNone then MM r else none) [] [] { tmps := roundT L.ps.toList args (L.vs.map avT), loc := [], rows := [], defs := [], M := M } { tmps := (rec.params.zip cargs).foldl (fun tmps (t, a) => tmps.setIfInBounds t a) rec.tmps, defers := [] } w := by
    refine ⟨?_, .nil, MM, hs, hsub, ?_, ?_, ?_, rfl, rfl⟩
    · rw [round_tmps, q5]
      exact roundT_rel _ hargs q4.avT
    · intro r o h
      split at h
      · rename_i hn
        exact ⟨h, by simpa using hn, fun b _ i tvs hi => by simp at hi, fun t _ i x hi => by simp at hi⟩
      · cases h
    · intro i tvs hi; simp at hi
    · intro i e sz n hi; simp at hi
  refine roundIn_of_wpIn trivial ?_
  rw [q6]
  have hpost : ∀ {E' blk rw st a1 w1 L'} {jump : Option Code} {st' : LoopState}, E.le E' → Rel B E' (fun r => if (M r).isNone then MM r else none) blk rw st a1 w1 → Below B w w1 → st.M (.b l) = some (.loop L') → (∃ M', M'.sub (st.M.set (.b l) (.loop { L' with state := st', pend := jump })) ∧ R (.ret (.bool jump.isNone)) M') → st' = (if jump.isNone then .ready else .done) →
      ∃ v w', (Instr.endRound l jump).run P w1 = .ok v w' ∧ CallPost B E M MM w R (.returned v) w' := by
    intro E' blk rw st a1 w1 L' jump st' hE hr hb hL ⟨M', hM', hR⟩ hst'
    obtain ⟨c1, g1, g2⟩ := hr.loop hL
    refine ⟨_, _, run_endRound jump g1, ?_⟩
    obtain ⟨hr', hb'⟩ := hr.othSet l _ (.loop { L' with state := st', pend := jump }) rfl rfl hL (.loop { c1 with state := if jump.isNone then .ready else .done, pending := jump }) (by
      obtain ⟨p1, p2, p3⟩ := g2
      exact ⟨hst'.symm, rfl, p3⟩)
    obtain ⟨MM', k1, k2, k3⟩ := hr'.finish hM'
    exact ⟨.ret (.bool jump.isNone), M', MM', E', hR, .bool _, hE, k1, k2, k3, hb.trans hb'⟩
  refine Code.wpIn_mono ?_ (h B E _ [] [] _ w hst)
  rintro e a1 w1 ⟨x, st1, E1, blk1, rw1, ⟨rfl, L', hL', hready, hbody⟩, hx, hE, hr1, hbw⟩
  cases e <;> try exact hx.elim
  obtain ⟨c1, g1, g2⟩ := hr1.loop hL'
  obtain ⟨p1, p2, p3⟩ := g2
  refine ⟨_, run_beginRound g1 (p1.trans hready), ?_⟩
  obtain ⟨hr2, hb2⟩ := hr1.othSet l _ (.loop { L' with state := .busy }) rfl rfl hL' (.loop { c1 with state := .busy }) ⟨rfl, p2, p3⟩
  rw [q7]
  refine Code.wpIn_mono ?_ (hbody B E1 _ blk1 rw1 _ _ hr2)
  rintro e a2 w2 ⟨x, st2, E2, blk2, rw2, hQ, hx, hE2, hr3, hbw2⟩
  cases e with
  | normal =>
    cases x <;> try exact hx.elim
    obtain ⟨L2, hL2, hM2⟩ := hQ
    exact hpost (jump := none) (hE.trans hE2) hr3 ((hbw.trans hb2).trans hbw2) hL2 hM2 rfl
  | ret =>
    cases x <;> try exact hx.elim
    obtain ⟨L2, hL2, hM2⟩ := hQ
    exact hpost (jump := some .ret) (hE.trans hE2) hr3 ((hbw.trans hb2).trans hbw2) hL2 hM2 rfl
  | exit id =>
    cases x <;> try exact hx.elim
    cases hx
    obtain ⟨L2, hL2, hM2⟩ := hQ
    exact hpost (jump := some (.exit id)) (hE.trans hE2) hr3 ((hbw.trans hb2).trans hbw2) hL2 hM2 rfl
  | panic chain => cases x <;> first | exact hx.elim | exact hQ.elim
  | goto l => cases x <;> exact hx.elim
  | outgrown => cases x <;> exact hx.elim

/-- What a call of yield turns to. -/
def YieldIs (P : Program) (o : Oper) (st : St) (l : Nat) (args : List AV) : Prop :=
  ∀ B E F blk rw a w, Rel B E F blk rw st a w → ∃ cargs : Array Value, (execOp a.eval o).run P w = (Instr.yield l cargs).run P w ∧ RepL E args cargs.toList

theorem AOps.yield {P : Program} {ops : Array Oper} {i : Nat} {rest : List Nat} {Q : AExit → St → Prop} {st : St} {o : Oper} {l : Nat} {args : List AV} (ho : ops[i]? = some o) (hg : o.guard = none)
    (hc : YieldIs P o st l args) (h : AYields P l args st.M fun x M' => match x with
      | .ret v => AOps ro P ops rest Q ({ st with M := M' }.put o.dst (.v v))
      | .panic v => Q (.panic v) { st with M := M' }) : AOps ro P ops (i :: rest) Q st := by
  intro B E F blk rw a w hr
  simp only [wpOpsIn, ho]
  rw [if_pos (by simp [Region.wanted, hg])]
  obtain ⟨cargs, hrun, hargs⟩ := hc B E F blk rw a w hr
  obtain ⟨MM, hm⟩ := hr.mem
  obtain ⟨fn, tmps, assign, body, hy, hround⟩ := h B E MM w cargs hm.sub hm.sim hargs
  rw [hy] at hrun
  refine uponIn_run hrun (by simp) ⟨fun e => by simp at e, (roundR hround).mono ?_⟩
  rintro e w' ⟨x, M', MM', E', hR, hx, hE, hsub, hfr, hs, hb⟩
  have hrel := Rel.called (a := a) hm hr.tmps hr.defs hE hsub hfr hs
  cases e with
  | returned c =>
    cases x with
    | ret v => exact wpOpsR_mono (fun e a' w'' ho => ho.weaken hE hb fun _ _ h => h) rest _ _ (hR B E' F blk rw _ w' (hrel.put o.dst hx))
    | panic v => exact hx.elim
  | panicked chain =>
    cases x with
    | ret v => exact hx.elim
    | panic v => exact ⟨.panic v, _, E', blk, rw, hR, hx, hE, hrel, hb⟩
  | outgrown => cases x <;> exact hx.elim

/-! The statement. -/
def loopM (st : St) (l d : Nat) (fn : FuncId) (ps : Array Tmp) (assign body : Code) : Mem :=
  (st.M.set (.b d) .defb).set (.b l) (.loop { state := .ready, pend := none, fn := fn, vs := st.tmps.map TV.av, ps := ps, assign := assign, body := body, d := d })

def jumpA (Q : AExit → St → Prop) : Option Code → St → Prop
  | none, st => Q .normal st
  | some .ret, st => Q .ret st
  | some (.exit id), st => Q (.exit id) st
  | _, _ => False

def loopR (Q : AExit → St → Prop) (st : St) (l d : Nat) : AEnd → Mem → Prop
  | .ret _, M' => ∃ L, M' (.b l) = some (.loop L) ∧ L.state ≠ .busy ∧ jumpA Q L.pend { st with M := M'.set (.b l) .dead, defs := .mark d :: st.defs }
  | .panic v, M' => Q (.panic v) { st with M := M', defs := .mark d :: st.defs }

theorem AWp.rangeFunc {P : Program} {g : Operand} {x : Opd} {ps : Array Tmp} {assign body : Code} {Q : AExit → St → Prop} {st : St} {f : FuncId} {first cap : List AV} (hx : IsOpd x g) (hg : st.get x = .v (.fn (.func f) first cap))
    (hbody : ∃ fn, P.funcs[f]? = some fn ∧ fn.body.isNone = false ∧ fn.name ≠ "runtime.NumGoroutine")
    (h : ∀ l d fn, st.M (.b l) = none → st.M (.b d) = none → l ≠ d → ACalls P f (first ++ [.fn (.yield l) [] []] ++ cap) (loopM st l d fn ps assign body) (loopR Q st l d)) :
    AWp none P (.rangeFunc g ps assign body) Q st := by
  intro B E F blk rw a w hr
  refine wpIn_rangeFunc fun fn _ => ?_
  obtain ⟨MM, hm⟩ := hr.mem
  obtain ⟨G, nr, hs⟩ := hm.sim
  have hv := hr.opd hx
  rw [hg] at hv
  obtain ⟨first', cap', e1, e2, e3⟩ := Rep.fn_inv hv
  have hnone1 : MM (.b w.heap.size) = none := hs.dom_none (Nat.le_refl _)
  have hs1 := hs.new_oth .defb (.deferred (some [])) rfl rfl
  have hm1 : RelM B E F blk rw st.loc st.rows (st.M.set (.b w.heap.size) .defb) (MM.set (.b w.heap.size) .defb) (w.alloc (.deferred (some []))) := hm.newM hnone1 ⟨_, _, hs1⟩
  have hsz : (w.alloc (.deferred (some []))).heap.size = w.heap.size + 1 := by simp
  have hnone2 : (MM.set (.b w.heap.size) .defb) (.b (w.heap.size + 1)) = none := hs1.dom_none (by omega)
  have hs2 := hs1.new_oth (.loop { state := .ready, pend := none, fn := fn, vs := st.tmps.map TV.av, ps := ps, assign := assign, body := body, d := w.heap.size }) (.loop { state := .ready, pending := none, fn := fn, tmps := a.tmps, params := ps, assign := assign, body := body, defers := w.heap.size }) rfl
    ⟨rfl, rfl, rfl, hr.tmps.av, rfl, rfl, rfl, rfl⟩
  rw [hsz] at hs2
  have hm2 := hm1.newM hnone2 ⟨_, _, hs2⟩
  have hb2 : Below B w ((w.alloc (.deferred (some []))).alloc (.loop { state := .ready, pending := none, fn := fn, tmps := a.tmps, params := ps, assign := assign, body := body, defers := w.heap.size })) :=
    ((Below.refl B w).alloc hs.base _).alloc (Nat.le_trans hs.base (by simp)) _
  have hMn : ∀ k, w.heap.size ≤ k → st.M (.b k) = none := fun k hk => by
    cases hc : st.M (.b k) with
    | none => rfl
    | some o => have := hm.sub _ _ hc; rw [hs.dom_none hk] at this; cases this
  obtain ⟨fn0, f1, f2, f3⟩ := hbody
  have f3' : (fn0.name == "runtime.NumGoroutine") = false := by simpa using f3
  have henter := run_enterLoop_outer (P := P) (w := w) fn a.tmps ps assign body
  generalize (w.alloc (.deferred (some []))).alloc (.loop { state := .ready, pending := none, fn := fn, tmps := a.tmps, params := ps, assign := assign, body := body, defers := w.heap.size }) = W1 at hs2 hm2 hb2 henter
  refine ⟨w.heap.size + 1, [{ target := .collected w.heap.size, args := #[] }], W1, { target := .fn (.func f) cap'.toArray, args := first'.toArray ++ #[.func (.yield (w.heap.size + 1)) #[] #[]] }, W1, f, first'.toArray ++ #[.func (.yield (w.heap.size + 1)) #[] #[]] ++ cap'.toArray, W1, henter, ?_, fun _ _ => trivial, ?_, fun e => by simp at e, ?_⟩
  · simp only [resolve, e1, Deferred.ofValue, Sem.run_bind, Sem.run_pure, Result.andThen_ok]
    simp [go_sem]
  · simp only [invoke, callFunc, Sem.run_bind, run_program, f1, Result.andThen_ok]
    simp [f2, f3']
  · have hcall := h (w.heap.size + 1) w.heap.size fn (hMn _ (by omega)) (hMn _ (Nat.le_refl _)) (by omega) B E _ _ (first'.toArray ++ #[.func (.yield (w.heap.size + 1)) #[] #[]] ++ cap'.toArray) hm2.sub hm2.sim (by simpa using (e2.append (RepL.cons _ _ _ _ (Rep.fn _ _ _ _ _ .nil .nil) .nil)).append e3)
    refine callsR (hcall.mono ?_)
    rintro e w' ⟨y, M', MM', E', hR, hy, hE, hsub, hfr, hs', hb⟩
    have hrel : Rel B E' F blk rw { st with M := M', defs := .mark w.heap.size :: st.defs } { a with defers := [{ target := .collected w.heap.size, args := #[] }] ++ a.defers } w' := by
      have hr0 := Rel.called (st := { st with M := loopM st (w.heap.size + 1) w.heap.size fn ps assign body }) (a := a) hm2 hr.tmps hr.defs hE hsub hfr hs'
      exact ⟨hr0.tmps, .cons _ _ _ _ rfl hr0.defs, hr0.mem⟩
    cases e with
    | returned c =>
      cases y with
      | panic v => exact hy.elim
      | ret v =>
        obtain ⟨L, hL, hbusy, hj⟩ := hR
        obtain ⟨c1, g1, g2⟩ := hrel.loop hL
        obtain ⟨p1, p2, p3⟩ := g2
        obtain ⟨hr3, hb3⟩ := hrel.othSet (w.heap.size + 1) _ .dead rfl rfl hL (.loop { c1 with state := .exhausted }) trivial
        have hend := run_endLoop (P := P) g1 (by rw [p1]; exact hbusy)
        generalize w'.putObj (w.heap.size + 1) (.loop { c1 with state := .exhausted }) = W4 at hr3 hb3 hend
        rw [p2] at hend
        refine ⟨_, _, hend, ?_⟩
        have hbb := (hb2.trans hb).trans hb3
        have here : ∀ x e, RelX E' x e → Q x { st with M := M'.set (.b (w.heap.size + 1)) .dead, defs := .mark w.heap.size :: st.defs } → Out B E F w Q e { a with defers := [{ target := .collected w.heap.size, args := #[] }] ++ a.defers } W4 :=
          fun x e hx hq => ⟨x, _, E', blk, rw, hq, hx, hE, hr3, hbb⟩
        cases hp : L.pend with
        | none => rw [hp] at hj; exact here .normal .normal trivial hj
        | some c =>
          rw [hp] at hj
          cases c <;> try exact hj.elim
          · exact wpIn_exit (here (.exit _) (.exit _) rfl hj)
          · exact wpIn_ret (here .ret .ret trivial hj)
    | panicked chain =>
      cases y with
      | ret v => exact hy.elim
      | panic v => exact ⟨.panic v, _, E', blk, rw, hR, hy, hE, hrel, hb2.trans hb⟩
    | outgrown => cases y <;> exact hy.elim

/-! A function with such loops leaves. -/
def kill : List Nat → Mem → Mem
  | [], M => M
  | d :: ds, M => kill ds (M.set (.b d) .dead)
def defbs : List Nat → Mem → Prop
  | [], _ => True
  | d :: ds, M => M (.b d) = some .defb ∧ defbs ds (M.set (.b d) .dead)

theorem kill_sub : ∀ (ds : List Nat) {M' M : Mem}, M'.sub M → (∀ d ∈ ds, M' (.b d) = none) → M'.sub (kill ds M)
  | [], M', M, h, _ => h
  | d :: ds, M', M, h, hn => kill_sub ds (h.set_new (hn d (by simp))) fun x hx => hn x (by simp [hx])

def FinM (P : Program) (fn : Func) (R : AEnd → Mem → Prop) : AExit → St → Prop
  | .normal, st | .ret, st => ∃ ds : List Nat, st.defs = ds.map .mark ∧ defbs ds st.M ∧ ∃ M1, M1.sub st.M ∧ (∀ d ∈ ds, M1 (.b d) = none) ∧ ∃ vs, ResL P fn.results.toList { st with M := M1, defs := [] } vs ∧ ∃ M', M'.sub M1 ∧ R (.ret (tupV vs)) M'
  | .panic v, st => ∃ ds : List Nat, st.defs = ds.map .mark ∧ defbs ds st.M ∧ ∃ M', M'.sub st.M ∧ (∀ d ∈ ds, M' (.b d) = none) ∧ R (.panic v) M'
  | _, _ => False

theorem Rel.less {B : Nat} {E : Env} {F : Mem} {blk rw : List Nat} {st : St} {a : Act} {w : World} {M' : Mem} (hr : Rel B E F blk rw st a w) (h : M'.sub st.M) : Rel B E F blk rw { st with M := M' } a w := by
  obtain ⟨MM, hm⟩ := hr.mem
  have hn : ∀ k, st.M k = none → M' k = none := fun k hk => by
    cases hc : M' k with
    | none => rfl
    | some o => rw [h k o hc] at hk; cases hk
  refine ⟨hr.tmps, hr.defs, MM, hm.sim, h.trans hm.sub, fun r o e => ?_, fun i tvs e => ?_, fun i e sz n he => ?_, hm.blen, hm.rlen⟩
  · obtain ⟨h1, h2, h3⟩ := hm.frame r o e
    exact ⟨h1, hn _ h2, h3⟩
  · obtain ⟨b, avs, h1, h2, h3, h4, h5⟩ := hm.locs i tvs e
    exact ⟨b, avs, h1, h2, h3, hn _ h4, h5⟩
  · obtain ⟨t, h1, h2, h3, h4⟩ := hm.rws i e sz n he
    exact ⟨t, h1, h2, hn _ h3, h4⟩

theorem leavesM {P : Program} {fn : Func} {R : Ending → World → Prop} {u : FrameMode} (hu : u ≠ .run) : ∀ (ds : List Nat) {B : Nat} {E : Env} {F : Mem} {blk rw : List Nat} {st : St} {a : Act} {w : World}, Rel B E F blk rw st a w → st.defs = ds.map .mark → defbs ds st.M →
    (∀ w', Rel B E F blk rw { st with M := kill ds st.M, defs := [] } { a with defers := [] } w' → Below B w w' → LeavesIn (wf none) 0 P fn a.tmps R [] u w') → LeavesInM (wf none) 0 P fn a.tmps R a.defers u w
  | [], B, E, F, blk, rw, st, a, w, hr, hd, hb, h => by
    have hdd := hr.defs
    rw [hd] at hdd
    rw [RelDL.nil_inv hdd]
    refine h w ⟨hr.tmps, .nil, hr.mem⟩ (Below.refl B w)
  | d :: ds, B, E, F, blk, rw, st, a, w, hr, hd, hb, h => by
    have hdd := hr.defs
    rw [hd] at hdd
    obtain ⟨tm, dfs⟩ := a
    cases hdd with
    | cons _ c _ cs h1 h2 =>
      cases h1
      obtain ⟨hb1, hb2⟩ := hb
      obtain ⟨hr', hbel⟩ := hr.othSet d .defb .dead rfl rfl hb1 (.deferred none) trivial
      obtain ⟨MM, hm⟩ := hr.mem
      obtain ⟨G, nr, hs⟩ := hm.sim
      obtain ⟨o, g1, g2⟩ := hs.mp d _ rfl (hm.sub _ _ hb1)
      cases o <;> try exact g2.elim
      cases g2
      refine ⟨hu, .inl ⟨d, _, rfl, run_takeDeferred g1, ?_⟩⟩
      have hr2 : Rel B E F blk rw { st with M := st.M.set (.b d) .dead, defs := ds.map .mark } { tmps := tm, defers := cs } (w.putObj d (.deferred none)) := ⟨hr'.tmps, h2, hr'.mem⟩
      exact leavesM hu ds hr2 rfl hb2 fun w' hrel hbw => h w' hrel (hbel.trans hbw)

theorem ACalls.of_wpM {P : Program} {f : FuncId} {fn : Func} {c : Code} {args : List AV} {M : Mem} {R : AEnd → Mem → Prop} (k : Nat) (hf : P.funcs[f]? = some fn) (hb : fn.body = some c) (hn : fn.ntmps - args.length = k)
    (h : AWp none P c (FinM P fn R) { tmps := args.map .v ++ List.replicate k .junk, loc := [], rows := [], defs := [], M := M }) : ACalls P f args M R := by
  intro B E MM w cargs hsub hs hargs
  have hlen : cargs.size = args.length := by have := hargs.length; simpa using this
  have hst := Rel.start hsub hs hargs k
  have hk : fn.ntmps - cargs.size = k := by rw [hlen]; exact hn
  refine callsIn_wide.1 (callsIn_of_wp_marks (F := wf none) (n := 0) hf hb trivial ?_ rfl)
  rw [hk]
  refine Code.wpIn_mono ?_ (h B E _ [] [] _ w hst)
  rintro e a1 w1 ⟨x, st1, E1, blk1, rw1, hQ, hx, hE, hr1, hbw⟩
  have hret : (∃ ds : List Nat, st1.defs = ds.map .mark ∧ defbs ds st1.M ∧ ∃ M2, M2.sub st1.M ∧ (∀ d ∈ ds, M2 (.b d) = none) ∧ ∃ vs, ResL P fn.results.toList { st1 with M := M2, defs := [] } vs ∧ ∃ M', M'.sub M2 ∧ R (.ret (tupV vs)) M') → LeavesInM (wf none) 0 P fn a1.tmps (CallPost B E M MM w R) a1.defers .returning w1 := by
    rintro ⟨ds, hds, hdb, M2, hM2, hnone, vs, hres, M', hM', hR⟩
    refine leavesM (by simp) ds hr1 hds hdb fun w' hrel hbw' => ?_
    have hrel' := hrel.less (M' := M2) (kill_sub ds hM2 hnone)
    obtain ⟨c, hc, hrep⟩ := results_run hres hrel'
    obtain ⟨MM', k1, k2, k3⟩ := hrel'.finish hM'
    exact ⟨c, hc, .ret (tupV vs), M', MM', E1, hR, hrep, hE, k1, k2, k3, hbw.trans hbw'⟩
  cases e with
  | normal => cases x <;> first | exact hx.elim | exact hret hQ
  | ret => cases x <;> first | exact hx.elim | exact hret hQ
  | panic chain =>
    cases x with
    | panic v =>
      obtain ⟨ds, hds, hdb, M', hM', hnone, hR⟩ := hQ
      refine leavesM (by simp) ds hr1 hds hdb fun w' hrel hbw' => ?_
      have hrel' := hrel.less (M' := M') (kill_sub ds hM' hnone)
      obtain ⟨MM', k1, k2, k3⟩ := hrel'.finish (Mem.sub.refl _)
      exact ⟨.panic v, M', MM', E1, hR, hx, hE, k1, k2, k3, hbw.trans hbw'⟩
    | _ => exact hx.elim
  | exit id => cases x <;> first | exact hx.elim | exact hQ.elim
  | goto l => cases x <;> exact hx.elim
  | outgrown => cases x <;> exact hx.elim

end Go.Am
