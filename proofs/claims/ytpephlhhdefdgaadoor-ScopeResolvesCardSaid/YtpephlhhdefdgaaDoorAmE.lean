/- Calls: contracts, entering a function, leaving it. -/
import Derived.Test.YtpephlhhdefdgaaDoorAmD
set_option linter.unusedSectionVars false
set_option linter.unusedVariables false
set_option linter.unusedSimpArgs false
namespace Go.Am
open Go.RowKit
variable [Inhabited LaidBox] {ro : Option Nat}

theorem RelDL.nil_inv {E : Env} {cs : List Deferred} (h : RelDL E [] cs) : cs = [] := by cases h; rfl

inductive AEnd where
  | ret (v : AV)
  | panic (v : AV)

def RelE (E : Env) : AEnd → Ending → Prop
  | .ret v, .returned c => Rep E v c
  | .panic v, .panicked chain => ∃ c, chain = [{ v := c, recovered := false }] ∧ Rep E v c
  | _, _ => False
theorem RelE.mono {E E' : Env} (hE : E.le E') {x : AEnd} {e : Ending} (h : RelE E x e) : RelE E' x e := by
  cases x <;> cases e <;> first | exact Rep.mono h hE | exact h.elim | (obtain ⟨c, h1, h2⟩ := h; exact ⟨c, h1, h2.mono hE⟩)

/-- What lies outside of a memory stays. -/
def Frames (M MM M' MM' : Mem) : Prop := ∀ r o, M r = none → MM r = some o → MM' r = some o ∧ M' r = none

def CallPost (B : Nat) (E : Env) (M MM : Mem) (w : World) (R : AEnd → Mem → Prop) : Ending → World → Prop := fun e w' =>
  ∃ x M' MM' E', R x M' ∧ RelE E' x e ∧ E.le E' ∧ M'.sub MM' ∧ Frames M MM M' MM' ∧ Sim B E' MM' w' ∧ Below B w w'

def ACalls (P : Program) (f : FuncId) (args : List AV) (M : Mem) (R : AEnd → Mem → Prop) : Prop :=
  ∀ B E MM w (cargs : Array Value), M.sub MM → Sim B E MM w → RepL E args cargs.toList → Calls P f cargs w (CallPost B E M MM w R)

theorem ACalls.mono {P : Program} {f : FuncId} {args : List AV} {M : Mem} {R R' : AEnd → Mem → Prop} (h : ACalls P f args M R) (hR : ∀ x M', R x M' → R' x M') : ACalls P f args M R' :=
  fun B E MM w cargs h1 h2 h3 => (h B E MM w cargs h1 h2 h3).mono fun e w' ⟨x, M', MM', E', k, rest⟩ => ⟨x, M', MM', E', hR _ _ k, rest⟩

/-! Values that may leave the function. -/
def TV.ext : TV → Option AV
  | .v x => some x
  | .lsl _ sz es => some (.sl .no sz es)
  | _ => none

theorem Rep.forget {E : Env} {own : Own} {sz : Nat} {es : List AV} {c : Value} (h : Rep E (.sl own sz es) c) : Rep E (.sl .no sz es) c := by
  cases h with
  | slnil _ _ h => exact .slnil _ _ fun t => by simp
  | slz _ a => exact .slz _ a
  | sl _ _ _ b o cap n hn h hcap hown => exact .sl _ _ _ b o cap n hn h hcap trivial

theorem RelV.ext {E : Env} {blk rw : List Nat} {x : TV} {c : Value} {v : AV} (h : RelV E blk rw x c) (hx : x.ext = some v) : Rep E v c := by
  cases x with
  | v x => cases hx; exact h
  | lsl i sz es => cases hx; obtain ⟨t, _, h⟩ := h; exact h.forget
  | _ => cases hx

def extL : List TV → Option (List AV)
  | [] => some []
  | x :: xs => match x.ext, extL xs with
    | some v, some vs => some (v :: vs)
    | _, _ => none

theorem RelVL.ext {E : Env} {blk rw : List Nat} : ∀ {xs : List TV} {cs : List Value} {vs : List AV}, RelVL E blk rw xs cs → extL xs = some vs → RepL E vs cs
  | _, _, _, .nil, h => by simp [extL] at h; subst h; exact .nil
  | _, _, vs, .cons x c xs cs h0 ht, h => by
    unfold extL at h
    split at h
    · rename_i v vs' hv hvs
      cases h
      exact .cons _ _ _ _ (h0.ext hv) (RelVL.ext ht hvs)
    · cases h

theorem RelTo.rel {E : Env} {blk rw : List Nat} : ∀ {xs : List TV} {vs : List AV} {cs : List Value}, RelTo blk rw xs vs → RepL E vs cs → RelVL E blk rw xs cs
  | _, _, _, .nil, .nil => .nil
  | _, _, _, .cons x v xs vs h ht, .cons _ c _ cs h' ht' => .cons x c xs cs (RelV.of_to h h') (RelTo.rel ht ht')

theorem RelVL.take {E : Env} {blk rw : List Nat} : ∀ {xs : List TV} {cs : List Value} (n : Nat), RelVL E blk rw xs cs → RelVL E blk rw (xs.take n) (cs.take n)
  | _, _, 0, _ => by simpa using RelVL.nil
  | _, _, n + 1, .nil => by simpa using RelVL.nil
  | _, _, n + 1, .cons v c vs cs h ht => .cons v c _ _ h (RelVL.take n ht)
theorem RelVL.drop {E : Env} {blk rw : List Nat} : ∀ {xs : List TV} {cs : List Value} (n : Nat), RelVL E blk rw xs cs → RelVL E blk rw (xs.drop n) (cs.drop n)
  | _, _, 0, h => by simpa using h
  | _, _, n + 1, .nil => by simpa using RelVL.nil
  | _, _, n + 1, .cons v c vs cs h ht => by simpa using RelVL.drop n ht

/-- A variable of the call's own. -/
theorem Rel.locAt {B : Nat} {E : Env} {F : Mem} {blk rw : List Nat} {st : St} {a : Act} {w : World} (hr : Rel B E F blk rw st a w) (i : Nat) (tvs : List TV) (h : st.loc[i]? = some (some tvs)) :
    ∃ b ccs ty, blk[i]? = some b ∧ w.heap[b]? = some (.cells ccs ty (0, 0)) ∧ RelVL E blk rw tvs ccs.toList := by
  obtain ⟨MM, hm⟩ := hr.mem
  obtain ⟨b, avs, h1, h2, h3, h4, h5⟩ := hm.locs i tvs h
  obtain ⟨G, nr, hs⟩ := hm.sim
  obtain ⟨_, _, _, ccs, ty, g4, g5⟩ := hs.obj b avs h2
  exact ⟨b, ccs, ty, h1, g4, h3.rel g5⟩

def pickL (agg : Bool) (n : Nat) (tvs : List TV) (off : Nat) : Option TV :=
  if off + n ≤ tvs.length then
    if agg then (extL ((tvs.drop off).take n)).map fun l => .v (.agg l)
    else if n = 1 then tvs[off]? else none
  else none

theorem run_load_loc {P : Program} {t : TypeId} {i : TI} (h : TIOk P t i) {B : Nat} {E : Env} {F : Mem} {blk rw : List Nat} {st : St} {a : Act} {w : World} (hr : Rel B E F blk rw st a w) (k off : Nat) (tvs : List TV) (hk : st.loc[k]? = some (some tvs)) (x : TV) (hx : pickL (isAggD i.desc) i.size tvs off = some x) :
    ∃ b c, blk[k]? = some b ∧ (Instr.loadAt t (.pointer (some ⟨b, off, none⟩))).run P w = .ok c w ∧ RelV E blk rw x c := by
  obtain ⟨b, ccs, ty, h1, h2, h3⟩ := hr.locAt k tvs hk
  have hlen := h3.length
  unfold pickL at hx
  split at hx
  · rename_i hfit
    have hd := (h3.drop off).take i.size
    have hdl : ((ccs.toList.drop off).take i.size).length = i.size := by simp only [List.length_take, List.length_drop]; omega
    have hcells : ∀ j c, ((ccs.toList.drop off).take i.size)[j]? = some c → w.cell? ⟨b, off + j, none⟩ = some c := by
      intro j c hj
      rw [List.getElem?_take] at hj
      split at hj
      · rw [List.getElem?_drop] at hj
        have := cells_of_row w b ccs ty _ h2 _ _ hj
        simpa using this
      · cases hj
    have hrun := run_loadVar_cells (P := P) w h b off _ hdl hcells
    split at hx
    · rename_i hagg
      rw [if_pos hagg] at hrun
      simp only [Option.map_eq_some_iff] at hx
      obtain ⟨l, hl, rfl⟩ := hx
      exact ⟨b, _, h1, by simpa [Instr.loadAt, Instr.sureAddr] using hrun, .agg _ _ (hd.ext hl)⟩
    · rename_i hagg
      split at hx
      · obtain ⟨c, hc1, hc2⟩ := h3.at off x hx
        have hcell : w.cell? ⟨b, off, none⟩ = some c := by
          have := cells_of_row w b ccs ty _ h2 off c hc1
          simpa using this
        rw [if_neg hagg, hcell] at hrun
        exact ⟨b, c, h1, by simpa [Instr.loadAt, Instr.sureAddr] using hrun, hc2⟩
      · cases hx
  · cases hx

theorem run_load_ext {P : Program} {t : TypeId} {i : TI} (h : TIOk P t i) {B : Nat} {E : Env} {F : Mem} {blk rw : List Nat} {st : St} {a : Act} {w : World} (hr : Rel B E F blk rw st a w) (r off : Nat) (cs : List AV) (hM : st.M (.b r) = some (.cells cs)) (v : AV) (hv : pickT (isAggD i.desc) i.size cs off = some v) :
    ∃ c, (Instr.loadAt t (.pointer (some ⟨r, off, none⟩))).run P w = .ok c w ∧ Rep E v c := by
  obtain ⟨MM, hm⟩ := hr.mem
  exact run_load_obj (P := P) w h hm.sim r off cs (hm.sub _ _ hM) v hv

/-! Results -/
def resRun (tmps : Array Value) (rv : ResultVar) : Sem Value :=
  match rv with
  | .tmp t => pure (tmps.getD t undef)
  | .cell p t => do loadVar t (← asAddr (tmps.getD p undef))
theorem results_eq (fn : Func) (tmps : Array Value) : results fn tmps = (do
    let vs ← fn.results.mapM (resRun tmps)
    pure (if h : vs.size = 1 then vs[0] else .tuple vs)) := by
  unfold results
  congr 1
/-- What a result variable holds. -/
def ResIs (P : Program) (rv : ResultVar) (st : St) (v : AV) : Prop :=
  ∀ B E F blk rw a w, Rel B E F blk rw st a w → ∃ c, (resRun a.tmps rv).run P w = .ok c w ∧ Rep E v c

theorem Rel.tmpAt {B : Nat} {E : Env} {F : Mem} {blk rw : List Nat} {st : St} {a : Act} {w : World} (hr : Rel B E F blk rw st a w) (t : Nat) : RelV E blk rw ((st.tmps[t]?).getD .junk) (a.tmps.getD t undef) := hr.opd (IsOpd.t t)

theorem ResIs.tmp {P : Program} {t : Nat} {st : St} {v : AV} (h : ((st.tmps[t]?).getD .junk).ext = some v) : ResIs P (.tmp t) st v :=
  fun B E F blk rw a w hr => ⟨_, rfl, (hr.tmpAt t).ext h⟩

theorem ResIs.cell {P : Program} {p : Nat} {t : TypeId} {i : TI} (hi : TIOk P t i) {st : St} {v : AV} {k off : Nat} {tvs : List TV} {x : TV} (hp : (st.tmps[p]?).getD .junk = .lptr k off) (hk : st.loc[k]? = some (some tvs)) (hx : pickL (isAggD i.desc) i.size tvs off = some x) (hv : x.ext = some v) : ResIs P (.cell p t) st v := by
  intro B E F blk rw a w hr
  have h1 := hr.tmpAt p
  rw [hp] at h1
  obtain ⟨b', hb', he⟩ := h1
  obtain ⟨b, c, hb, hrun, hc⟩ := run_load_loc hi hr k off tvs hk x hx
  rw [hb'] at hb; cases hb
  refine ⟨c, ?_, hc.ext hv⟩
  simp only [resRun, Sem.run_bind, he, asAddr, Sem.run_pure, Result.andThen_ok]
  simpa [Instr.loadAt, Instr.sureAddr] using hrun

theorem ResIs.cellM {P : Program} {p : Nat} {t : TypeId} {i : TI} (hi : TIOk P t i) {st : St} {v : AV} {r off : Nat} {cs : List AV} (hp : (st.tmps[p]?).getD .junk = .v (.ptr r off)) (hk : st.M (.b r) = some (.cells cs)) (hx : pickT (isAggD i.desc) i.size cs off = some v) : ResIs P (.cell p t) st v := by
  intro B E F blk rw a w hr
  have h1 := hr.tmpAt p
  rw [hp] at h1
  obtain ⟨c, hrun, hc⟩ := run_load_ext hi hr r off cs hk v hx
  refine ⟨c, ?_, hc⟩
  have he : a.tmps.getD p undef = .pointer (some ⟨r, off, none⟩) := by
    generalize a.tmps.getD p undef = y at h1
    cases h1; rfl
  simp only [resRun, Sem.run_bind, he, asAddr, Sem.run_pure, Result.andThen_ok]
  simpa [Instr.loadAt, Instr.sureAddr] using hrun

inductive ResL (P : Program) : List ResultVar → St → List AV → Prop where
  | nil (st : St) : ResL P [] st []
  | cons (rv : ResultVar) (rvs : List ResultVar) (st : St) (v : AV) (vs : List AV) (h : ResIs P rv st v) (ht : ResL P rvs st vs) : ResL P (rv :: rvs) st (v :: vs)

theorem ResL.run {P : Program} : ∀ {rvs : List ResultVar} {st : St} {vs : List AV}, ResL P rvs st vs → ∀ B E F blk rw a w, Rel B E F blk rw st a w →
    ∃ cs, (rvs.mapM (resRun a.tmps)).run P w = .ok cs w ∧ RepL E vs cs
  | _, _, _, .nil st, B, E, F, blk, rw, a, w, hr => ⟨[], by simp, .nil⟩
  | _, _, _, .cons rv rvs st v vs h ht, B, E, F, blk, rw, a, w, hr => by
    obtain ⟨c, h1, h2⟩ := h B E F blk rw a w hr
    obtain ⟨cs, h3, h4⟩ := ResL.run ht B E F blk rw a w hr
    refine ⟨c :: cs, ?_, .cons _ _ _ _ h2 h4⟩
    simp only [List.mapM_cons, Sem.run_bind, h1, h3, Result.andThen_ok, Sem.run_pure]

def tupV : List AV → AV
  | [v] => v
  | vs => .tup vs

theorem results_run {P : Program} {fn : Func} {st : St} {vs : List AV} (h : ResL P fn.results.toList st vs) {B : Nat} {E : Env} {F : Mem} {blk rw : List Nat} {a : Act} {w : World} (hr : Rel B E F blk rw st a w) :
    ∃ c, (results fn a.tmps).run P w = .ok c w ∧ Rep E (tupV vs) c := by
  obtain ⟨cs, h1, h2⟩ := h.run B E F blk rw a w hr
  have hlen := h2.length
  have hm : (fn.results.mapM (resRun a.tmps)).run P w = .ok cs.toArray w := by
    rw [Array.mapM_eq_mapM_toList]
    simp only [Sem.run_map, h1, Result.andThen_ok]
  rw [results_eq]
  simp only [Sem.run_bind, hm, Result.andThen_ok]
  cases vs with
  | nil =>
    cases h2
    exact ⟨_, rfl, .tup _ _ .nil⟩
  | cons v vs =>
    cases vs with
    | nil =>
      obtain ⟨c, rfl, hc⟩ := h2.one_inv
      exact ⟨c, rfl, hc⟩
    | cons v' vs' =>
      have hne : ¬ cs.toArray.size = 1 := by simp [hlen]
      refine ⟨.tuple cs.toArray, ?_, .tup _ _ h2⟩
      rw [dif_neg hne]
      rfl

/-! Entering a function. -/
theorem Rel.start {B : Nat} {E : Env} {M MM : Mem} {w : World} {args : List AV} {cargs : Array Value} (hsub : M.sub MM) (hs : Sim B E MM w) (hargs : RepL E args cargs.toList) (k : Nat) :
    Rel B E (fun r => if (M r).isNone then MM r else none) [] [] { tmps := args.map .v ++ List.replicate k .junk, loc := [], rows := [], defs := [], M := M } { tmps := cargs ++ Array.replicate k undef, defers := [] } w := by
  refine ⟨?_, .nil, MM, hs, hsub, ?_, ?_, ?_, rfl, rfl⟩
  · simpa using (RelVL.of_reps (blk := []) (rw := []) hargs).append (RelVL.junk E [] [] k undef)
  · intro r o h
    split at h
    · rename_i hn
      exact ⟨h, by simpa using hn, fun b _ i tvs hi => by simp at hi, fun t _ i x hi => by simp at hi⟩
    · cases h
  · intro i tvs hi; simp at hi
  · intro i e sz n hi; simp at hi

/-- Behind the body of a function without deferred calls. -/
def Fin (P : Program) (fn : Func) (R : AEnd → Mem → Prop) : AExit → St → Prop
  | .normal, st | .ret, st => st.defs = [] ∧ ∃ vs, ResL P fn.results.toList st vs ∧ ∃ M', M'.sub st.M ∧ R (.ret (tupV vs)) M'
  | .panic v, st => st.defs = [] ∧ ∃ M', M'.sub st.M ∧ R (.panic v) M'
  | _, _ => False

theorem Rel.finish {B : Nat} {E' : Env} {M MM M' : Mem} {w' : World} {blk rw : List Nat} {st : St} {a : Act} (hr : Rel B E' (fun r => if (M r).isNone then MM r else none) blk rw st a w') (hM' : M'.sub st.M) :
    ∃ MM', M'.sub MM' ∧ Frames M MM M' MM' ∧ Sim B E' MM' w' := by
  obtain ⟨MM', hm⟩ := hr.mem
  refine ⟨MM', hM'.trans hm.sub, ?_, hm.sim⟩
  intro r o h1 h2
  obtain ⟨k1, k2, _⟩ := hm.frame r o (by simp [h1, h2])
  refine ⟨k1, ?_⟩
  cases hr' : M' r with
  | none => rfl
  | some o' => rw [hM' r o' hr'] at k2; cases k2

theorem ACalls.of_wp {P : Program} {f : FuncId} {fn : Func} {c : Code} {args : List AV} {M : Mem} {R : AEnd → Mem → Prop} (k : Nat) (hf : P.funcs[f]? = some fn) (hb : fn.body = some c) (hn : fn.ntmps - args.length = k)
    (h : AWp none P c (Fin P fn R) { tmps := args.map .v ++ List.replicate k .junk, loc := [], rows := [], defs := [], M := M }) : ACalls P f args M R := by
  intro B E MM w cargs hsub hs hargs
  have hlen : cargs.size = args.length := by have := hargs.length; simpa using this
  have hst := Rel.start hsub hs hargs k
  refine calls_of_wp hf hb ((wpIn_wide (n := 0)).1 ?_)
  have hk : fn.ntmps - cargs.size = k := by rw [hlen]; exact hn
  rw [hk]
  refine Code.wpIn_mono ?_ (h B E _ [] [] _ w hst)
  rintro e a1 w1 ⟨x, st1, E1, blk1, rw1, hQ, hx, hE, hr1, hbw⟩
  cases e with
  | normal =>
    cases x with
    | normal =>
      obtain ⟨hd, vs, hres, M', hM', hR⟩ := hQ
      obtain ⟨c, hc, hrep⟩ := results_run hres hr1
      obtain ⟨MM', k1, k2, k3⟩ := hr1.finish hM'
      have hdef := hr1.defs
      rw [hd] at hdef
      exact ⟨hdef.nil_inv, c, hc, .ret (tupV vs), M', MM', E1, hR, hrep, hE, k1, k2, k3, hbw⟩
    | _ => exact hx.elim
  | ret =>
    cases x with
    | ret =>
      obtain ⟨hd, vs, hres, M', hM', hR⟩ := hQ
      obtain ⟨c, hc, hrep⟩ := results_run hres hr1
      obtain ⟨MM', k1, k2, k3⟩ := hr1.finish hM'
      have hdef := hr1.defs
      rw [hd] at hdef
      exact ⟨hdef.nil_inv, c, hc, .ret (tupV vs), M', MM', E1, hR, hrep, hE, k1, k2, k3, hbw⟩
    | _ => exact hx.elim
  | panic chain =>
    cases x with
    | panic v =>
      obtain ⟨hd, M', hM', hR⟩ := hQ
      obtain ⟨MM', k1, k2, k3⟩ := hr1.finish hM'
      have hdef := hr1.defs
      rw [hd] at hdef
      exact ⟨hdef.nil_inv, .panic v, M', MM', E1, hR, hx, hE, k1, k2, k3, hbw⟩
    | _ => exact hx.elim
  | exit id => cases x <;> first | exact hx.elim | exact hQ.elim
  | goto l => cases x <;> exact hx.elim
  | outgrown => cases x <;> exact hx.elim

/-! A call in a region. -/
/-- What a call turns to: a function with its arguments. -/
def CallIs (P : Program) (o : Oper) (st : St) (f : FuncId) (args : List AV) : Prop :=
  ∀ B E F blk rw a w, Rel B E F blk rw st a w → ∃ cargs : Array Value, (execOp a.eval o).run P w = .ok (.enter f cargs) w ∧ RepL E args cargs.toList

theorem Rel.called {B : Nat} {E E' : Env} {F : Mem} {blk rw : List Nat} {st : St} {a : Act} {w w' : World} {MM MM' M' : Mem} (hr : RelM B E F blk rw st.loc st.rows st.M MM w) (ht : RelVL E blk rw st.tmps a.tmps.toList) (hd : RelDL E st.defs a.defers)
    (hE : E.le E') (hsub : M'.sub MM') (hfr : Frames st.M MM M' MM') (hs : Sim B E' MM' w') : Rel B E' F blk rw { st with M := M' } a w' := by
  refine ⟨ht.mono hE (Pre.refl _) (Pre.refl _), hd.mono hE, MM', hs, hsub, ?_, ?_, ?_, hr.blen, hr.rlen⟩
  · intro r o h
    obtain ⟨h1, h2, h3, h4⟩ := hr.frame r o h
    obtain ⟨k1, k2⟩ := hfr r o h2 h1
    exact ⟨k1, k2, h3, h4⟩
  · intro i tvs h
    obtain ⟨b, avs, h1, h2, h3, h4, h5⟩ := hr.locs i tvs h
    obtain ⟨k1, k2⟩ := hfr (.b b) _ h4 h2
    exact ⟨b, avs, h1, k1, h3, k2, h5⟩
  · intro i e sz n h
    obtain ⟨t, h1, h2, h3, h4⟩ := hr.rws i e sz n h
    obtain ⟨k1, k2⟩ := hfr (.w t) _ h3 h2
    exact ⟨t, h1, k1, k2, h4⟩

theorem AOps.call {P : Program} {ops : Array Oper} {i : Nat} {rest : List Nat} {Q : AExit → St → Prop} {st : St} {o : Oper} {f : FuncId} {args : List AV} (ho : ops[i]? = some o) (hg : o.guard = none)
    (hc : CallIs P o st f args) (h : ACalls P f args st.M fun x M' => match x with
      | .ret v => AOps ro P ops rest Q ({ st with M := M' }.put o.dst (.v v))
      | .panic v => Q (.panic v) { st with M := M' }) : AOps ro P ops (i :: rest) Q st := by
  intro B E F blk rw a w hr
  simp only [wpOpsIn, ho]
  rw [if_pos (by simp [Region.wanted, hg])]
  obtain ⟨cargs, hrun, hargs⟩ := hc B E F blk rw a w hr
  obtain ⟨MM, hm⟩ := hr.mem
  refine uponIn_run hrun (by simp) ⟨fun e => by simp at e, callsR ((h B E MM w cargs hm.sub hm.sim hargs).mono ?_)⟩
  rintro e w' ⟨x, M', MM', E', hR, hx, hE, hsub, hfr, hs, hb⟩
  have hrel := Rel.called (a := a) hm hr.tmps hr.defs hE hsub hfr hs
  cases e with
  | returned c =>
    cases x with
    | ret v => exact wpOpsR_mono (fun e a' w'' ho => ho.weaken hE hb fun _ _ h => h) rest _ _ (hR B E' F blk rw _ w' (hrel.put o.dst hx))
    | panic v => exact hx.elim
  | panicked chain =>
    cases x with
    | ret v => exact hx.elim
    | panic v => exact ⟨.panic v, _, E', blk, rw, hR, hx, hE, hrel, hb⟩
  | outgrown => cases x <;> exact hx.elim

end Go.Am
