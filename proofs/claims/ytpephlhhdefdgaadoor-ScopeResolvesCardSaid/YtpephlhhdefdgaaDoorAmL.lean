/- The evaluation of regions and of code in the resolved form. -/
import Derived.Test.YtpephlhhdefdgaaDoorAmP
set_option linter.unusedSectionVars false
set_option linter.unusedVariables false
set_option linter.unusedSimpArgs false
namespace Go.Am
open Go.RowKit
variable [Inhabited LaidBox] {ro : Option Nat}

/-! Lists of operations. -/
def CompL (T : TT) (esc : List Nat) (ops : Array Oper) : List Nat → List COp → Prop
  | [], [] => True
  | i :: is, c :: cs => (∃ o, ops[i]? = some o ∧ compOp T esc ops o = c) ∧ CompL T esc ops is cs
  | _, _ => False

def COps (ro : Option Nat) (P : Program) (T : TT) (esc : List Nat) (cs : List COp) (Q : AExit → St → Prop) (st : St) : Prop :=
  ∀ ops idxs, CompL T esc ops idxs cs → AOps ro P ops idxs Q st

def evalC (ro : Option Nat) (P : Program) (T : TT) (esc : List Nat) (Q : AExit → St → Prop) : List COp → St → Prop
  | [], st => Q .normal st
  | c :: cs, st =>
    match c.grd with
    | none =>
      match c.k with
      | .alS ty zero => ∀ r, st.M (.b r) = none → evalC ro P T esc Q cs ({ st with M := st.M.set (.b r) (.cells zero) }.put c.dst (.v (.ptr r 0)))
      | .mm => ∀ r, st.M (.b r) = none → evalC ro P T esc Q cs ({ st with M := st.M.set (.b r) (.map []) }.put c.dst (.v (.map r)))
      | .bxS ty x =>
        match rd true (st.get x) with
        | some (v, p) => p ∧ (∀ y ∈ v.cells, y.one = true) ∧ ∀ r, st.M (.b r) = none → evalC ro P T esc Q cs ({ st with M := st.M.set (.b r) (.cells v.cells) }.put c.dst (.v (.ptr r 0)))
        | none => COps ro P T esc (c :: cs) Q st
      | k =>
        match pev k true st with
        | some (x, p) => p ∧ evalC ro P T esc Q cs (st.put c.dst x)
        | none =>
          match eff k st with
          | some (st1, x, p) => p ∧ evalC ro P T esc Q cs (st1.put c.dst x)
          | none =>
            match effA k st with
            | some (st1, x, p) => p ∧ evalC ro P T esc Q cs (st1.put c.dst x)
            | none => COps ro P T esc (c :: cs) Q st
    | some (d, want) =>
      match gval st d want with
      | some g =>
        match pev c.k g st with
        | some (x, p) => (g = true → p) ∧ evalC ro P T esc Q cs (st.put c.dst (.opt g x))
        | none => COps ro P T esc (c :: cs) Q st
      | none => COps ro P T esc (c :: cs) Q st

section
variable {P : Program} {T : TT} {esc : List Nat} {Q : AExit → St → Prop} {st : St}

theorem CompL.cons {ops : Array Oper} {idxs : List Nat} {c : COp} {cs : List COp} (h : CompL T esc ops idxs (c :: cs)) : ∃ i is o, idxs = i :: is ∧ ops[i]? = some o ∧ compOp T esc ops o = c ∧ CompL T esc ops is cs := by
  cases idxs with
  | nil => exact h.elim
  | cons i is =>
    obtain ⟨⟨o, h1, h2⟩, h3⟩ := h
    exact ⟨i, is, o, rfl, h1, h2, h3⟩

theorem COps.nil (h : Q .normal st) : COps ro P T esc [] Q st := by
  intro ops idxs hc
  cases idxs with
  | nil => exact AOps.nil h
  | cons i is => exact hc.elim

theorem pev_other {o : Oper} {g : Bool} : pev (.other o) g st = none := rfl
theorem eff_other {o : Oper} : eff (.other o) st = none := rfl

theorem pev_rd_mono {k : CK} {g : Bool} (hg : g = true) : pev k g st = pev k true st := by rw [hg]

theorem compK_mm {o : Oper} (k3 : compK T esc o = some .mm) : ∃ t, o.op = .makeMap t none := by
  cases ho : o.op with
  | call c =>
    exfalso
    simp only [compK, ho] at k3
    repeat' (split at k3)
    all_goals first | (cases k3; done) | (simp at k3; done)
  | binOp op t x y t' =>
    exfalso
    simp only [compK, ho] at k3
    repeat' (split at k3)
    all_goals first | (cases k3; done) | (simp at k3; done)
  | unOp op t x => cases op <;> simp [compK, ho] at k3
  | slice t x lo hi mx =>
    exfalso
    cases mx <;> simp only [compK, ho, reduceCtorEq] at k3
    repeat' (split at k3)
    all_goals first | (cases k3; done) | (simp at k3; done)
  | makeMap t r =>
    cases r with
    | none => exact ⟨t, rfl⟩
    | some r => simp [compK, ho] at k3
  | box t x =>
    exfalso
    simp only [compK, ho] at k3
    split at k3
    · simp only [Option.map_eq_some_iff] at k3
      obtain ⟨_, _, k3⟩ := k3
      split at k3 <;> cases k3
    · cases k3
  | alloc t =>
    exfalso
    simp only [compK, ho] at k3
    split at k3
    · split at k3
      · simp only [Option.some.injEq] at k3
        split at k3 <;> cases k3
      · cases k3
    · cases k3
  | _ =>
    exfalso
    simp only [compK, ho, reduceCtorEq] at k3
    try (repeat' (split at k3))
    all_goals first | (cases k3; done) | (simp at k3; done)

/-- A new map. -/
theorem AOps.namedMap {ops : Array Oper} {i : Nat} {rest : List Nat} {Q : AExit → St → Prop} {o : Oper} (ho : ops[i]? = some o) (hg : o.guard = none) (hmm : ∃ t, o.op = .makeMap t none)
    (h : ∀ r, st.M (.b r) = none → AOps ro P ops rest Q ({ st with M := st.M.set (.b r) (.map []) }.put o.dst (.v (.map r)))) : AOps ro P ops (i :: rest) Q st := by
  intro B E F blk rw a w hr
  simp only [wpOpsIn, ho]
  rw [if_pos (by simp [Region.wanted, hg])]
  obtain ⟨t, hop⟩ := hmm
  obtain ⟨MM, hm⟩ := hr.mem
  obtain ⟨G, nr, hs⟩ := hm.sim
  have hnone : MM (.b w.heap.size) = none := hs.dom_none (Nat.le_refl _)
  have hM : st.M (.b w.heap.size) = none := by
    cases h : st.M (.b w.heap.size) with
    | none => rfl
    | some x => rw [hm.sub _ x h] at hnone; cases hnone
  have hrun : (execOp a.eval o).run P w = .ok (.value (.map (some w.heap.size))) (w.alloc (.map #[] 0)) := by
    simp only [execOp, hop]
    simp [Instr.makeMap]
  have hb := (Below.refl B w).alloc hs.base (.map #[] 0)
  have hrel : Rel B E F blk rw { st with M := st.M.set (.b w.heap.size) (.map []) } a (w.alloc (.map #[] 0)) := ⟨hr.tmps, hr.defs, _, hm.newM hnone ⟨_, _, hs.new_map⟩⟩
  refine uponIn_run hrun (by simp) ?_
  exact wpOpsR_mono (fun e a' w'' ho => ho.weaken (Env.le.refl E) hb fun _ _ h => h) rest _ _ (h w.heap.size hM B E F blk rw _ _ (hrel.put o.dst (Rep.map _)))

theorem evalC_sound (hT : TTOk P T) : ∀ (cs : List COp) (st : St), evalC ro P T esc Q cs st → COps ro P T esc cs Q st
  | [], st, h => COps.nil h
  | c :: cs, st, h => by
    unfold evalC at h
    split at h
    · rename_i hgr
      split at h
      · rename_i ty zero hk
        intro ops idxs hc
        obtain ⟨i, is, o, rfl, h1, h2, h3⟩ := hc.cons
        obtain ⟨k1, k2, k3⟩ := compOp_inv h2 (by rw [hk]; simp)
        rw [hgr] at k2
        rw [hk] at k3
        have hal : ∃ t j, o.op = .alloc t ∧ TIOk P t j ∧ zero = j.zero.cells := by
          cases ho : o.op with
          | alloc t =>
            simp only [compK, ho] at k3
            split at k3
            · rename_i j hj
              split at k3
              · simp only [Option.some.injEq] at k3
                split at k3
                · cases k3; exact ⟨_, j, rfl, hT _ _ hj, rfl⟩
                · cases k3
              · cases k3
            · cases k3
          | binOp op t x y t' =>
            exfalso
            simp only [compK, ho] at k3
            repeat' (split at k3)
            all_goals first | (cases k3; done) | (simp at k3; done)
          | unOp op t x => cases op <;> simp [compK, ho] at k3
          | slice t x lo hi mx =>
            exfalso
            cases mx <;> simp only [compK, ho, reduceCtorEq] at k3
            repeat' (split at k3)
            all_goals first | (cases k3; done) | (simp at k3; done)
          | makeMap t r =>
            exfalso
            cases r <;> simp only [compK, ho, reduceCtorEq] at k3
            repeat' (split at k3)
            all_goals first | (cases k3; done)
          | box t x =>
            exfalso
            simp only [compK, ho] at k3
            split at k3
            · simp only [Option.map_eq_some_iff] at k3
              obtain ⟨_, _, k3⟩ := k3
              split at k3 <;> cases k3
            · cases k3
          | _ =>
            exfalso
            simp only [compK, ho, reduceCtorEq] at k3
            try (repeat' (split at k3))
            all_goals first | (cases k3; done) | (simp at k3; done)
        obtain ⟨t, j, ho, hj, rfl⟩ := hal
        refine AOps.named h1 (compG_none k2) (run_alS ho hj) fun r hr => ?_
        rw [← k1]
        exact evalC_sound hT cs _ (h r hr) ops is h3
      · rename_i hk
        intro ops idxs hc
        obtain ⟨i, is, o, rfl, h1, h2, h3⟩ := hc.cons
        obtain ⟨k1, k2, k3⟩ := compOp_inv h2 (by rw [hk]; simp)
        rw [hgr] at k2
        rw [hk] at k3
        refine AOps.namedMap h1 (compG_none k2) (compK_mm k3) fun r hr => ?_
        rw [← k1]
        exact evalC_sound hT cs _ (h r hr) ops is h3
      · rename_i ty x hk
        split at h
        · rename_i v p hrd
          obtain ⟨hp, hone, h⟩ := h
          intro ops idxs hc
          obtain ⟨i, is, o, rfl, h1, h2, h3⟩ := hc.cons
          obtain ⟨k1, k2, k3⟩ := compOp_inv h2 (by rw [hk]; simp)
          rw [hgr] at k2
          rw [hk] at k3
          have hbx : ∃ t x', o.op = .box t x' ∧ IsOpd x x' := by
            cases ho : o.op with
            | box t x' =>
              simp only [compK, ho] at k3
              split at k3
              · simp only [Option.map_eq_some_iff] at k3
                obtain ⟨x1, hx1, k3⟩ := k3
                split at k3
                · cases k3; exact ⟨_, x', rfl, cX_is hx1⟩
                · cases k3
              · cases k3
            | alloc t =>
              exfalso
              simp only [compK, ho] at k3
              split at k3
              · split at k3
                · simp only [Option.some.injEq] at k3
                  split at k3 <;> cases k3
                · cases k3
              · cases k3
            | binOp op t x y t' =>
              exfalso
              simp only [compK, ho] at k3
              repeat' (split at k3)
              all_goals first | (cases k3; done) | (simp at k3; done)
            | unOp op t x => cases op <;> simp [compK, ho] at k3
            | slice t x lo hi mx =>
              exfalso
              cases mx <;> simp only [compK, ho, reduceCtorEq] at k3
              repeat' (split at k3)
              all_goals first | (cases k3; done) | (simp at k3; done)
            | makeMap t r =>
              exfalso
              cases r <;> simp only [compK, ho, reduceCtorEq] at k3
              repeat' (split at k3)
              all_goals first | (cases k3; done)
            | _ =>
              exfalso
              simp only [compK, ho, reduceCtorEq] at k3
              try (repeat' (split at k3))
              all_goals first | (cases k3; done) | (simp at k3; done)
          obtain ⟨t, x', ho, hx⟩ := hbx
          refine AOps.named h1 (compG_none k2) (run_bxS ho hx hrd hp hone) fun r hr => ?_
          rw [← k1]
          exact evalC_sound hT cs _ (h r hr) ops is h3
        · exact h
      · split at h
        · rename_i x p hpev
          obtain ⟨hp, h⟩ := h
          intro ops idxs hc
          obtain ⟨i, is, o, rfl, h1, h2, h3⟩ := hc.cons
          obtain ⟨k1, k2, k3⟩ := compOp_inv h2 (by intro o' e; rw [e] at hpev; cases hpev)
          rw [hgr] at k2
          refine AOps.value h1 (compG_none k2) (pev_ok hT k3 hpev hp) ?_
          rw [← k1]
          exact evalC_sound hT cs _ h ops is h3
        · split at h
          · rename_i st1 x p heff
            obtain ⟨hp, h⟩ := h
            intro ops idxs hc
            obtain ⟨i, is, o, rfl, h1, h2, h3⟩ := hc.cons
            obtain ⟨k1, k2, k3⟩ := compOp_inv h2 (by intro o' e; rw [e] at heff; cases heff)
            rw [hgr] at k2
            refine AOps.value h1 (compG_none k2) (eff_ok hT k3 heff hp) ?_
            rw [← k1]
            exact evalC_sound hT cs _ h ops is h3
          · split at h
            · rename_i st1 x p heff
              obtain ⟨hp, h⟩ := h
              intro ops idxs hc
              obtain ⟨i, is, o, rfl, h1, h2, h3⟩ := hc.cons
              obtain ⟨k1, k2, k3⟩ := compOp_inv h2 (by intro o' e; rw [e] at heff; cases heff)
              rw [hgr] at k2
              refine AOps.value h1 (compG_none k2) (effA_ok hT k3 heff hp) ?_
              rw [← k1]
              exact evalC_sound hT cs _ h ops is h3
            · exact h
    · rename_i d want hgr
      split at h
      · rename_i g hgv
        split at h
        · rename_i x p hpev
          obtain ⟨hp, h⟩ := h
          intro ops idxs hc
          obtain ⟨i, is, o, rfl, h1, h2, h3⟩ := hc.cons
          obtain ⟨k1, k2, k3⟩ := compOp_inv h2 (by intro o' e; rw [e] at hpev; cases hpev)
          rw [hgr] at k2
          refine AOps.guarded h1 (gval_ok k2 hgv) (fun hgt => pev_ok hT k3 (by rw [← hgt]; exact hpev) (hp hgt)) ?_
          rw [← k1]
          exact evalC_sound hT cs _ h ops is h3
        · exact h
      · exact h
end

/-! Code. -/
inductive CC where
  | skip
  | reg (draw : Bool) (ops : List COp)
  | dreg (cs : List COp) (pr : List (List Nat))
  | seq (a b : CC)
  | cond (x : Opd) (a b : CC)
  | block (id : Nat) (a : CC)
  | loop (a : CC)
  | rangeF (x : Opd) (ps : Array Tmp) (a b : CC)
  | exit (id : Nat)
  | ret
  | other (c : Code)

def comp (T : TT) (esc : List Nat) : Code → CC
  | .skip => .skip
  | .region _ ops true => .dreg (ops.toList.map (compOp T esc ops)) (ops.toList.map fun o => (o.after.toList.filter (Region.binds .any)).map (·.on))
  | .region _ ops false => .reg false (ops.toList.map (compOp T esc ops))
  | .seq a b => .seq (comp T esc a) (comp T esc b)
  | .cond c a b => match cX T 0 c with
    | some x => .cond x (comp T esc a) (comp T esc b)
    | none => .other (.cond c a b)
  | .block id a => .block id (comp T esc a)
  | .loop a => .loop (comp T esc a)
  | .rangeFunc g ps a b => match cX T 0 g with
    | some x => .rangeF x ps (comp T esc a) (comp T esc b)
    | none => .other (.rangeFunc g ps a b)
  | .exit id => .exit id
  | .ret => .ret
  | c => .other c

def CWp (ro : Option Nat) (P : Program) (T : TT) (esc : List Nat) (cc : CC) (Q : AExit → St → Prop) (st : St) : Prop := ∀ c, comp T esc c = cc → AWp ro P c Q st
def CLoop (ro : Option Nat) (P : Program) (T : TT) (esc : List Nat) (cc : CC) (Q : AExit → St → Prop) (st : St) : Prop := ∀ c, comp T esc c = cc → ALoop ro P c Q st

section
variable {P : Program} {T : TT} {esc : List Nat} {Q : AExit → St → Prop} {st : St}

theorem CompL.all (ops : Array Oper) : ∀ (l : List Oper) (k : Nat), (∀ (j : Nat) o, l[j]? = some o → ops[k + j]? = some o) → CompL T esc ops (List.range' k l.length) (l.map (compOp T esc ops))
  | [], k, h => trivial
  | o :: l, k, h => by
    simp only [List.length_cons, List.range'_succ, List.map_cons]
    exact ⟨⟨o, by simpa using h 0 o (by simp), rfl⟩, CompL.all ops l (k + 1) fun j o' hj => by
      have := h (j + 1) o' (by simpa using hj)
      rwa [show k + 1 + j = k + (j + 1) by omega]⟩

theorem CWp.skip (h : Q .normal st) : CWp ro P T esc .skip Q st := by
  intro c hc
  cases c with
  | skip => exact AWp.skip h
  | cond x a b => simp only [comp] at hc; split at hc <;> cases hc
  | rangeFunc g ps a b => simp only [comp] at hc; split at hc <;> cases hc
  | region id ops draw => cases draw <;> cases hc
  | _ => cases hc
theorem CWp.ret (h : Q .ret st) : CWp ro P T esc .ret Q st := by
  intro c hc
  cases c with
  | ret => exact AWp.ret h
  | cond x a b => simp only [comp] at hc; split at hc <;> cases hc
  | rangeFunc g ps a b => simp only [comp] at hc; split at hc <;> cases hc
  | region id ops draw => cases draw <;> cases hc
  | _ => cases hc
theorem CWp.exit {id : Nat} (h : Q (.exit id) st) : CWp ro P T esc (.exit id) Q st := by
  intro c hc
  cases c with
  | exit id => cases hc; exact AWp.exit h
  | cond x a b => simp only [comp] at hc; split at hc <;> cases hc
  | rangeFunc g ps a b => simp only [comp] at hc; split at hc <;> cases hc
  | region id ops draw => cases draw <;> cases hc
  | _ => cases hc
theorem CWp.seq {a b : CC} (h : CWp ro P T esc a (thenA (CWp ro P T esc b Q) Q) st) : CWp ro P T esc (.seq a b) Q st := by
  intro c hc
  cases c with
  | seq x y =>
    cases hc
    refine AWp.seq ((h x rfl).mono ?_)
    intro e st' hq
    cases e with
    | normal => exact hq y rfl
    | _ => exact hq
  | cond x a b => simp only [comp] at hc; split at hc <;> cases hc
  | rangeFunc g ps a b => simp only [comp] at hc; split at hc <;> cases hc
  | region id ops draw => cases draw <;> cases hc
  | _ => cases hc
theorem CWp.block {id : Nat} {a : CC} (h : CWp ro P T esc a (blockA id Q) st) : CWp ro P T esc (.block id a) Q st := by
  intro c hc
  cases c with
  | block id x => cases hc; exact AWp.block (h x rfl)
  | cond x a b => simp only [comp] at hc; split at hc <;> cases hc
  | rangeFunc g ps a b => simp only [comp] at hc; split at hc <;> cases hc
  | region id ops draw => cases draw <;> cases hc
  | _ => cases hc
theorem CWp.loop {a : CC} (h : CLoop ro P T esc a Q st) : CWp ro P T esc (.loop a) Q st := by
  intro c hc
  cases c with
  | loop x => cases hc; exact AWp.loop (h x rfl)
  | cond x a b => simp only [comp] at hc; split at hc <;> cases hc
  | rangeFunc g ps a b => simp only [comp] at hc; split at hc <;> cases hc
  | region id ops draw => cases draw <;> cases hc
  | _ => cases hc
theorem CLoop.unroll {a : CC} (h : CWp ro P T esc a (thenA (CLoop ro P T esc a Q) Q) st) : CLoop ro P T esc a Q st := by
  intro c hc
  refine ALoop.unroll ((h c hc).mono ?_)
  intro e st' hq
  cases e with
  | normal => exact hq c hc
  | _ => exact hq
theorem CWp.mono {a : CC} {Q' : AExit → St → Prop} (h : CWp ro P T esc a Q st) (hQ : ∀ x st, Q x st → Q' x st) : CWp ro P T esc a Q' st := fun c hc => (h c hc).mono hQ
theorem CLoop.mono {a : CC} {Q' : AExit → St → Prop} (h : CLoop ro P T esc a Q st) (hQ : ∀ x st, Q x st → Q' x st) : CLoop ro P T esc a Q' st := fun c hc => (h c hc).mono hQ
theorem CWp.cond {x : Opd} {b : Bool} {p q : CC} (hx : st.get x = .v (.bool b)) (ht : b = true → CWp ro P T esc p Q st) (hf : b = false → CWp ro P T esc q Q st) : CWp ro P T esc (.cond x p q) Q st := by
  intro c hc
  cases c with
  | cond y a d =>
    simp only [comp] at hc
    split at hc
    · rename_i x' hx'
      cases hc
      refine AWp.cond (cX_is hx') hx ?_
      cases b
      · exact hf rfl d rfl
      · exact ht rfl a rfl
    · cases hc
  | rangeFunc g ps a b => simp only [comp] at hc; split at hc <;> cases hc
  | region id ops draw => cases draw <;> cases hc
  | _ => cases hc
theorem CWp.reg (hT : TTOk P T) {cs : List COp} (h : evalC ro P T esc Q cs st) : CWp ro P T esc (.reg false cs) Q st := by
  intro c hc
  cases c with
  | region id ops draw =>
    cases draw with
    | true => cases hc
    | false =>
    simp only [comp] at hc
    cases hc
    refine AWp.region (evalC_sound hT _ _ h ops _ ?_)
    have := CompL.all (T := T) (esc := esc) ops ops.toList 0 (fun j o hj => by simpa using hj)
    simpa [List.range_eq_range'] using this
  | cond x a b => simp only [comp] at hc; split at hc <;> cases hc
  | rangeFunc g ps a b => simp only [comp] at hc; split at hc <;> cases hc
  | _ => cases hc

theorem ACalls.of_cc {f : FuncId} {fn : Func} {c : Code} {args : List AV} {M : Mem} {R : AEnd → Mem → Prop} (k : Nat) (cc : CC) (hf : P.funcs[f]? = some fn) (hb : fn.body = some c) (hn : fn.ntmps - args.length = k) (hc : comp T esc c = cc)
    (h : CWp none P T esc cc (Fin P fn R) { tmps := args.map .v ++ List.replicate k .junk, loc := [], rows := [], defs := [], M := M }) : ACalls P f args M R :=
  ACalls.of_wp k hf hb hn (h c hc)

theorem compK_call {o : Oper} {f : FuncId} {xs : List Opd} (k3 : compK T esc o = some (.call f xs)) : ∃ c, o.op = .call c ∧ c.callee = .value (.func f) ∧ cXL T c.argTypes.toList c.args.toList = some xs := by
  cases ho : o.op with
  | call c =>
    simp only [compK, ho] at k3
    split at k3
    · rename_i f' hcal
      simp only [Option.map_eq_some_iff] at k3
      obtain ⟨xs', hxs, he⟩ := k3
      cases he
      exact ⟨c, rfl, hcal, hxs⟩
    all_goals
      exfalso
      try (repeat' (split at k3))
      all_goals first | (cases k3; done) | (simp at k3; done)
  | binOp op t x y t' =>
    exfalso
    simp only [compK, ho] at k3
    repeat' (split at k3)
    all_goals first | (cases k3; done) | (simp at k3; done)
  | unOp op t x => cases op <;> simp [compK, ho] at k3
  | slice t x lo hi mx =>
    exfalso
    cases mx <;> simp only [compK, ho, reduceCtorEq] at k3
    repeat' (split at k3)
    all_goals first | (cases k3; done) | (simp at k3; done)
  | makeMap t r =>
    exfalso
    cases r <;> simp only [compK, ho, reduceCtorEq] at k3
    repeat' (split at k3)
    all_goals first | (cases k3; done)
  | box t x =>
    exfalso
    simp only [compK, ho] at k3
    split at k3
    · simp only [Option.map_eq_some_iff] at k3
      obtain ⟨_, _, k3⟩ := k3
      split at k3 <;> cases k3
    · cases k3
  | alloc t =>
    exfalso
    simp only [compK, ho] at k3
    split at k3
    · split at k3
      · simp only [Option.some.injEq] at k3
        split at k3 <;> cases k3
      · cases k3
    · cases k3
  | _ =>
    exfalso
    simp only [compK, ho, reduceCtorEq] at k3
    try (repeat' (split at k3))
    all_goals first | (cases k3; done) | (simp at k3; done)

theorem compK_callv {o : Oper} {fo : Opd} {xs : List Opd} (k3 : compK T esc o = some (.callv fo xs)) : ∃ c y, o.op = .call c ∧ c.callee = .value y ∧ IsOpd fo y ∧ cXL T c.argTypes.toList c.args.toList = some xs := by
  cases ho : o.op with
  | call c =>
    simp only [compK, ho] at k3
    split at k3
    · simp at k3
    · rename_i y hno hcal
      split at k3
      · rename_i f1 xs1 hf hxs
        cases k3
        exact ⟨c, y, rfl, hcal, cX_is hf, hxs⟩
      · cases k3
    all_goals
      exfalso
      try (repeat' (split at k3))
      all_goals first | (cases k3; done) | (simp at k3; done)
  | binOp op t x y t' =>
    exfalso
    simp only [compK, ho] at k3
    repeat' (split at k3)
    all_goals first | (cases k3; done) | (simp at k3; done)
  | unOp op t x => cases op <;> simp [compK, ho] at k3
  | slice t x lo hi mx =>
    exfalso
    cases mx <;> simp only [compK, ho, reduceCtorEq] at k3
    repeat' (split at k3)
    all_goals first | (cases k3; done) | (simp at k3; done)
  | makeMap t r =>
    exfalso
    cases r <;> simp only [compK, ho, reduceCtorEq] at k3
    repeat' (split at k3)
    all_goals first | (cases k3; done)
  | box t x =>
    exfalso
    simp only [compK, ho] at k3
    split at k3
    · simp only [Option.map_eq_some_iff] at k3
      obtain ⟨_, _, k3⟩ := k3
      split at k3 <;> cases k3
    · cases k3
  | alloc t =>
    exfalso
    simp only [compK, ho] at k3
    split at k3
    · split at k3
      · simp only [Option.some.injEq] at k3
        split at k3 <;> cases k3
      · cases k3
    · cases k3
  | _ =>
    exfalso
    simp only [compK, ho, reduceCtorEq] at k3
    try (repeat' (split at k3))
    all_goals first | (cases k3; done) | (simp at k3; done)

/-- A call of a function. -/
theorem callIs_call {o : Oper} {c : Call} {f : FuncId} {xs : List Opd} {vs : List AV} {p : Prop} (ho : o.op = .call c) (hc : c.callee = .value (.func f)) (hx : xs.length = c.args.toList.length ∧ ∀ (i : Nat) (x : Opd), xs[i]? = some x → ∃ y, c.args.toList[i]? = some y ∧ IsOpd x y) (hbody : ∃ fn, P.funcs[f]? = some fn ∧ fn.body.isNone = false ∧ fn.name ≠ "runtime.NumGoroutine")
    (hv : rdL true st.get xs = some (vs, p)) (hp : p) : CallIs P o st f vs := by
  intro B E F blk rw a w hr
  have hrep := rdL_rep hr hx.1 hx.2 hv hp
  obtain ⟨fn, h1, h2, h3⟩ := hbody
  refine ⟨c.args.map a.eval, ?_, by simpa using hrep⟩
  simp only [execOp, ho, resolve, hc, Act.eval, Deferred.ofValue, Sem.run_bind, Sem.run_pure, Result.andThen_ok, invoke, callFunc, run_program, h1]
  have h3' : (fn.name == "runtime.NumGoroutine") = false := by simpa using h3
  simp [h2, h3', Act.eval]

/-- What a call needs of the callee. -/
def Has (P : Program) (f : FuncId) : Prop := ∃ fn, P.funcs[f]? = some fn ∧ fn.body.isNone = false ∧ fn.name ≠ "runtime.NumGoroutine"

/-- Whom a call calls, with what. -/
def tgt (k : CK) (st : St) : Option (FuncId × List AV × Prop) :=
  match k with
  | .call f xs => match rdL true st.get xs with
    | some (vs, p) => some (f, vs, p)
    | none => none
  | .callv fo xs => match rd true (st.get fo), rdL true st.get xs with
    | some (.fn (.func g) a b, p), some (vs, q) => some (g, a ++ vs ++ b, p ∧ q)
    | _, _ => none
  | _ => none

theorem tgt_congr {k : CK} {s s' : St} (h : Agree s s' k.looks) : tgt k s = tgt k s' := by
  cases k with
  | call f xs => simp only [tgt]; rw [rdL_congr (Agree.flat h)]
  | callv fo xs => simp only [tgt]; rw [Agree.get (x := fo) h.left, rdL_congr (Agree.flat h.right)]
  | _ => rfl

theorem callIs_tgt {k : CK} {o : Oper} {f : FuncId} {vs : List AV} {p : Prop} (hk : compK T esc o = some k) (hv : tgt k st = some (f, vs, p)) (hp : p) (hbody : Has P f) : CallIs P o st f vs := by
  cases k with
  | call f' xs =>
    obtain ⟨c, ho, hc, hxs⟩ := compK_call hk
    simp only [tgt] at hv
    split at hv
    · rename_i vs' p' hr
      cases hv
      exact callIs_call ho hc (cXL_is hxs) hbody hr hp
    · cases hv
  | callv fo xs =>
    obtain ⟨c, y, ho, hc, hy, hxs⟩ := compK_callv hk
    simp only [tgt] at hv
    split at hv
    · rename_i g a b p' vs' q' h1 h2
      cases hv
      obtain ⟨hp1, hp2⟩ := hp
      intro B E F blk rw ac w hr
      have hrep := rdL_rep hr (cXL_is hxs).1 (cXL_is hxs).2 h2 hp2
      obtain ⟨a', b', e1, e2, e3⟩ := (hr.rd hy h1 hp1).fn_inv
      obtain ⟨fn, h1, h2, h3⟩ := hbody
      refine ⟨a'.toArray ++ c.args.map ac.eval ++ b'.toArray, ?_, ?_⟩
      · simp only [execOp, ho, resolve, hc, e1, Deferred.ofValue, Sem.run_bind, Sem.run_pure, Result.andThen_ok, invoke, callFunc, run_program, h1]
        have h3' : (fn.name == "runtime.NumGoroutine") = false := by simpa using h3
        simp [h2, h3']
      · simp only [Array.toList_append, Array.toList_map]
        exact (e2.append (by simpa using hrep)).append e3
    · cases hv
  | _ => cases hv

theorem COps.call {d : Option Nat} {f : FuncId} {k : CK} {cs : List COp} (hbody : Has P f) {vs : List AV} {p : Prop} (hv : tgt k st = some (f, vs, p)) (hp : p)
    (h : ACalls P f vs st.M fun x M' => match x with
      | .ret v => COps ro P T esc cs Q ({ st with M := M' }.put d (.v v))
      | .panic v => Q (.panic v) { st with M := M' }) : COps ro P T esc ({ dst := d, grd := none, k := k } :: cs) Q st := by
  intro ops idxs hc
  obtain ⟨i, is, o, rfl, h1, h2, h3⟩ := hc.cons
  obtain ⟨k1, k2, k3⟩ := compOp_inv h2 (by intro o' e; simp only at e; rw [e] at hv; cases hv)
  simp only at k1 k2 k3
  refine AOps.call h1 (compG_none k2) (callIs_tgt k3 hv hp hbody) (h.mono ?_)
  intro x M' hx
  cases x with
  | ret v =>
    rw [← k1]
    exact hx ops is h3
  | panic v => exact hx
end


section
variable {P : Program} {T : TT} {esc : List Nat} {Q : AExit → St → Prop} {st : St}
theorem dctx_of {id : Nat} {ops : Array Oper} : DCtx T esc ops (ops.toList.map (compOp T esc ops)) (ops.toList.map fun o => (o.after.toList.filter (Region.binds .any)).map (·.on)) := by
  refine ⟨by simp, fun i c hc => ?_, fun i o ho => ?_⟩
  · rw [List.getElem?_map, Option.map_eq_some_iff] at hc
    obtain ⟨o, h1, h2⟩ := hc
    exact ⟨o, by simpa using h1, h2⟩
  · rw [List.getD_eq_getElem?_getD, List.getElem?_map]
    have : ops.toList[i]? = some o := by simpa using ho
    rw [this]
    rfl

theorem CWp.dreg (hm : P.follows .mixedOrders = true) (hT : TTOk P T) {cs : List COp} {pr ck : List (List Nat)} {l : List (Nat × COp × List Nat)} (hok : DrawOk cs pr ck l) (h : evalD ro P T esc cs pr ck Q l [] st) : CWp ro P T esc (.dreg cs pr) Q st := by
  intro c hc
  cases c with
  | region id ops draw =>
    cases draw with
    | false => cases hc
    | true =>
      simp only [comp] at hc
      cases hc
      exact AWp.draw hm (dctx_of (id := id)) hok (evalD_sound hT _ _ _ h)
  | cond x a b => simp only [comp] at hc; split at hc <;> cases hc
  | rangeFunc g ps a b => simp only [comp] at hc; split at hc <;> cases hc
  | _ => cases hc

theorem DOps.call {cs : List COp} {pr ck : List (List Nat)} {R : List (Nat × Fact)} (hT : TTOk P T) {i : Nat} {d : Option Nat} {f : FuncId} {k : CK} {chk : List Nat} {l : List (Nat × COp × List Nat)} (hbody : Has P f) {vs : List AV} {p : Prop} (hkq : k.quiet = false) (hv : tgt k st = some (f, vs, p)) (hp : p)
    (h : ACalls P f vs st.M fun x M' => match x with
      | .ret v => facts R chk st.loc M' ∧ DOps ro P T esc cs pr ck Q R l ({ st with M := M' }.put d (.v v))
      | .panic v => ∀ sa : St, sa.M = M' → sa.defs = st.defs → Q (.panic v) sa) : DOps ro P T esc cs pr ck Q R ((i, { dst := d, grd := none, k := k }, chk) :: l) st := by
  intro ops hx hlt hl
  obtain ⟨hi, hck⟩ := hl i { dst := d, grd := none, k := k } chk (by simp)
  refine DAny.steps hT hx hlt (fun e => by simp at e) fun N l' e => ?_
  simp only [List.map_cons, List.cons.injEq] at e
  obtain ⟨rfl, rfl⟩ := e
  refine ⟨_, hi, hkq, fun D sa hrun hap B E F blk rw a w hr => ?_⟩
  have hsame := QRun.same hrun fun q hq cq hcq => (hap q hq cq hcq).1
  obtain ⟨o, ho, hc⟩ := hx.get i _ hi
  obtain ⟨k1, k2, k3⟩ := compOp_inv hc (by intro o' e; simp only at e; rw [e] at hv; cases hv)
  simp only at k1 k2 k3
  unfold wpOpIn
  simp only [ho]
  rw [if_pos (by simp [Region.wanted, compG_none k2])]
  have hva : tgt k sa = some (f, vs, p) := by
    rw [← hv]
    have := hsame.agree
    unfold COp.looks at this
    exact (tgt_congr this.left).symm
  obtain ⟨cargs, hrun', hargs⟩ := callIs_tgt (st := sa) k3 hva hp hbody B E F blk rw a w hr
  obtain ⟨MM, hm⟩ := hr.mem
  have hMe : sa.M = st.M := hsame.M
  rw [hMe] at hm
  refine uponIn_run hrun' (by simp) ⟨fun e => by simp at e, callsR ((h B E MM w cargs hm.sub hm.sim hargs).mono ?_)⟩
  rintro e w' ⟨x, M', MM', E', hR, hxe, hE, hsub, hfr, hs, hb⟩
  rw [← hMe] at hm hfr
  have hrel := Rel.called (a := a) hm hr.tmps hr.defs hE hsub hfr hs
  cases e with
  | returned c =>
    cases x with
    | ret v =>
      obtain ⟨hf, hd⟩ := hR
      refine ⟨⟨sa.loc, sa.rows, M', .v v⟩, E', blk, rw, hE, ?_, hb, fun q hq' hqc f hfR => ?_, ?_⟩
      · show Rel B E' F blk rw (({ sa with M := M' } : St).put d (.v v)) (a.put o.dst c) w'
        rw [k1]
        exact hrel.put o.dst (x := .v v) hxe
      · have hf' := facts_of hf q (by rw [← hck]; exact hqc) f hfR
        have : sa.loc = st.loc := hsame.loc
        rw [← this] at hf'
        exact hf'
      · have h2 := hd ops hx hlt fun i c chk hm => hl i c chk (List.mem_cons_of_mem _ hm)
        have e1 : sa.loc = st.loc := hsame.loc
        have e2 : sa.rows = st.rows := hsame.rows
        simp only [St.upd, e1, e2]
        exact h2
    | panic v => exact hxe.elim
  | panicked chain =>
    cases x with
    | ret v => exact hxe.elim
    | panic v => exact ⟨.panic v, _, E', blk, rw, hR { sa with M := M' } rfl hsame.defs, hxe, hE, hrel, hb⟩
  | outgrown => cases x <;> exact hxe.elim
end
end Go.Am

namespace Go.Am
/-- A table of types as a list. -/
def lookT : List (Nat × TI) → Nat → Option TI
  | [], _ => none
  | (k, i) :: l, t => match Nat.beq k t with
    | true => some i
    | false => lookT l t
def AllOk (P : Program) : List (Nat × TI) → Prop
  | [] => True
  | (k, i) :: l => TIOk P k i ∧ AllOk P l
theorem lookT_ok {P : Program} : ∀ {l : List (Nat × TI)}, AllOk P l → TTOk P (lookT l)
  | [], _, t, i, h => by cases h
  | (k, j) :: l, h, t, i, ht => by
    unfold lookT at ht
    split at ht
    · rename_i hk
      cases ht
      have : k = t := Nat.eq_of_beq_eq_true hk
      subst this
      exact h.1
    · exact lookT_ok h.2 t i ht
end Go.Am
