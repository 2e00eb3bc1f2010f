/- States of a function on the way, and the rules for code. -/
import Derived.Test.YtpephlhhdefdgaaDoorAmT
import Derived.CallsIn
import Derived.OrdersIn
import Derived.TacticsIn
set_option linter.unusedSectionVars false
set_option linter.unusedVariables false
set_option linter.unusedSimpArgs false
namespace Go.Am
open Go.RowKit
variable [Inhabited LaidBox] {ro : Option Nat}

/-- Any function, any depth; in a round of a loop over a function, or in none. -/
abbrev wf (ro : Option Nat) : Fence := { fn := fun _ => True, depth := none, alive := false, round := ro }

theorem wf_room (n : Nat) : (wf ro).room n := fun _ h => by simp at h
theorem wf_steps {P : Program} {m m' : Machine} (h : Steps P m m') : StepsIn (Machine.fenced P (wf ro)) P m m' :=
  (StepsIn.of_steps h).mono fun m _ => fenced_wide P m
theorem callsR {P : Program} {n : Nat} {f : FuncId} {args : Array Value} {w : World} {R : Ending → World → Prop} (h : Calls P f args w R) : CallsIn (wf ro) n P f args w R := callsIn_wide.2 h

theorem semAt_run {P : Program} {o : Oper} {ρ : Operand → Value} {w w' : World} {x : Next} (h : (execOp ρ o).run P w = .ok x w') (hx : ∀ d, x ≠ .defer d) : (o.semAt ro ρ).run P w = .ok x w' := by
  rw [Oper.semAt_eq]
  · exact h
  · intro c hc
    unfold execOp at h
    simp only [hc] at h
    simp only [Sem.run_bind] at h
    cases hr : (resolve ρ c o.type).run P w with
    | ok d w1 =>
      rw [hr] at h
      simp only [Result.andThen_ok, Sem.run_pure, Result.ok.injEq] at h
      exact hx d h.1.symm
    | halt y w1 => rw [hr] at h; simp [Result.andThen] at h
theorem uponIn_run {P : Program} {o : Oper} {a : Act} {w w' : World} {x : Next} {K : Act → World → Prop} {Q : Exit → Act → World → Prop} (h : (execOp a.eval o).run P w = .ok x w') (hx : ∀ d, x ≠ .defer d) (hK : o.uponIn (wf ro) 0 P a K Q (.ok x w')) : o.wpIn (wf ro) 0 P a w K Q :=
  ⟨fun _ _ => trivial, by show o.uponIn (wf ro) 0 P a K Q ((o.semAt ro a.eval).run P w); rw [semAt_run h hx]; exact hK⟩

/-- What a slot holds: nothing that is known, a value, a pointer into a variable of the call's own, a slice over a row of its own, a value if a guard is true. -/
inductive TV where
  | junk
  | v (x : AV)
  | lptr (i off : Nat)
  | lsl (i sz : Nat) (es : List AV)
  | opt (g : Bool) (x : TV)

def TV.to (blk rw : List Nat) : TV → Option AV
  | .v x => some x
  | .lptr i off => (blk[i]?).map fun b => .ptr b off
  | .lsl i sz es => (rw[i]?).map fun t => .sl (.srow t) sz es
  | _ => none

def RelV (E : Env) (blk rw : List Nat) : TV → Value → Prop
  | .junk, _ => True
  | .opt g x, c => (g = true → RelV E blk rw x c) ∧ (g = false → c = undef)
  | .v x, c => Rep E x c
  | .lptr i off, c => ∃ b, blk[i]? = some b ∧ c = .pointer (some ⟨b, off, none⟩)
  | .lsl i sz es, c => ∃ t, rw[i]? = some t ∧ Rep E (.sl (.srow t) sz es) c

/-- Longer lists of names. -/
def Pre (l l' : List Nat) : Prop := ∀ (i x : Nat), l[i]? = some x → l'[i]? = some x
theorem Pre.refl (l : List Nat) : Pre l l := fun _ _ h => h
theorem Pre.trans {a b c : List Nat} (h : Pre a b) (k : Pre b c) : Pre a c := fun i x e => k i x (h i x e)
theorem Pre.snoc (l : List Nat) (x : Nat) : Pre l (l ++ [x]) := fun i y h => by
  rw [List.getElem?_append_left]
  · exact h
  · rcases Nat.lt_or_ge i l.length with h' | h'
    · exact h'
    · rw [List.getElem?_eq_none h'] at h; cases h

theorem RelV.mono {E E' : Env} {blk rw blk' rw' : List Nat} (hE : E.le E') (hb : Pre blk blk') (hr : Pre rw rw') : ∀ {x : TV} {c : Value}, RelV E blk rw x c → RelV E' blk' rw' x c
  | .junk, _, _ => trivial
  | .v x, _, h => Rep.mono (v := x) h hE
  | .lptr i off, _, ⟨b, h, e⟩ => ⟨b, hb _ _ h, e⟩
  | .lsl i sz es, _, ⟨t, h, k⟩ => ⟨t, hr _ _ h, k.mono hE⟩
  | .opt g x, _, h => ⟨fun e => RelV.mono hE hb hr (h.1 e), h.2⟩

theorem TV.to_mono {blk rw blk' rw' : List Nat} (hb : Pre blk blk') (hr : Pre rw rw') {x : TV} {v : AV} (h : x.to blk rw = some v) : x.to blk' rw' = some v := by
  cases x with
  | junk => cases h
  | v x => exact h
  | lptr i off =>
    simp only [TV.to, Option.map_eq_some_iff] at h ⊢
    obtain ⟨b, h1, h2⟩ := h
    exact ⟨b, hb _ _ h1, h2⟩
  | lsl i sz es =>
    simp only [TV.to, Option.map_eq_some_iff] at h ⊢
    obtain ⟨b, h1, h2⟩ := h
    exact ⟨b, hr _ _ h1, h2⟩
  | opt g x => cases h

theorem RelV.of_to {E : Env} {blk rw : List Nat} {x : TV} {v : AV} {c : Value} (h : x.to blk rw = some v) (hr : Rep E v c) : RelV E blk rw x c := by
  cases x with
  | junk => trivial
  | v x => cases h; exact hr
  | lptr i off =>
    simp only [TV.to, Option.map_eq_some_iff] at h
    obtain ⟨b, h1, rfl⟩ := h
    cases hr
    exact ⟨b, h1, rfl⟩
  | lsl i sz es =>
    simp only [TV.to, Option.map_eq_some_iff] at h
    obtain ⟨b, h1, rfl⟩ := h
    exact ⟨b, h1, hr⟩
  | opt g x => cases h

inductive RelVL (E : Env) (blk rw : List Nat) : List TV → List Value → Prop where
  | nil : RelVL E blk rw [] []
  | cons (x : TV) (c : Value) (xs : List TV) (cs : List Value) (h : RelV E blk rw x c) (ht : RelVL E blk rw xs cs) : RelVL E blk rw (x :: xs) (c :: cs)

theorem RelVL.length {E : Env} {blk rw : List Nat} : ∀ {xs : List TV} {cs : List Value}, RelVL E blk rw xs cs → cs.length = xs.length
  | _, _, .nil => rfl
  | _, _, .cons _ _ _ _ _ ht => by simp [RelVL.length ht]
theorem RelVL.at {E : Env} {blk rw : List Nat} : ∀ {vs : List TV} {cs : List Value} (h : RelVL E blk rw vs cs) (i : Nat) (v : TV), vs[i]? = some v → ∃ c, cs[i]? = some c ∧ RelV E blk rw v c
  | _, _, .nil, i, v, h => by simp at h
  | _, _, .cons v0 c0 vs cs h0 ht, 0, v, h => by simp at h; subst h; exact ⟨c0, by simp, h0⟩
  | _, _, .cons v0 c0 vs cs h0 ht, i + 1, v, h => by
    simp only [List.getElem?_cons_succ] at h ⊢
    exact RelVL.at ht i v h
theorem RelVL.set {E : Env} {blk rw : List Nat} : ∀ {vs : List TV} {cs : List Value} (h : RelVL E blk rw vs cs) (i : Nat) (v : TV) (c : Value) (hv : RelV E blk rw v c), RelVL E blk rw (vs.set i v) (cs.set i c)
  | _, _, .nil, i, v, c, hv => by simpa using RelVL.nil
  | _, _, .cons v0 c0 vs cs h0 ht, 0, v, c, hv => .cons v c vs cs hv ht
  | _, _, .cons v0 c0 vs cs h0 ht, i + 1, v, c, hv => .cons v0 c0 _ _ h0 (RelVL.set ht i v c hv)
theorem RelVL.mono {E E' : Env} {blk rw blk' rw' : List Nat} (hE : E.le E') (hb : Pre blk blk') (hr : Pre rw rw') : ∀ {vs : List TV} {cs : List Value}, RelVL E blk rw vs cs → RelVL E' blk' rw' vs cs
  | _, _, .nil => .nil
  | _, _, .cons v0 c0 vs cs h0 ht => .cons v0 c0 vs cs (h0.mono hE hb hr) (RelVL.mono hE hb hr ht)
theorem RelVL.append {E : Env} {blk rw : List Nat} : ∀ {vs : List TV} {cs : List Value} {vs' : List TV} {cs' : List Value}, RelVL E blk rw vs cs → RelVL E blk rw vs' cs' → RelVL E blk rw (vs ++ vs') (cs ++ cs')
  | _, _, _, _, .nil, h' => h'
  | _, _, _, _, .cons v c vs cs h ht, h' => .cons v c _ _ h (RelVL.append ht h')
theorem RelVL.of_reps {E : Env} {blk rw : List Nat} : ∀ {vs : List AV} {cs : List Value}, RepL E vs cs → RelVL E blk rw (vs.map .v) cs
  | _, _, .nil => .nil
  | _, _, .cons v c vs cs h ht => .cons _ _ _ _ h (RelVL.of_reps ht)
theorem RelVL.junk (E : Env) (blk rw : List Nat) (n : Nat) (c : Value) : RelVL E blk rw (List.replicate n .junk) (List.replicate n c) := by
  induction n with
  | zero => exact .nil
  | succ n ih => exact .cons _ _ _ _ trivial ih

/-- A deferred call; the mark of a loop over a function. -/
inductive ADef where
  | call (fn : Fn) (cap args : List AV)
  | mark (d : Nat)
def RelD (E : Env) (d : ADef) (c : Deferred) : Prop :=
  match d with
  | .call fn cap args => ∃ cap' args', c = { target := .fn fn cap', args := args' } ∧ RepL E cap cap'.toList ∧ RepL E args args'.toList
  | .mark d => c = { target := .collected d, args := #[] }
theorem RelD.mono {E E' : Env} (hE : E.le E') {d : ADef} {c : Deferred} (h : RelD E d c) : RelD E' d c := by
  cases d with
  | call fn cap args =>
    obtain ⟨cap', args', h1, h2, h3⟩ := h
    exact ⟨cap', args', h1, h2.mono hE, h3.mono hE⟩
  | mark d => exact h
inductive RelDL (E : Env) : List ADef → List Deferred → Prop where
  | nil : RelDL E [] []
  | cons (d : ADef) (c : Deferred) (ds : List ADef) (cs : List Deferred) (h : RelD E d c) (ht : RelDL E ds cs) : RelDL E (d :: ds) (c :: cs)
theorem RelDL.mono {E E' : Env} (hE : E.le E') : ∀ {ds : List ADef} {cs : List Deferred}, RelDL E ds cs → RelDL E' ds cs
  | _, _, .nil => .nil
  | _, _, .cons d c ds cs h ht => .cons d c ds cs (h.mono hE) (RelDL.mono hE ht)

structure St where
  tmps : List TV
  loc : List (Option (List TV))
  rows : List (TypeId × Nat × Nat)
  defs : List ADef
  M : Mem

def St.put (st : St) (d : Option Nat) (x : TV) : St :=
  match d with
  | some d => { st with tmps := st.tmps.set d x }
  | none => st

inductive RelTo (blk rw : List Nat) : List TV → List AV → Prop where
  | nil : RelTo blk rw [] []
  | cons (x : TV) (v : AV) (xs : List TV) (vs : List AV) (h : x.to blk rw = some v) (ht : RelTo blk rw xs vs) : RelTo blk rw (x :: xs) (v :: vs)
theorem RelTo.mono {blk rw blk' rw' : List Nat} (hb : Pre blk blk') (hr : Pre rw rw') : ∀ {xs : List TV} {vs : List AV}, RelTo blk rw xs vs → RelTo blk' rw' xs vs
  | _, _, .nil => .nil
  | _, _, .cons x v xs vs h ht => .cons x v xs vs (TV.to_mono hb hr h) (RelTo.mono hb hr ht)
theorem RelTo.length {blk rw : List Nat} : ∀ {xs : List TV} {vs : List AV}, RelTo blk rw xs vs → vs.length = xs.length
  | _, _, .nil => rfl
  | _, _, .cons _ _ _ _ _ ht => by simp [RelTo.length ht]
theorem RelTo.at {blk rw : List Nat} : ∀ {xs : List TV} {vs : List AV}, RelTo blk rw xs vs → ∀ (i : Nat) (x : TV), xs[i]? = some x → ∃ v, vs[i]? = some v ∧ x.to blk rw = some v
  | _, _, .nil, i, x, h => by simp at h
  | _, _, .cons x0 v0 xs vs h0 ht, 0, x, h => by simp at h; subst h; exact ⟨v0, by simp, h0⟩
  | _, _, .cons x0 v0 xs vs h0 ht, i + 1, x, h => by
    simp only [List.getElem?_cons_succ] at h ⊢
    exact RelTo.at ht i x h
theorem RelTo.take {blk rw : List Nat} : ∀ {xs : List TV} {vs : List AV} (n : Nat), RelTo blk rw xs vs → RelTo blk rw (xs.take n) (vs.take n)
  | _, _, 0, _ => by simpa using RelTo.nil
  | _, _, n + 1, .nil => by simpa using RelTo.nil
  | _, _, n + 1, .cons x v xs vs h ht => .cons x v _ _ h (RelTo.take n ht)
theorem RelTo.drop {blk rw : List Nat} : ∀ {xs : List TV} {vs : List AV} (n : Nat), RelTo blk rw xs vs → RelTo blk rw (xs.drop n) (vs.drop n)
  | _, _, 0, h => by simpa using h
  | _, _, n + 1, .nil => by simpa using RelTo.nil
  | _, _, n + 1, .cons x v xs vs h ht => by simpa using RelTo.drop n ht
theorem RelTo.append {blk rw : List Nat} : ∀ {xs : List TV} {vs : List AV} {xs' : List TV} {vs' : List AV}, RelTo blk rw xs vs → RelTo blk rw xs' vs' → RelTo blk rw (xs ++ xs') (vs ++ vs')
  | _, _, _, _, .nil, h' => h'
  | _, _, _, _, .cons x v xs vs h ht, h' => .cons x v _ _ h (RelTo.append ht h')
theorem RelTo.of_v {blk rw : List Nat} : ∀ (vs : List AV), RelTo blk rw (vs.map .v) vs
  | [] => .nil
  | v :: vs => .cons _ _ _ _ rfl (RelTo.of_v vs)

/-- The memory: the call's own part, what it knows of others, and a frame F that it leaves alone. -/
structure RelM (B : Nat) (E : Env) (F : Mem) (blk rw : List Nat) (loc : List (Option (List TV))) (rows : List (TypeId × Nat × Nat)) (M : Mem) (MM : Mem) (w : World) : Prop where
  sim : Sim B E MM w
  sub : M.sub MM
  frame : ∀ r o, F r = some o → MM r = some o ∧ M r = none ∧ (∀ b, r = .b b → ∀ (i : Nat) tvs, loc[i]? = some (some tvs) → blk[i]? ≠ some b) ∧ (∀ t, r = .w t → ∀ (i : Nat) x, rows[i]? = some x → rw[i]? ≠ some t)
  locs : ∀ (i : Nat) tvs, loc[i]? = some (some tvs) → ∃ b avs, blk[i]? = some b ∧ MM (.b b) = some (.cells avs) ∧ RelTo blk rw tvs avs ∧ M (.b b) = none ∧ (∀ (j : Nat) tvs', loc[j]? = some (some tvs') → blk[j]? = some b → j = i)
  rws : ∀ (i : Nat) e sz n, rows[i]? = some (e, sz, n) → ∃ t, rw[i]? = some t ∧ MM (.w t) = some (.row e sz n) ∧ M (.w t) = none ∧ (∀ (j : Nat) x, rows[j]? = some x → rw[j]? = some t → j = i)
  blen : blk.length = loc.length
  rlen : rw.length = rows.length

structure Rel (B : Nat) (E : Env) (F : Mem) (blk rw : List Nat) (st : St) (a : Act) (w : World) : Prop where
  tmps : RelVL E blk rw st.tmps a.tmps.toList
  defs : RelDL E st.defs a.defers
  mem : ∃ MM, RelM B E F blk rw st.loc st.rows st.M MM w

inductive AExit where
  | normal
  | exit (id : Nat)
  | ret
  | panic (v : AV)

def RelX (E : Env) : AExit → Exit → Prop
  | .normal, .normal => True
  | .exit id, .exit id' => id = id'
  | .ret, .ret => True
  | .panic v, .panic chain => ∃ c, chain = [{ v := c, recovered := false }] ∧ Rep E v c
  | _, _ => False

theorem RelX.mono {E E' : Env} (hE : E.le E') {x : AExit} {e : Exit} (h : RelX E x e) : RelX E' x e := by
  cases x <;> cases e <;> first | exact h | (obtain ⟨c, h1, h2⟩ := h; exact ⟨c, h1, h2.mono hE⟩)

def Out (B : Nat) (E : Env) (F : Mem) (w : World) (Q : AExit → St → Prop) : Exit → Act → World → Prop := fun e a' w' =>
  ∃ x st' E' blk' rw', Q x st' ∧ RelX E' x e ∧ E.le E' ∧ Rel B E' F blk' rw' st' a' w' ∧ Below B w w'

theorem Out.weaken {B : Nat} {E E1 : Env} {F : Mem} {w w1 : World} {Q Q' : AExit → St → Prop} {e : Exit} {a : Act} {w' : World} (h : Out B E1 F w1 Q e a w') (hE : E.le E1) (hw : Below B w w1) (hQ : ∀ x st, Q x st → Q' x st) : Out B E F w Q' e a w' := by
  obtain ⟨x, st', E', blk', rw', h1, h2, h3, h4, h5⟩ := h
  exact ⟨x, st', E', blk', rw', hQ _ _ h1, h2, hE.trans h3, h4, hw.trans h5⟩

def AWp (ro : Option Nat) (P : Program) (c : Code) (Q : AExit → St → Prop) (st : St) : Prop :=
  ∀ B E F blk rw a w, Rel B E F blk rw st a w → c.wpIn (wf ro) 0 P (Out B E F w Q) a w

theorem AWp.mono {P : Program} {c : Code} {Q Q' : AExit → St → Prop} {st : St} (h : AWp ro P c Q st) (hQ : ∀ x st, Q x st → Q' x st) : AWp ro P c Q' st :=
  fun B E F blk rw a w hr => Code.wpIn_mono (fun e a' w' ho => ho.weaken (Env.le.refl E) (Below.refl B w) hQ) (h B E F blk rw a w hr)

def thenA (K : St → Prop) (Q : AExit → St → Prop) : AExit → St → Prop
  | .normal, st => K st
  | x, st => Q x st

theorem Out.here {B : Nat} {E : Env} {F : Mem} {blk rw : List Nat} {st : St} {a : Act} {w : World} {Q : AExit → St → Prop} (hr : Rel B E F blk rw st a w) (x : AExit) (e : Exit) (hx : RelX E x e) (h : Q x st) : Out B E F w Q e a w :=
  ⟨x, st, E, blk, rw, h, hx, Env.le.refl E, hr, Below.refl B w⟩

section rules
variable {P : Program} {Q : AExit → St → Prop} {st : St}
theorem AWp.skip (h : Q .normal st) : AWp ro P .skip Q st := fun B E F blk rw a w hr => wpIn_skip (Out.here hr .normal .normal trivial h)
theorem AWp.exit {id : Nat} (h : Q (.exit id) st) : AWp ro P (.exit id) Q st := fun B E F blk rw a w hr => wpIn_exit (Out.here hr (.exit id) (.exit id) rfl h)
theorem AWp.ret (h : Q .ret st) : AWp ro P .ret Q st := fun B E F blk rw a w hr => wpIn_ret (Out.here hr .ret .ret trivial h)

theorem AWp.seq {x y : Code} (h : AWp ro P x (thenA (AWp ro P y Q) Q) st) : AWp ro P (.seq x y) Q st := by
  intro B E F blk rw a w hr
  refine wpIn_seq (Code.wpIn_mono ?_ (h B E F blk rw a w hr))
  rintro e a1 w1 ⟨x, st1, E1, blk1, rw1, hQ, hx, hE, hr1, hb⟩
  cases e with
  | normal =>
    cases x with
    | normal => exact Code.wpIn_mono (fun e a' w' ho => ho.weaken hE hb fun _ _ h => h) (hQ B E1 F blk1 rw1 a1 w1 hr1)
    | _ => exact hx.elim
  | exit id => cases x <;> first | exact hx.elim | exact ⟨_, st1, E1, blk1, rw1, hQ, hx, hE, hr1, hb⟩
  | goto l => cases x <;> exact hx.elim
  | ret => cases x <;> first | exact hx.elim | exact ⟨_, st1, E1, blk1, rw1, hQ, hx, hE, hr1, hb⟩
  | panic c => cases x <;> first | exact hx.elim | exact ⟨_, st1, E1, blk1, rw1, hQ, hx, hE, hr1, hb⟩
  | outgrown => cases x <;> exact hx.elim

def blockA (id : Nat) (Q : AExit → St → Prop) : AExit → St → Prop
  | .exit id', st => if id' = id then Q .normal st else Q (.exit id') st
  | x, st => Q x st

theorem AWp.block {id : Nat} {c : Code} (h : AWp ro P c (blockA id Q) st) : AWp ro P (.block id c) Q st := by
  intro B E F blk rw a w hr
  refine wpIn_block (Code.wpIn_mono ?_ (h B E F blk rw a w hr))
  rintro e a1 w1 ⟨x, st1, E1, blk1, rw1, hQ, hx, hE, hr1, hb⟩
  cases e with
  | normal => cases x <;> first | exact hx.elim | exact ⟨_, st1, E1, blk1, rw1, hQ, hx, hE, hr1, hb⟩
  | exit id' =>
    cases x with
    | exit id2 =>
      obtain rfl : id2 = id' := hx
      simp only [Exit.inBlock]
      simp only [blockA] at hQ
      split
      · rename_i hid
        rw [if_pos hid] at hQ
        exact ⟨.normal, st1, E1, blk1, rw1, hQ, trivial, hE, hr1, hb⟩
      · rename_i hid
        rw [if_neg hid] at hQ
        exact ⟨.exit id2, st1, E1, blk1, rw1, hQ, rfl, hE, hr1, hb⟩
    | _ => exact hx.elim
  | goto l => cases x <;> exact hx.elim
  | ret => cases x <;> first | exact hx.elim | exact ⟨_, st1, E1, blk1, rw1, hQ, hx, hE, hr1, hb⟩
  | panic c => cases x <;> first | exact hx.elim | exact ⟨_, st1, E1, blk1, rw1, hQ, hx, hE, hr1, hb⟩
  | outgrown => cases x <;> exact hx.elim

/-- From the head of a loop that has begun. -/
def LoopAt (ro : Option Nat) (P : Program) (c : Code) (Q : Exit → Act → World → Prop) (a : Act) (w : World) : Prop :=
  ∀ (b : Frame) (k : List Item) (cs : List Frame), b.roundOf = ro → ∃ e a' w', Q e a' w' ∧ ArrivesIn (Machine.fenced P (wf ro)) P (lone (b.atR a (.code c :: .inLoop c :: k)) cs w) b k cs e a' w'
theorem LoopAt.wp {c : Code} {Q : Exit → Act → World → Prop} {a : Act} {w : World} (h : LoopAt ro P c Q a w) : (Code.loop c).wpIn (wf ro) 0 P Q a w :=
  fun b k cs hro hb hr => let ⟨e, a', w', hq, harr⟩ := h b k cs hro; ⟨e, a', w', hq, .of_steps (.one (fenced_calm hb hr rfl) stepR_loop) harr⟩
theorem LoopAt.unroll {c : Code} {Q : Exit → Act → World → Prop} {a : Act} {w : World} (h : c.wpIn (wf ro) 0 P (Exit.then (LoopAt ro P c Q) Q) a w) : LoopAt ro P c Q a w := by
  intro b k cs hro
  obtain ⟨e, a₁, w₁, hq, harr⟩ := h b (.inLoop c :: k) cs hro trivial (wf_room _)
  cases e with
  | normal =>
    obtain ⟨e₂, a₂, w₂, hq₂, harr₂⟩ := hq b k cs hro
    exact ⟨e₂, a₂, w₂, hq₂, .of_steps (StepsIn.trans harr (.one (fenced_calm (F := wf ro) (n := 0) trivial (wf_room _) rfl) stepR_inLoop)) harr₂⟩
  | exit id => exact ⟨_, a₁, w₁, hq, .pass (x := .inLoop c) rfl (fun _ _ => .inl (by simp)) harr⟩
  | goto l => exact ⟨_, a₁, w₁, hq, .pass (x := .inLoop c) rfl (fun _ _ => .inl (by simp)) harr⟩
  | ret => exact ⟨_, a₁, w₁, hq, .pass (x := .inLoop c) rfl (fun _ _ => .inl (by simp)) harr⟩
  | panic ch => exact ⟨_, a₁, w₁, hq, .pass (x := .inLoop c) rfl (fun _ _ => .inl (by simp)) harr⟩
  | outgrown => exact ⟨_, a₁, w₁, hq, .pass (x := .inLoop c) rfl (fun _ _ => .inl (by simp)) harr⟩
theorem LoopAt.mono {c : Code} {Q Q' : Exit → Act → World → Prop} {a : Act} {w : World} (h : LoopAt ro P c Q a w) (hQ : ∀ e a w, Q e a w → Q' e a w) : LoopAt ro P c Q' a w :=
  fun b k cs hro => let ⟨e, a', w', hq, harr⟩ := h b k cs hro; ⟨e, a', w', hQ _ _ _ hq, harr⟩

def ALoop (ro : Option Nat) (P : Program) (c : Code) (Q : AExit → St → Prop) (st : St) : Prop :=
  ∀ B E F blk rw a w, Rel B E F blk rw st a w → LoopAt ro P c (Out B E F w Q) a w
theorem AWp.loop {c : Code} (h : ALoop ro P c Q st) : AWp ro P (.loop c) Q st := fun B E F blk rw a w hr => (h B E F blk rw a w hr).wp
theorem ALoop.mono {c : Code} {Q' : AExit → St → Prop} (h : ALoop ro P c Q st) (hQ : ∀ x st, Q x st → Q' x st) : ALoop ro P c Q' st :=
  fun B E F blk rw a w hr => (h B E F blk rw a w hr).mono fun e a' w' ho => ho.weaken (Env.le.refl E) (Below.refl B w) hQ
theorem ALoop.unroll {c : Code} (h : AWp ro P c (thenA (ALoop ro P c Q) Q) st) : ALoop ro P c Q st := by
  intro B E F blk rw a w hr
  refine LoopAt.unroll (Code.wpIn_mono ?_ (h B E F blk rw a w hr))
  rintro e a1 w1 ⟨x, st1, E1, blk1, rw1, hQ, hx, hE, hr1, hb⟩
  cases e with
  | normal =>
    cases x with
    | normal => exact (hQ B E1 F blk1 rw1 a1 w1 hr1).mono fun e a' w' ho => ho.weaken hE hb fun _ _ h => h
    | _ => exact hx.elim
  | exit id => cases x <;> first | exact hx.elim | exact ⟨_, st1, E1, blk1, rw1, hQ, hx, hE, hr1, hb⟩
  | goto l => cases x <;> exact hx.elim
  | ret => cases x <;> first | exact hx.elim | exact ⟨_, st1, E1, blk1, rw1, hQ, hx, hE, hr1, hb⟩
  | panic c => cases x <;> first | exact hx.elim | exact ⟨_, st1, E1, blk1, rw1, hQ, hx, hE, hr1, hb⟩
  | outgrown => cases x <;> exact hx.elim

/-! Operands -/
inductive Opd where
  | t (i : Nat)
  | c (v : AV)
  | f (id : Nat)

/-- That an operand is one. -/
inductive IsOpd : Opd → Operand → Prop where
  | t (i : Nat) : IsOpd (.t i) (.tmp i)
  | f (id : Nat) : IsOpd (.f id) (.func id)
  | c (v : AV) (c : Value) (h : v.concA = some c) : IsOpd (.c v) (.const c)

def St.get (st : St) : Opd → TV
  | .t i => (st.tmps[i]?).getD .junk
  | .c v => .v v
  | .f id => .v (.fn (.func id) [] [])

theorem Rel.opd {B : Nat} {E : Env} {F : Mem} {blk rw : List Nat} {a : Act} {w : World} (hr : Rel B E F blk rw st a w) {x : Opd} {y : Operand} (h : IsOpd x y) : RelV E blk rw (st.get x) (a.eval y) := by
  cases h with
  | t i =>
    simp only [St.get, Act.eval]
    cases hi : st.tmps[i]? with
    | none => trivial
    | some tv =>
      obtain ⟨c, hc, hv⟩ := hr.tmps.at i tv hi
      have : a.tmps.getD i undef = c := by
        have h' : a.tmps[i]? = some c := by simpa using hc
        simp [Array.getD_eq_getD_getElem?, h']
      rw [this]; exact hv
  | f id =>
    have := Rep.fn (E := E) (.func id) [] [] [] [] .nil .nil
    exact this
  | c v c h => exact (AV.concA_rep (E := E) h).1

theorem AWp.cond {c : Operand} {x : Opd} {b : Bool} {p q : Code} (hx : IsOpd x c) (hc : st.get x = .v (.bool b)) (h : AWp ro P (bif b then p else q) Q st) : AWp ro P (.cond c p q) Q st := by
  intro B E F blk rw a w hr
  have := hr.opd hx
  rw [hc] at this
  have hev : a.eval c = .bool b := by
    generalize a.eval c = y at this
    cases this; rfl
  refine wpIn_cond hev ?_
  cases b
  · exact h B E F blk rw a w hr
  · exact h B E F blk rw a w hr
end rules

/-! Regions -/
def AOps (ro : Option Nat) (P : Program) (ops : Array Oper) (l : List Nat) (Q : AExit → St → Prop) (st : St) : Prop :=
  ∀ B E F blk rw a w, Rel B E F blk rw st a w → wpOpsIn (wf ro) 0 P ops (Out B E F w Q) l a w

theorem Oper.wpR_mono {P : Program} {o : Oper} {a : Act} {w : World} {K K' : Act → World → Prop} {Q Q' : Exit → Act → World → Prop} (hK : ∀ a w, K a w → K' a w) (hQ : ∀ e a w, Q e a w → Q' e a w) (h : o.wpIn (wf ro) 0 P a w K Q) : o.wpIn (wf ro) 0 P a w K' Q' := by
  refine ⟨h.1, ?_⟩
  have h2 := h.2
  generalize (o.semAt (wf ro).round a.eval).run P w = r at h2 ⊢
  unfold Oper.uponIn at h2 ⊢
  split at h2
  · exact hK _ _ h2
  · exact hK _ _ h2
  · exact hK _ _ h2
  · refine ⟨h2.1, CallsIn.mono h2.2 fun e w' hh => ?_⟩
    cases e with
    | returned v => exact hK _ _ hh
    | panicked chain => exact hQ _ _ _ hh
    | outgrown => obtain ⟨a', w'', h⟩ := hh; exact ⟨a', w'', hQ _ _ _ h⟩
  · exact ⟨h2.1, RowsIn.mono h2.2 fun v w' hh => hK _ _ hh⟩
  · refine ⟨h2.1, RoundIn.mono h2.2 fun e w' hh => ?_⟩
    cases e with
    | returned v => exact hK _ _ hh
    | panicked chain => exact hQ _ _ _ hh
    | outgrown => obtain ⟨a', w'', h⟩ := hh; exact ⟨a', w'', hQ _ _ _ h⟩
  · exact hQ _ _ _ h2
  · exact h2.elim

theorem wpOpsR_mono {P : Program} {ops : Array Oper} {Q Q' : Exit → Act → World → Prop} (hQ : ∀ e a w, Q e a w → Q' e a w) : ∀ (l : List Nat) (a : Act) (w : World), wpOpsIn (wf ro) 0 P ops Q l a w → wpOpsIn (wf ro) 0 P ops Q' l a w
  | [], a, w, h => hQ _ _ _ h
  | i :: rest, a, w, h => by
    simp only [wpOpsIn] at h ⊢
    cases ho : ops[i]? with
    | none => simp only [ho] at h ⊢; exact wpOpsR_mono hQ rest a w h
    | some o =>
      simp only [ho] at h ⊢
      split
      · rename_i hw
        rw [if_pos hw] at h
        exact Oper.wpR_mono (fun a w hh => wpOpsR_mono hQ rest a w hh) hQ h
      · rename_i hw
        rw [if_neg hw] at h
        exact ⟨h.1, wpOpsR_mono hQ rest _ _ h.2⟩

theorem AWp.region {P : Program} {id : Nat} {ops : Array Oper} {Q : AExit → St → Prop} {st : St} (h : AOps ro P ops (List.range ops.size) Q st) : AWp ro P (.region id ops false) Q st :=
  fun B E F blk rw a w hr => wpIn_region (h B E F blk rw a w hr)

theorem AOps.nil {P : Program} {ops : Array Oper} {Q : AExit → St → Prop} {st : St} (h : Q .normal st) : AOps ro P ops [] Q st :=
  fun B E F blk rw a w hr => Out.here hr .normal .normal trivial h

theorem Act.put_tmps (a : Act) (d : Option Nat) (v : Value) : (a.put d v).tmps.toList = match d with | some d => a.tmps.toList.set d v | none => a.tmps.toList := by
  cases d <;> simp [Act.put]

theorem Rel.put {B : Nat} {E : Env} {F : Mem} {blk rw : List Nat} {st : St} {a : Act} {w : World} (hr : Rel B E F blk rw st a w) (d : Option Nat) {x : TV} {c : Value} (hx : RelV E blk rw x c) : Rel B E F blk rw (st.put d x) (a.put d c) w := by
  cases d with
  | none => exact hr
  | some d =>
    refine ⟨?_, hr.defs, hr.mem⟩
    have := hr.tmps.set d x c hx
    simpa [St.put, Act.put] using this

/-- What an operation yields: a value, the memory turned. -/
def OpVal (P : Program) (o : Oper) (st st1 : St) (x : TV) : Prop :=
  ∀ B E F blk rw a w, Rel B E F blk rw st a w → ∃ c w' E' blk' rw', ((execOp a.eval o).run P w = .ok (.value c) w' ∨ ((execOp a.eval o).run P w = .ok .skip w' ∧ c = undef)) ∧ E.le E' ∧ Below B w w' ∧ Rel B E' F blk' rw' st1 a w' ∧ RelV E' blk' rw' x c

theorem AOps.skipped {P : Program} {ops : Array Oper} {i : Nat} {rest : List Nat} {Q : AExit → St → Prop} {st : St} {o : Oper} (ho : ops[i]? = some o) (hg : ∀ B E F blk rw a w, Rel B E F blk rw st a w → Region.wanted o (yielded ops a.tmps) = false)
    (h : AOps ro P ops rest Q (st.put o.dst .junk)) : AOps ro P ops (i :: rest) Q st := by
  intro B E F blk rw a w hr
  simp only [wpOpsIn, ho]
  rw [if_neg (by rw [hg B E F blk rw a w hr]; simp)]
  refine ⟨fun _ _ => trivial, ?_⟩
  exact h B E F blk rw _ w (hr.put o.dst trivial)

theorem AOps.value {P : Program} {ops : Array Oper} {i : Nat} {rest : List Nat} {Q : AExit → St → Prop} {st st1 : St} {o : Oper} {x : TV} (ho : ops[i]? = some o) (hg : o.guard = none)
    (hv : OpVal P o st st1 x) (h : AOps ro P ops rest Q (st1.put o.dst x)) : AOps ro P ops (i :: rest) Q st := by
  intro B E F blk rw a w hr
  simp only [wpOpsIn, ho]
  rw [if_pos (by simp [Region.wanted, hg])]
  obtain ⟨c, w', E', blk', rw', hrun, hE, hb, hr', hx⟩ := hv B E F blk rw a w hr
  rcases hrun with hrun | ⟨hrun, rfl⟩
  · refine uponIn_run hrun (by simp) ?_
    exact wpOpsR_mono (fun e a' w'' ho => ho.weaken hE hb fun _ _ h => h) rest _ _ (h B E' F blk' rw' _ w' (hr'.put o.dst hx))
  · refine uponIn_run hrun (by simp) ?_
    exact wpOpsR_mono (fun e a' w'' ho => ho.weaken hE hb fun _ _ h => h) rest _ _ (h B E' F blk' rw' _ w' (hr'.put o.dst hx))

/-- Under a guard that is g: the operation changes no memory that is spoken of. -/
theorem AOps.guarded {P : Program} {ops : Array Oper} {i : Nat} {rest : List Nat} {Q : AExit → St → Prop} {st : St} {o : Oper} {x : TV} {g : Bool} (ho : ops[i]? = some o)
    (hg : ∀ B E F blk rw a w, Rel B E F blk rw st a w → Region.wanted o (yielded ops a.tmps) = g)
    (hv : g = true → OpVal P o st st x) (h : AOps ro P ops rest Q (st.put o.dst (.opt g x))) : AOps ro P ops (i :: rest) Q st := by
  intro B E F blk rw a w hr
  simp only [wpOpsIn, ho]
  have hw := hg B E F blk rw a w hr
  cases g with
  | false =>
    rw [if_neg (by rw [hw]; simp)]
    refine ⟨fun _ _ => trivial, ?_⟩
    exact h B E F blk rw _ w (hr.put o.dst ⟨fun e => by simp at e, fun _ => rfl⟩)
  | true =>
    rw [if_pos hw]
    obtain ⟨c, w', E', blk', rw', hrun, hE, hb, hr', hx⟩ := hv rfl B E F blk rw a w hr
    rcases hrun with hrun | ⟨hrun, rfl⟩
    · refine uponIn_run hrun (by simp) ?_
      exact wpOpsR_mono (fun e a' w'' ho => ho.weaken hE hb fun _ _ h => h) rest _ _ (h B E' F blk' rw' _ w' (hr'.put o.dst ⟨fun _ => hx, fun e => by simp at e⟩))
    · refine uponIn_run hrun (by simp) ?_
      exact wpOpsR_mono (fun e a' w'' ho => ho.weaken hE hb fun _ _ h => h) rest _ _ (h B E' F blk' rw' _ w' (hr'.put o.dst ⟨fun _ => hx, fun e => by simp at e⟩))

end Go.Am
