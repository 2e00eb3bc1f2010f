/- Words for proofs over resolved code: the simp set, forgetting slots, entering functions. -/
import Derived.Test.YtpephlhhdefdgaaDoorAmQ
set_option linter.unusedSectionVars false
set_option linter.unusedVariables false
set_option linter.unusedSimpArgs false
namespace Go.Am
open Go.RowKit
variable [Inhabited LaidBox] {ro : Option Nat}

attribute [go_sem] Nat.le_refl tgt findS setS cval evalC Int.toNat_natCast evalD qval qfact factOf facts memB CK.quiet CK.memk St.mem effA pev eff St.get St.put rd lp gval icmp scmp bcmp arith quorem nlB isNil bound fillA rdL pickT pickL extL TV.ext TV.sc AV.cells InR thenA blockA tupV
  List.getElem?_cons_succ List.getElem?_cons_zero Option.getD_some Option.getD_none List.set_cons_succ List.set_cons_zero List.map_cons List.map_nil List.cons_append List.nil_append
  List.replicate_succ List.replicate_zero List.length_cons List.length_nil List.take_succ_cons List.take_zero List.drop_succ_cons List.drop_zero List.getElem?_nil
  and_true true_and implies_true forall_const Bool.true_and Bool.and_true Bool.true_eq_false Bool.false_eq_true Option.map_some Option.map_none
  cond_true cond_false Bool.not_true Bool.not_false if_true if_false ite_true ite_false decide_true decide_false

@[go_sem] theorem am_cond_false (a b : Bool) : (bif a then b else false) = (a && b) := by cases a <;> rfl
@[go_sem] theorem am_cond_true (a b : Bool) : (bif a then true else b) = (a || b) := by cases a <;> rfl
@[go_sem] theorem am_beq_true (a : Bool) : (a == true) = a := by cases a <;> rfl
@[go_sem] theorem am_beq_false (a : Bool) : (a == false) = !a := by cases a <;> rfl
@[go_sem] theorem am_imp_self (a : Prop) : (a → a) = True := by simp
@[go_sem] theorem am_imp_imp (a : Prop) : (a → a → a) = True := by simp
@[go_sem] theorem am_not_imp (a : Bool) : (a = false → (!a) = true) = True := by cases a <;> simp
@[go_sem] theorem am_and_imp (a b : Bool) : ((a && b) = true → a = true) = True := by cases a <;> cases b <;> simp
@[go_sem] theorem am_and_imp' (a b : Bool) : ((a && b) = true → b = true) = True := by cases a <;> cases b <;> simp
@[go_sem] theorem am_imp_and (a b : Bool) : (a = true → b = true → (a && b) = true) = True := by cases a <;> cases b <;> simp
@[go_sem] theorem am_mem_one (p : AV → Prop) (x : AV) : (∀ y ∈ [x], p y) = p x := by simp
@[go_sem] theorem am_mem_cons (p : AV → Prop) (x : AV) (l : List AV) : (∀ y ∈ x :: l, p y) = (p x ∧ ∀ y ∈ l, p y) := by simp
@[go_sem] theorem am_mem_nil (p : AV → Prop) : (∀ y ∈ ([] : List AV), p y) = True := by simp
@[go_sem] theorem am_nat_add (a : Nat) : 0 + a = a := Nat.zero_add a

@[go_sem] theorem am_one_bool (b : Bool) : (AV.bool b).one = true := rfl
@[go_sem] theorem am_one_int (k : IntKind) (n : Int) : (AV.int k n).one = true := rfl
@[go_sem] theorem am_one_str (s : List UInt8) : (AV.str s).one = true := rfl
@[go_sem] theorem am_one_nilp  : (AV.nilp ).one = true := rfl
@[go_sem] theorem am_one_ptr (r o : Nat) : (AV.ptr r o).one = true := rfl
@[go_sem] theorem am_one_eptr (n : Nat) (es : List AV) (i o : Nat) : (AV.eptr n es i o).one = true := rfl
@[go_sem] theorem am_one_sl (w : Own) (n : Nat) (es : List AV) : (AV.sl w n es).one = true := rfl
@[go_sem] theorem am_one_map (r : Nat) : (AV.map r).one = true := rfl
@[go_sem] theorem am_one_nilmap  : (AV.nilmap ).one = true := rfl
@[go_sem] theorem am_one_fn (f : Fn) (a b : List AV) : (AV.fn f a b).one = true := rfl
@[go_sem] theorem am_one_nilfn  : (AV.nilfn ).one = true := rfl
@[go_sem] theorem am_one_iface (t : TypeId) (v : AV) : (AV.iface t v).one = true := rfl
@[go_sem] theorem am_one_niliface  : (AV.niliface ).one = true := rfl
@[go_sem] theorem am_one_raw (c : Value) : (AV.raw c).one = true := rfl
@[go_sem] theorem am_one_agg (l : List AV) : (AV.agg l).one = false := rfl
@[go_sem] theorem am_one_tup (l : List AV) : (AV.tup l).one = false := rfl
@[go_sem] theorem am_one_junk  : (AV.junk ).one = false := rfl

/-- One operation at a time. -/
theorem evalC_cons {P : Program} {T : TT} {esc : List Nat} {Q : AExit → St → Prop} {c : COp} {cs : List COp} {st : St} (hk : c.k.quiet = true) : evalC ro P T esc Q (c :: cs) st = (match qval c st with
    | some (x, p) => (match c.grd with
      | none => p ∧ evalC ro P T esc Q cs (st.put c.dst x)
      | some _ => p ∧ evalC ro P T esc Q cs (st.put c.dst x))
    | none => evalC ro P T esc Q (c :: cs) st) := by
  obtain ⟨d, g, k⟩ := c
  cases g with
  | none =>
    simp only [qval]
    cases hp : pev k true st with
    | none => rfl
    | some xp =>
      obtain ⟨x, p⟩ := xp
      cases k <;> first | (simp only [evalC, hp]; done) | (cases hk; done)
  | some dw =>
    obtain ⟨d0, w⟩ := dw
    simp only [qval]
    cases hg : gval st d0 w with
    | none => rfl
    | some g =>
      simp only []
      cases hp : pev k g st with
      | none => rfl
      | some xp =>
        obtain ⟨x, p⟩ := xp
        simp only [evalC, hg, hp]
theorem evalD_cons {P : Program} {T : TT} {esc : List Nat} {cs : List COp} {pr ck : List (List Nat)} {Q : AExit → St → Prop} {i : Nat} {c : COp} {chk : List Nat} {l : List (Nat × COp × List Nat)} {R : List (Nat × Fact)} {st : St} (hk : c.k.quiet = true) : evalD ro P T esc cs pr ck Q ((i, c, chk) :: l) R st = (match qval c st with
    | some (x, p) => p ∧ evalD ro P T esc cs pr ck Q l ((i, factOf chk c x st) :: R) (st.put c.dst x)
    | none => evalD ro P T esc cs pr ck Q ((i, c, chk) :: l) R st) := by
  cases hq : qval c st with
  | none => rfl
  | some xp =>
    obtain ⟨x, p⟩ := xp
    show evalD ro P T esc cs pr ck Q ((i, c, chk) :: l) R st = _
    simp only [evalD, hk, hq]

theorem evalD_step {P : Program} {T : TT} {esc : List Nat} {cs : List COp} {pr ck : List (List Nat)} {Q : AExit → St → Prop} {i : Nat} {c : COp} {chk : List Nat} {l : List (Nat × COp × List Nat)} {R : List (Nat × Fact)} {st : St}
    (h : match qval c st with
      | some (x, p) => p ∧ evalD ro P T esc cs pr ck Q l ((i, factOf chk c x st) :: R) (st.put c.dst x)
      | none => False) (hk : c.k.quiet = true := by decide) : evalD ro P T esc cs pr ck Q ((i, c, chk) :: l) R st := by
  rw [evalD_cons hk]
  split at h
  · exact h
  · exact h.elim
theorem evalC_step {P : Program} {T : TT} {esc : List Nat} {Q : AExit → St → Prop} {c : COp} {cs : List COp} {st : St}
    (h : match qval c st with
      | some (x, p) => (match c.grd with
        | none => p ∧ evalC ro P T esc Q cs (st.put c.dst x)
        | some _ => p ∧ evalC ro P T esc Q cs (st.put c.dst x))
      | none => False) (hk : c.k.quiet = true := by decide) : evalC ro P T esc Q (c :: cs) st := by
  rw [evalC_cons hk]
  split at h
  · exact h
  · exact h.elim

/-- Slots of which nothing is known any more. -/
def Junked : List TV → List TV → Prop
  | [], [] => True
  | a :: as, b :: bs => (b = .junk ∨ b = a) ∧ Junked as bs
  | _, _ => False

theorem Junked.rel {E : Env} {blk rw : List Nat} : ∀ {as bs : List TV} {cs : List Value}, Junked as bs → RelVL E blk rw as cs → RelVL E blk rw bs cs
  | [], [], _, _, h => h
  | a :: as, b :: bs, _, hj, .cons _ c _ cs h ht => by
    refine .cons _ _ _ _ ?_ (Junked.rel hj.2 ht)
    rcases hj.1 with rfl | rfl
    · trivial
    · exact h
  | [], _ :: _, _, hj, _ => hj.elim
  | _ :: _, [], _, hj, _ => hj.elim

theorem Junked.Rel {B : Nat} {E : Env} {F : Mem} {blk rw : List Nat} {st : St} {a : Act} {w : World} {t : List TV} (hj : Junked st.tmps t) (hr : Rel B E F blk rw st a w) : Rel B E F blk rw { st with tmps := t } a w :=
  ⟨hj.rel hr.tmps, hr.defs, hr.mem⟩

section
variable {P : Program} {T : TT} {esc : List Nat} {Q : AExit → St → Prop} {st : St}
theorem CLoop.junk {cc : CC} {t : List TV} (h : CLoop ro P T esc cc Q { st with tmps := t }) (hj : Junked st.tmps t) : CLoop ro P T esc cc Q st :=
  fun c hc B E F blk rw a w hr => h c hc B E F blk rw a w (hj.Rel hr)
theorem CWp.junk {cc : CC} {t : List TV} (h : CWp ro P T esc cc Q { st with tmps := t }) (hj : Junked st.tmps t) : CWp ro P T esc cc Q st :=
  fun c hc B E F blk rw a w hr => h c hc B E F blk rw a w (hj.Rel hr)

/-- A nil slice in a slot gets a name: from now on it is a row of the call's own. -/
theorem CWp.own {cc : CC} {i sz : Nat} (e : TypeId) (hi : st.tmps[i]? = some (.v (.sl .full sz []))) (h : CWp ro P T esc cc Q { st with tmps := st.tmps.set i (.lsl st.rows.length sz []), rows := st.rows ++ [(e, sz, 0)] }) : CWp ro P T esc cc Q st := by
  intro c hc B E F blk rw a w hr
  obtain ⟨E', rw', hE, hr'⟩ := hr.own_tmp e hi
  exact Code.wpIn_mono (fun e a' w' ho => ho.weaken hE (Below.refl B w) fun _ _ h => h) (h c hc B E' F blk rw' a w hr')
theorem CLoop.own {cc : CC} {i sz : Nat} (e : TypeId) (hi : st.tmps[i]? = some (.v (.sl .full sz []))) (h : CLoop ro P T esc cc Q { st with tmps := st.tmps.set i (.lsl st.rows.length sz []), rows := st.rows ++ [(e, sz, 0)] }) : CLoop ro P T esc cc Q st := by
  intro c hc B E F blk rw a w hr
  obtain ⟨E', rw', hE, hr'⟩ := hr.own_tmp e hi
  exact (h c hc B E' F blk rw' a w hr').mono fun e a' w' ho => ho.weaken hE (Below.refl B w) fun _ _ h => h
/-- A nil slice in a field of a variable that memory speaks of gets a name. -/
theorem CWp.ownM {cc : CC} {r k sz : Nat} {cs : List AV} (e : TypeId) (hM : st.M (.b r) = some (.cells cs)) (hk : cs[k]? = some (.sl .full sz []))
    (h : ∀ t, st.M (.w t) = none → CWp ro P T esc cc Q { st with M := (st.M.set (.w t) (.row e sz 0)).set (.b r) (.cells (cs.set k (.sl (.srow t) sz []))) }) : CWp ro P T esc cc Q st := by
  intro c hc B E F blk rw a w hr
  obtain ⟨E', t, hE, ht, hr'⟩ := hr.own_mem e hM hk
  exact Code.wpIn_mono (fun e a' w' ho => ho.weaken hE (Below.refl B w) fun _ _ h => h) (h t ht c hc B E' F blk rw a w hr')

/-- What a function's contract asks of its body. -/
theorem ACalls.of {f : FuncId} {fn : Func} {args : List AV} {M : Mem} {R : AEnd → Mem → Prop} (k : Nat) (cc : CC) (hf : P.funcs[f]? = some fn) (hb : fn.body.isSome = true) (hn : fn.ntmps - args.length = k) (hc : comp T esc (fn.body.getD .skip) = cc)
    (h : CWp none P T esc cc (Fin P fn R) { tmps := args.map .v ++ List.replicate k .junk, loc := [], rows := [], defs := [], M := M }) : ACalls P f args M R := by
  refine ACalls.of_cc k cc hf ?_ hn hc h
  cases hbb : fn.body with
  | none => rw [hbb] at hb; cases hb
  | some c => rfl

/-- One result, in a slot. -/
theorem Fin.ret1 {fn : Func} {R : AEnd → Mem → Prop} {x : AExit} {t : Nat} {v : AV} (hx : x = .ret ∨ x = .normal) (hres : fn.results = #[.tmp t]) (hd : st.defs = []) (hv : ((st.tmps[t]?).getD .junk).ext = some v) {M' : Mem} (hM : M'.sub st.M) (h : R (.ret v) M') : Fin P fn R x st := by
  have : ∃ vs, ResL P fn.results.toList st vs ∧ ∃ M', M'.sub st.M ∧ R (.ret (tupV vs)) M' := ⟨[v], by rw [hres]; exact .cons _ _ _ _ _ (.tmp hv) (.nil _), M', hM, h⟩
  rcases hx with rfl | rfl <;> exact ⟨hd, this⟩
theorem Fin.ret0 {fn : Func} {R : AEnd → Mem → Prop} {x : AExit} (hx : x = .ret ∨ x = .normal) (hres : fn.results = #[]) (hd : st.defs = []) {M' : Mem} (hM : M'.sub st.M) (h : R (.ret (.tup [])) M') : Fin P fn R x st := by
  have : ∃ vs, ResL P fn.results.toList st vs ∧ ∃ M', M'.sub st.M ∧ R (.ret (tupV vs)) M' := ⟨[], by rw [hres]; exact .nil _, M', hM, h⟩
  rcases hx with rfl | rfl <;> exact ⟨hd, this⟩
theorem Fin.ret2 {fn : Func} {R : AEnd → Mem → Prop} {x : AExit} {t u : Nat} {v v' : AV} (hx : x = .ret ∨ x = .normal) (hres : fn.results = #[.tmp t, .tmp u]) (hd : st.defs = []) (hv : ((st.tmps[t]?).getD .junk).ext = some v) (hv' : ((st.tmps[u]?).getD .junk).ext = some v') {M' : Mem} (hM : M'.sub st.M) (h : R (.ret (.tup [v, v'])) M') : Fin P fn R x st := by
  have : ∃ vs, ResL P fn.results.toList st vs ∧ ∃ M', M'.sub st.M ∧ R (.ret (tupV vs)) M' := ⟨[v, v'], by rw [hres]; exact .cons _ _ _ _ _ (.tmp hv) (.cons _ _ _ _ _ (.tmp hv') (.nil _)), M', hM, h⟩
  rcases hx with rfl | rfl <;> exact ⟨hd, this⟩
theorem Fin.ret3 {fn : Func} {R : AEnd → Mem → Prop} {x : AExit} {t u s : Nat} {v v' v'' : AV} (hx : x = .ret ∨ x = .normal) (hres : fn.results = #[.tmp t, .tmp u, .tmp s]) (hd : st.defs = []) (hv : ((st.tmps[t]?).getD .junk).ext = some v) (hv' : ((st.tmps[u]?).getD .junk).ext = some v') (hv'' : ((st.tmps[s]?).getD .junk).ext = some v'') {M' : Mem} (hM : M'.sub st.M) (h : R (.ret (.tup [v, v', v''])) M') : Fin P fn R x st := by
  have : ∃ vs, ResL P fn.results.toList st vs ∧ ∃ M', M'.sub st.M ∧ R (.ret (tupV vs)) M' := ⟨[v, v', v''], by rw [hres]; exact .cons _ _ _ _ _ (.tmp hv) (.cons _ _ _ _ _ (.tmp hv') (.cons _ _ _ _ _ (.tmp hv'') (.nil _))), M', hM, h⟩
  rcases hx with rfl | rfl <;> exact ⟨hd, this⟩
end

end Go.Am
