/- More of it: lengths, fields, pointers, loads, closures, structs and slices that are made; stores and new variables. -/
import Derived.Test.YtpephlhhdefdgaaDoorAmG
set_option linter.unusedSectionVars false
set_option linter.unusedVariables false
set_option linter.unusedSimpArgs false
namespace Go.Am
open Go.RowKit
variable [Inhabited LaidBox] {ro : Option Nat}

section
variable {P : Program} {o : Oper} {st : St}

theorem arr1 {α : Type} {a : Array α} {x : α} (h : a.toList = [x]) : a = #[x] := Array.ext' (by simpa using h)
theorem arr2 {α : Type} {a : Array α} {x y : α} (h : a.toList = [x, y]) : a = #[x, y] := Array.ext' (by simpa using h)

theorem run_builtin {b : Builtin} {c : Call} (ho : o.op = .call c) (hc : c.callee = .builtin b) (a : Act) (w w' : World) (n : Next)
    (h : (builtin b c.argTypes o.type (c.args.map fun | .const _ => true | _ => false) (c.args.map a.eval)).run P w = .ok n w') : (execOp a.eval o).run P w = .ok n w' := by
  simp only [execOp, ho, resolve, hc, invoke, Sem.run_bind, Sem.run_pure, Result.andThen_ok]
  exact h

theorem sound_ln {s : Bool} {x : Opd} {x' : Operand} {t : TypeId} {c : Call} (ho : o.op = .call c) (hc : c.callee = .builtin .len) (ha : c.args.toList = [x']) (hat : c.argTypes.toList = [t]) (ht : if s then P.underlying t = some .string else ∃ e, P.underlying t = some (.slice e)) (hx : IsOpd x x')
    {tv : TV} {p : Prop} (h : pev (.ln s x) true st = some (tv, p)) (hp : p) : OpVal P o st st tv := by
  have ha' := arr1 ha
  have hat' := arr1 hat
  cases s with
  | true =>
    simp only [pev] at h
    split at h
    · rename_i s q h1
      cases h
      refine .pure fun B E F blk rw a w hr => ?_
      obtain ⟨s1, e1, rfl⟩ := (hr.rd hx h1 hp).str_inv
      have ht' : P.underlying t = some .string := ht
      refine ⟨.int .i64 s1.data.toList.length, run_builtin ho hc a w w _ ?_, Rep.int _ _⟩
      simp [builtin, Builtin.len_, ha', hat', e1, run_underlying ht', goInt]
    · cases h
  | false =>
    simp only [pev] at h
    split at h
    · rename_i own sz es q h1
      cases h
      refine .pure fun B E F blk rw a w hr => ?_
      obtain ⟨e, ht'⟩ : ∃ e, P.underlying t = some (.slice e) := ht
      refine ⟨.int .i64 es.length, run_builtin ho hc a w w _ ?_, Rep.int _ _⟩
      rcases (hr.rd hx h1 hp).sl_inv3 with ⟨e1, rfl, _⟩ | ⟨a0, e1, rfl, _⟩ | ⟨b, of, cap, e1, _, _, _⟩
      · simp [builtin, Builtin.len_, ha', hat', e1, run_underlying ht', goInt]
      · simp [builtin, Builtin.len_, ha', hat', e1, run_underlying ht', goInt]
      · simp [builtin, Builtin.len_, ha', hat', e1, run_underlying ht', goInt]
    · cases h

/-- The kind of a type that has a nil. -/
def NKIs : NK → TypeDesc → Prop
  | .ptr, .pointer _ => True
  | .map, .map _ _ => True
  | .fn, .func _ _ _ => True
  | .iface, .interface _ => True
  | .slice, .slice _ => True
  | _, _ => False

def nilOf : NK → Value
  | .ptr => .pointer none
  | .map => .map none
  | .fn => .nilFunc
  | .iface => .nilIface
  | .slice => .slice none 0 0

theorem equal_nil {t : TypeId} {d : TypeDesc} (ht : P.underlying t = some d) {k : NK} (hk : NKIs k d) {E : Env} {v : AV} {c : Value} (hr : Rep E v c) {b : Bool} (hb : isNil k v = some b) (n : Nat) (w : World) :
    (Op.equalIn (n + 1) t c (nilOf k)).run P w = .ok b w := by
  by_cases hs : ∃ own sz e es, v = .sl own sz (e :: es)
  · obtain ⟨own, sz, e, es, rfl⟩ := hs
    cases k <;> cases d <;> simp only [NKIs] at hk <;> simp only [isNil, Option.some.injEq, reduceCtorEq] at hb
    subst hb
    rcases hr.sl_inv3 with ⟨_, h, _⟩ | ⟨_, _, h, _⟩ | ⟨b, o, cap, rfl, _, _, _⟩
    · cases h
    · cases h
    · simp only [Op.equalIn, Sem.run_bind, run_underlying ht, Result.andThen_ok, nilOf]; rfl
  · have hs' : ∀ own sz es, k = .slice → v = .sl own sz es → False := by
      rintro own sz es rfl rfl
      cases es with
      | nil => simp [isNil] at hb
      | cons e es => exact hs ⟨own, sz, e, es, rfl⟩
    cases k <;> cases d <;> simp only [NKIs] at hk <;> cases hr <;> first
      | exact (hs' _ _ _ rfl rfl).elim
      | (simp only [isNil, Option.some.injEq, reduceCtorEq] at hb; subst hb; simp only [Op.equalIn, Sem.run_bind, run_underlying ht, Result.andThen_ok, nilOf]; rfl)
      | (simp only [isNil, reduceCtorEq] at hb; done)

theorem eqGuard_nil {op : BinOp} (hop : op = .eql ∨ op = .neq) {t : TypeId} {x : Operand} {k : NK} {c : Value} (w : World) (hc : ∀ cs, c ≠ .agg cs) : (eqGuard op t x (.const (nilOf k)) c (nilOf k)).run P w = .ok () w := by
  rcases hop with rfl | rfl <;> cases c <;> cases k <;> first | exact absurd rfl (hc _) | rfl | simp [eqGuard, nilOf]

theorem sound_nl {op : BinOp} {k : NK} {x : Opd} {x' : Operand} {t t' : TypeId} {d : TypeDesc} (ho : o.op = .binOp op t x' (.const (nilOf k)) t') (hop : op = .eql ∨ op = .neq) (ht : P.underlying t = some d) (hk : NKIs k d) (hx : IsOpd x x')
    {tv : TV} {p : Prop} (h : pev (.nl op k x) true st = some (tv, p)) (hp : p) : OpVal P o st st tv := by
  have fin : ∀ (a : Act) (w : World) (b : Bool), (∀ n, (Op.equalIn (n + 1) t (a.eval x') (nilOf k)).run P w = .ok b w) → (∀ cs, a.eval x' ≠ .agg cs) → (∀ kk n, a.eval x' ≠ .int kk n) → (∀ s, a.eval x' ≠ .string s) → (∀ kk n, a.eval x' ≠ .float kk n) → (∀ kk n m, a.eval x' ≠ .complex kk n m) →
      (execOp a.eval o).run P w = .ok (.value (.bool (nlB op b))) w := by
    intro a w b he h1 h2 h3 h4 h5
    have heq : (Op.equal t (a.eval x') (nilOf k)).run P w = .ok b w := he 9999
    have hg := eqGuard_nil (P := P) hop (t := t) (x := x') (k := k) w h1
    simp only [execOp, ho]
    refine run_v ?_
    have hev : a.eval (.const (nilOf k)) = nilOf k := rfl
    rw [hev]
    simp only [Sem.run_bind, hg, Result.andThen_ok]
    rcases hop with rfl | rfl
    · have : binOp .eql t (a.eval x') (nilOf k) = (do pure (.bool (← Op.equal t (a.eval x') (nilOf k)))) := by
        cases k <;> cases hv : a.eval x' <;> first | rfl | exact absurd hv (h1 _) | exact absurd hv (h2 _ _) | exact absurd hv (h3 _) | exact absurd hv (h4 _ _) | exact absurd hv (h5 _ _ _)
      rw [this]
      simp only [Sem.run_bind, heq, Result.andThen_ok, Sem.run_pure, nlB]
    · have : binOp .neq t (a.eval x') (nilOf k) = (do pure (.bool (!(← Op.equal t (a.eval x') (nilOf k))))) := by
        cases k <;> cases hv : a.eval x' <;> first | rfl | exact absurd hv (h1 _) | exact absurd hv (h2 _ _) | exact absurd hv (h3 _) | exact absurd hv (h4 _ _) | exact absurd hv (h5 _ _ _)
      rw [this]
      simp only [Sem.run_bind, heq, Result.andThen_ok, Sem.run_pure, nlB]
  have main : ∀ (v : AV) (b : Bool), isNil k v = some b → ∀ (a : Act) (w : World) (E : Env), Rep E v (a.eval x') → (execOp a.eval o).run P w = .ok (.value (.bool (nlB op b))) w := by
    intro v b hb a w E hr
    refine fin a w b (fun n => equal_nil ht hk hr hb n w) ?_ ?_ ?_ ?_ ?_
    all_goals
      generalize a.eval x' = c at hr
      intros
      intro e
      subst e
      cases hr <;> cases k <;> simp [isNil] at hb
  simp only [pev] at h
  split at h
  · rename_i i off he
    split at h
    · cases h
      refine .pure fun B E F blk rw a w hr => ?_
      have hv := hr.opd hx
      rw [he] at hv
      obtain ⟨b, hb, hv⟩ := hv
      have hrep : Rep E (.ptr b off) (a.eval x') := by rw [hv]; exact .ptr b off
      have := main (.ptr b off) false rfl a w E hrep
      exact ⟨_, this, Rep.bool _⟩
    · cases h
  · split at h
    · rename_i v q h1
      split at h
      · rename_i b hb
        cases h
        refine .pure fun B E F blk rw a w hr => ?_
        exact ⟨_, main v b hb a w E (hr.rd hx h1 hp), Rep.bool _⟩
      · cases h
    · cases h

theorem run_part {t : TypeId} {i : TI} (h : TIOk P t i) {E : Env} (w : World) {vs : List AV} {cs : List Value} (hr : RepL E vs cs) {off : Nat} {v : AV} (hv : pickT (isAggD i.desc) i.size vs off = some v) : ∃ c, (part t cs.toArray off).run P w = .ok c w ∧ Rep E v c := by
  unfold pickT at hv
  have hlen := hr.length
  split at hv
  · rename_i hfit
    unfold part
    simp only [Sem.run_bind, h.run_isAgg w, Result.andThen_ok]
    split at hv
    · rename_i hagg
      cases hv
      refine ⟨.agg (cs.toArray.extract off (off + i.size)), by simp [hagg, h.run_size w], ?_⟩
      have := Rep.agg _ _ ((hr.drop off).take i.size)
      have he : cs.toArray.extract off (off + i.size) = ((cs.drop off).take i.size).toArray := by
        apply Array.ext'
        simp [List.extract_eq_take_drop]
      rw [he]; exact this
    · rename_i hagg
      split at hv
      · obtain ⟨c, h1, h2⟩ := hr.at off v hv
        refine ⟨c, ?_, h2⟩
        simp [hagg, h1]
      · cases hv
  · cases hv

theorem sound_fl {off n : Nat} {agg : Bool} {x : Opd} {x' : Operand} {t : TypeId} {f : Nat} {fs : Array Field} {fd : Field} {j : TI} (ho : o.op = .field t x' f) (ht : P.underlying t = some (.struct fs)) (hf : fs[f]? = some fd) (hj : TIOk P fd.type j) (hoff : off = fd.offset) (hn : n = j.size) (hagg : agg = isAggD j.desc) (hx : IsOpd x x')
    {tv : TV} {p : Prop} (h : pev (.fl off n agg x) true st = some (tv, p)) (hp : p) : OpVal P o st st tv := by
  subst hoff; subst hn; subst hagg
  simp only [pev] at h
  split at h
  · rename_i cs q h1
    split at h
    · rename_i v hv
      cases h
      refine .pure fun B E F blk rw a w hr => ?_
      obtain ⟨l, e1, hl⟩ := (hr.rd hx h1 hp).agg_inv
      obtain ⟨c, hc1, hc2⟩ := run_part hj w hl hv
      refine ⟨c, ?_, hc2⟩
      simp only [execOp, ho]
      refine run_v ?_
      simp [Instr.field, run_underlying ht, hf, e1, asAgg, hc1]
    · cases h
  · cases h

theorem sound_fa {off : Nat} {x : Opd} {x' : Operand} {t : TypeId} {f : Nat} {fs : Array Field} {fd : Field} {j : TI} (ho : o.op = .fieldAddr t x' f) (ht : P.underlying t = some (.struct fs)) (hf : fs[f]? = some fd) (hj : TIOk P fd.type j) (hz : j.size ≠ 0) (hoff : off = fd.offset) (hx : IsOpd x x')
    {tv : TV} {p : Prop} (h : pev (.fa off x) true st = some (tv, p)) (hp : p) : OpVal P o st st tv := by
  subst hoff
  have hrun : ∀ (a : Act) (w : World) (b k : Nat), a.eval x' = .pointer (some ⟨b, k, none⟩) → (execOp a.eval o).run P w = .ok (.value (.pointer (some ⟨b, k + fd.offset, none⟩))) w := by
    intro a w b k he
    simp only [execOp, ho]
    refine run_v ?_
    simp [Instr.fieldAt, run_underlying ht, hf, he, Instr.sureAddr, fieldPlace, hj.run_size w, hz, Addr.add_lit]
  simp only [pev] at h
  split at h
  · rename_i i k q he
    cases h
    refine .pure fun B E F blk rw a w hr => ?_
    obtain ⟨b, hb, hv⟩ := lp_rel (hr.opd hx) he hp
    exact ⟨_, hrun a w b k hv, ⟨b, hb, rfl⟩⟩
  · split at h
    · rename_i r k q h1
      cases h
      refine .pure fun B E F blk rw a w hr => ?_
      have e1 := (hr.rd hx h1 hp).ptr_inv
      exact ⟨_, hrun a w r k e1, Rep.ptr _ _⟩
    · rename_i sz es i k q h1
      cases h
      refine .pure fun B E F blk rw a w hr => ?_
      obtain ⟨b, oo, e1, h2, h3⟩ := (hr.rd hx h1 hp).eptr_inv
      refine ⟨_, hrun a w b _ e1, ?_⟩
      have := Rep.eptr (E := E) sz es i (k + fd.offset) b oo h2 h3
      rwa [show oo + i * sz + (k + fd.offset) = oo + i * sz + k + fd.offset by omega] at this
    · cases h

theorem sound_ia {x i : Opd} {x' i' : Operand} {t e : TypeId} {j : TI} (ho : o.op = .indexAddr t x' i') (ht : P.underlying t = some (.slice e)) (hj : TIOk P e j) (hx : IsOpd x x') (hi : IsOpd i i')
    {tv : TV} {p : Prop} (h : pev (.ia j.size x i) true st = some (tv, p)) (hp : p) : OpVal P o st st tv := by
  simp only [pev] at h
  split at h
  · rename_i own sz' es q1 k n q2 h1 h2
    cases h
    obtain ⟨p1, p2, p3, p4, rfl⟩ := hp
    refine .pure fun B E F blk rw a w hr => ?_
    have e2 := (hr.rd hi h2 p2).int_inv
    rcases (hr.rd hx h1 p1).sl_inv3 with ⟨e1, rfl, _⟩ | ⟨a0, e1, rfl, _⟩ | ⟨b, of, cap, e1, hes, _, _⟩
    · simp at p4; omega
    · simp at p4; omega
    · refine ⟨.pointer (some ⟨b, of + n.toNat * j.size, none⟩), ?_, ?_⟩
      · simp only [execOp, ho]
        refine run_v ?_
        simp [Instr.indexAt, e1, e2, asIntOf, run_underlying ht, p3, p4, hj.run_size w, Addr.add_lit]
      · have := Rep.eptr (E := E) j.size es n.toNat 0 b of hes (by omega)
        simpa [RelV] using this
  · cases h

theorem sound_ld {x : Opd} {x' : Operand} {t : TypeId} {j : TI} {n : Nat} {agg : Bool} (ho : o.op = .load t x') (hj : TIOk P t j) (hn : n = j.size) (hagg : agg = isAggD j.desc) (hx : IsOpd x x')
    {tv : TV} {p : Prop} (h : pev (.ld n agg x) true st = some (tv, p)) (hp : p) : OpVal P o st st tv := by
  subst hn; subst hagg
  simp only [pev] at h
  split at h
  · rename_i i off q he
    split at h
    · rename_i tvs hl
      split at h
      · rename_i y hy
        cases h
        refine .pure fun B E F blk rw a w hr => ?_
        obtain ⟨b, hb, hv⟩ := lp_rel (hr.opd hx) he hp
        obtain ⟨b', c, hb', hrun, hc⟩ := run_load_loc hj hr i off tvs hl _ hy
        rw [hb] at hb'; cases hb'
        refine ⟨c, ?_, hc⟩
        simp only [execOp, ho, hv]
        exact run_v hrun
      · cases h
    · cases h
  · split at h
    · rename_i r off q h1
      split at h
      · rename_i cs hM
        split at h
        · rename_i v hv
          cases h
          refine .pure fun B E F blk rw a w hr => ?_
          have e1 := (hr.rd hx h1 hp).ptr_inv
          obtain ⟨c, hrun, hc⟩ := run_load_ext hj hr r off cs hM v hv
          refine ⟨c, ?_, hc⟩
          simp only [execOp, ho, e1]
          exact run_v hrun
        · cases h
      · cases h
    · rename_i sz es i off q h1
      split at h
      · rename_i e he
        split at h
        · rename_i v hv
          cases h
          refine .pure fun B E F blk rw a w hr => ?_
          obtain ⟨b, oo, e1, h2, h3⟩ := (hr.rd hx h1 hp).eptr_inv
          obtain ⟨MM, hm⟩ := hr.mem
          obtain ⟨c, hrun, hc⟩ := run_load_elem (P := P) w hj hm.sim b (oo + i * sz) off e (h2.at i e he).1 v hv
          refine ⟨c, ?_, hc⟩
          simp only [execOp, ho, e1]
          exact run_v hrun
        · cases h
      · cases h
    · cases h

theorem sound_nc {x : Opd} {x' : Operand} (ho : o.op = .nilCheck x') (hx : IsOpd x x') {tv : TV} {p : Prop} (h : pev (.nc x) true st = some (tv, p)) (hp : p) : OpVal P o st st tv := by
  simp only [pev] at h
  split at h
  · rename_i i k he
    cases h
    refine .pure fun B E F blk rw a w hr => ?_
    have hv := hr.opd hx
    rw [he] at hv
    obtain ⟨b, hb, hv⟩ := hv
    exact ⟨_, by simp [execOp, ho, hv], ⟨b, hb, rfl⟩⟩
  · split at h
    · rename_i r k q h1
      cases h
      refine .pure fun B E F blk rw a w hr => ?_
      have e1 := (hr.rd hx h1 hp).ptr_inv
      exact ⟨_, by simp [execOp, ho, e1], Rep.ptr _ _⟩
    · rename_i sz es i k q h1
      cases h
      refine .pure fun B E F blk rw a w hr => ?_
      obtain ⟨b, oo, e1, h2, h3⟩ := (hr.rd hx h1 hp).eptr_inv
      exact ⟨_, by simp [execOp, ho, e1], Rep.eptr sz es i k b oo h2 h3⟩
    · rename_i f a' b' q h1
      cases h
      refine .pure fun B E F blk rw a w hr => ?_
      have hrep := hr.rd hx h1 hp
      obtain ⟨l1, l2, e1, h2, h3⟩ := hrep.fn_inv
      rw [e1] at hrep
      exact ⟨_, by simp [execOp, ho, e1], hrep⟩
    · cases h

theorem sound_mi {x : Opd} {x' : Operand} {t : TypeId} {d : TypeDesc} (ho : o.op = .makeInterface t x') (ht : P.underlying t = some d) (hd : ∀ ms, d ≠ .interface ms) (hx : IsOpd x x') {tv : TV} {p : Prop} (h : pev (.mi t x) true st = some (tv, p)) (hp : p) : OpVal P o st st tv := by
  simp only [pev] at h
  split at h
  · rename_i v q h1
    cases h
    refine .pure fun B E F blk rw a w hr => ?_
    refine ⟨_, ?_, Rep.iface t v _ (hr.rd hx h1 hp)⟩
    simp only [execOp, ho]
    refine run_v ?_
    simp only [Instr.makeInterface, Sem.run_bind, run_underlying ht, Result.andThen_ok]
    cases d <;> first | rfl | exact absurd rfl (hd _)
  · cases h

theorem rdL_rep {B : Nat} {E : Env} {F : Mem} {blk rw : List Nat} {a : Act} {w : World} (hr : Rel B E F blk rw st a w) : ∀ {xs : List Opd} {ys : List Operand} {vs : List AV} {p : Prop}, xs.length = ys.length → (∀ (i : Nat) (x : Opd), xs[i]? = some x → ∃ y, ys[i]? = some y ∧ IsOpd x y) → rdL true st.get xs = some (vs, p) → p → RepL E vs (ys.map a.eval)
  | [], ys, vs, p, hl, hxy, h, hp => by
    cases h
    have : ys = [] := List.eq_nil_of_length_eq_zero hl.symm
    subst this
    exact .nil
  | x :: xs, [], vs, p, hl, hxy, h, hp => by simp at hl
  | x :: xs, y :: ys, vs, p, hl, hxy, h, hp => by
    unfold rdL at h
    split at h
    · rename_i v q1 vs' q2 h1 h2
      cases h
      obtain ⟨y', hy', hx⟩ := hxy 0 x (by simp)
      simp at hy'
      subst hy'
      exact .cons _ _ _ _ (hr.rd hx h1 hp.1) (rdL_rep hr (by simpa using hl) (fun i z hz => by simpa using hxy (i + 1) z (by simpa using hz)) h2 hp.2)
    · cases h

theorem sound_mf {fn : Fn} {first cap : List Opd} {first' cap' : Array Operand} (ho : o.op = .makeFunc fn first' cap')
    (h1 : first.length = first'.toList.length ∧ ∀ (i : Nat) (x : Opd), first[i]? = some x → ∃ y, first'.toList[i]? = some y ∧ IsOpd x y)
    (h2 : cap.length = cap'.toList.length ∧ ∀ (i : Nat) (x : Opd), cap[i]? = some x → ∃ y, cap'.toList[i]? = some y ∧ IsOpd x y)
    {tv : TV} {p : Prop} (h : pev (.mf fn first cap) true st = some (tv, p)) (hp : p) : OpVal P o st st tv := by
  simp only [pev] at h
  split at h
  · rename_i a q1 b q2 k1 k2
    cases h
    refine .pure fun B E F blk rw ac w hr => ?_
    have r1 := rdL_rep hr h1.1 h1.2 k1 hp.1
    have r2 := rdL_rep hr h2.1 h2.2 k2 hp.2
    refine ⟨.func fn (first'.map ac.eval) (cap'.map ac.eval), by simp [execOp, ho, Instr.makeFunc], ?_⟩
    have := Rep.fn (E := E) fn a b _ _ r1 r2
    simpa [RelV, ← Array.toList_map] using this
  · cases h

theorem sound_ex {x : Opd} {x' : Operand} {i : Nat} (ho : o.op = .extract x' i) (hx : IsOpd x x') {tv : TV} {p : Prop} (h : pev (.ex x i) true st = some (tv, p)) (hp : p) : OpVal P o st st tv := by
  simp only [pev] at h
  split at h
  · rename_i vs q h1
    split at h
    · rename_i v hv
      cases h
      refine .pure fun B E F blk rw a w hr => ?_
      obtain ⟨l, e1, hl⟩ := (hr.rd hx h1 hp).tup_inv
      obtain ⟨c, hc1, hc2⟩ := hl.at i v hv
      exact ⟨c, by simp [execOp, ho, e1, Instr.extract, hc1], hc2⟩
    · cases h
  · cases h

theorem sound_cv {k k0 : IntKind} {x : Opd} {x' : Operand} {s d : TypeId} (ho : o.op = .convert s d x') (hs : P.underlying s = some (.int k0)) (hd : P.underlying d = some (.int k)) (hx : IsOpd x x') {tv : TV} {p : Prop} (h : pev (.cv k x) true st = some (tv, p)) (hp : p) : OpVal P o st st tv := by
  simp only [pev] at h
  split at h
  · rename_i k1 n q h1
    cases h
    obtain ⟨p1, p2⟩ := hp
    refine .pure fun B E F blk rw a w hr => ?_
    have e1 := (hr.rd hx h1 p1).int_inv
    refine ⟨.int k n, ?_, Rep.int _ _⟩
    simp only [execOp, ho, e1]
    refine run_v ?_
    simp [convert, run_underlying hs, run_underlying hd, Conv.intToInt, p2.wrap]
  · cases h

theorem sound_cvs {x : Opd} {x' : Operand} {s d : TypeId} (ho : o.op = .convert s d x') (hs : P.underlying s = some .string) (hd : P.underlying d = some .string) (hx : IsOpd x x') {tv : TV} {p : Prop} (h : pev (.cvs x) true st = some (tv, p)) (hp : p) : OpVal P o st st tv := by
  simp only [pev] at h
  split at h
  · rename_i v q h1
    cases h
    refine .pure fun B E F blk rw a w hr => ?_
    obtain ⟨b, e1, rfl⟩ := (hr.rd hx h1 hp).str_inv
    refine ⟨.string b, ?_, Rep.str b⟩
    simp only [execOp, ho, e1]
    refine run_v ?_
    simp [convert, run_underlying hs, run_underlying hd]
  · cases h

theorem sound_mn {mx : Bool} {x y : Opd} {x' y' : Operand} {c : Call} (ho : o.op = .call c) (hc : c.callee = .builtin (if mx then .max else .min)) (ha : c.args.toList = [x', y']) (hx : IsOpd x x') (hy : IsOpd y y')
    {tv : TV} {p : Prop} (h : pev (.mn mx x y) true st = some (tv, p)) (hp : p) : OpVal P o st st tv := by
  have ha' := arr2 ha
  simp only [pev] at h
  split at h
  · rename_i k a q1 k' b q2 h1 h2
    cases h
    refine .pure fun B E F blk rw ac w hr => ?_
    have e1 := (hr.rd hx h1 hp.1).int_inv
    have e2 := (hr.rd hy h2 hp.2).int_inv
    refine ⟨_, run_builtin ho hc ac w w _ ?_, Rep.int _ _⟩
    cases mx with
    | true =>
      simp only [if_true, builtin, ha', Builtin.max_, List.map_toArray, List.map, e1, e2, List.foldlM_cons, List.foldlM_nil, Builtin.max2, Sem.run_bind, Sem.run_pure, Result.andThen_ok]
      congr 3
      simp only [Int.max_def]; split <;> split <;> omega
    | false =>
      simp only [Bool.false_eq_true, if_false, builtin, ha', Builtin.min_, List.map_toArray, List.map, e1, e2, List.foldlM_cons, List.foldlM_nil, Builtin.min2, Sem.run_bind, Sem.run_pure, Result.andThen_ok]
      congr 3
      simp only [Int.min_def]; split <;> split <;> omega
  · cases h
end
end Go.Am
