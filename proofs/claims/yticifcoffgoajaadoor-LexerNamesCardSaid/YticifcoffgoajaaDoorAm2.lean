import Derived.Test.YticifcoffgoajaaDoorAm1
/- More of it: lengths, fields, pointers, loads, closures, structs and slices that are made; stores and new variables. -/
set_option linter.unusedSectionVars false
set_option linter.unusedVariables false
set_option linter.unusedSimpArgs false
namespace Go.Am
open Go.RowKit
variable [Inhabited LaidBox] {ro : Option Nat}

section
variable {P : Program} {o : Oper} {st : St}

theorem arr1 {α : Type} {a : Array α} {x : α} (h : a.toList = [x]) : a = #[x] := Array.ext' (by simpa using h)
theorem arr2 {α : Type} {a : Array α} {x y : α} (h : a.toList = [x, y]) : a = #[x, y] := Array.ext' (by simpa using h)

theorem run_builtin {b : Builtin} {c : Call} (ho : o.op = .call c) (hc : c.callee = .builtin b) (a : Act) (w w' : World) (n : Next)
    (h : (builtin b c.argTypes o.type (c.args.map fun | .const _ => true | _ => false) (c.args.map a.eval)).run P w = .ok n w') : (execOp a.eval o).run P w = .ok n w' := by
  simp only [execOp, ho, resolve, hc, invoke, Sem.run_bind, Sem.run_pure, Result.andThen_ok]
  exact h

theorem sound_ln {s : Bool} {x : Opd} {x' : Operand} {t : TypeId} {c : Call} (ho : o.op = .call c) (hc : c.callee = .builtin .len) (ha : c.args.toList = [x']) (hat : c.argTypes.toList = [t]) (ht : if s then P.underlying t = some .string else ∃ e, P.underlying t = some (.slice e)) (hx : IsOpd x x')
    {tv : TV} {p : Prop} (h : pev (.ln s x) true st = some (tv, p)) (hp : p) : OpVal P o st st tv := by
  have ha' := arr1 ha
  have hat' := arr1 hat
  cases s with
  | true =>
    simp only [pev] at h
    split at h
    · rename_i s q h1
      cases h
      refine .pure fun B E F blk rw a w hr => ?_
      obtain ⟨s1, e1, rfl⟩ := (hr.rd hx h1 hp).str_inv
      have ht' : P.underlying t = some .string := ht
      refine ⟨.int .i64 s1.data.toList.length, run_builtin ho hc a w w _ ?_, Rep.int _ _⟩
      simp [builtin, Builtin.len_, ha', hat', e1, run_underlying ht', goInt]
    · cases h
  | false =>
    simp only [pev] at h
    split at h
    · rename_i own sz es q h1
      cases h
      refine .pure fun B E F blk rw a w hr => ?_
      obtain ⟨e, ht'⟩ : ∃ e, P.underlying t = some (.slice e) := ht
      refine ⟨.int .i64 es.length, run_builtin ho hc a w w _ ?_, Rep.int _ _⟩
      rcases (hr.rd hx h1 hp).sl_inv3 with ⟨e1, rfl, _⟩ | ⟨a0, e1, rfl, _⟩ | ⟨b, of, cap, e1, _, _, _⟩
      · simp [builtin, Builtin.len_, ha', hat', e1, run_underlying ht', goInt]
      · simp [builtin, Builtin.len_, ha', hat', e1, run_underlying ht', goInt]
      · simp [builtin, Builtin.len_, ha', hat', e1, run_underlying ht', goInt]
    · cases h

/-- The kind of a type that has a nil. -/
def NKIs : NK → TypeDesc → Prop
  | .ptr, .pointer _ => True
  | .map, .map _ _ => True
  | .fn, .func _ _ _ => True
  | .iface, .interface _ => True
  | .slice, .slice _ => True
  | _, _ => False

def nilOf : NK → Value
  | .ptr => .pointer none
  | .map => .map none
  | .fn => .nilFunc
  | .iface => .nilIface
  | .slice => .slice none 0 0

theorem equal_nil {t : TypeId} {d : TypeDesc} (ht : P.underlying t = some d) {k : NK} (hk : NKIs k d) {E : Env} {v : AV} {c : Value} (hr : Rep E v c) {b : Bool} (hb : isNil k v = some b) (n : Nat) (w : World) :
    (Op.equalIn (n + 1) t c (nilOf k)).run P w = .ok b w := by
  by_cases hs : ∃ own sz e es, v = .sl own sz (e :: es)
  · obtain ⟨own, sz, e, es, rfl⟩ := hs
    cases k <;> cases d <;> simp only [NKIs] at hk <;> simp only [isNil, Option.some.injEq, reduceCtorEq] at hb
    subst hb
    rcases hr.sl_inv3 with ⟨_, h, _⟩ | ⟨_, _, h, _⟩ | ⟨b, o, cap, rfl, _, _, _⟩
    · cases h
    · cases h
    · simp only [Op.equalIn, Sem.run_bind, run_underlying ht, Result.andThen_ok, nilOf]; rfl
  · have hs' : ∀ own sz es, k = .slice → v = .sl own sz es → False := by
      rintro own sz es rfl rfl
      cases es with
      | nil => simp [isNil] at hb
      | cons e es => exact hs ⟨own, sz, e, es, rfl⟩
    cases k <;> cases d <;> simp only [NKIs] at hk <;> cases hr <;> first
      | exact (hs' _ _ _ rfl rfl).elim
      | (simp only [isNil, Option.some.injEq, reduceCtorEq] at hb; subst hb; simp only [Op.equalIn, Sem.run_bind, run_underlying ht, Result.andThen_ok, nilOf]; rfl)
      | (simp only [isNil, reduceCtorEq] at hb; done)

theorem eqGuard_nil {op : BinOp} (hop : op = .eql ∨ op = .neq) {t : TypeId} {x : Operand} {k : NK} {c : Value} (w : World) (hc : ∀ cs, c ≠ .agg cs) : (eqGuard op t x (.const (nilOf k)) c (nilOf k)).run P w = .ok () w := by
  rcases hop with rfl | rfl <;> cases c <;> cases k <;> first | exact absurd rfl (hc _) | rfl | simp [eqGuard, nilOf]

theorem sound_nl {op : BinOp} {k : NK} {x : Opd} {x' : Operand} {t t' : TypeId} {d : TypeDesc} (ho : o.op = .binOp op t x' (.const (nilOf k)) t') (hop : op = .eql ∨ op = .neq) (ht : P.underlying t = some d) (hk : NKIs k d) (hx : IsOpd x x')
    {tv : TV} {p : Prop} (h : pev (.nl op k x) true st = some (tv, p)) (hp : p) : OpVal P o st st tv := by
  have fin : ∀ (a : Act) (w : World) (b : Bool), (∀ n, (Op.equalIn (n + 1) t (a.eval x') (nilOf k)).run P w = .ok b w) → (∀ cs, a.eval x' ≠ .agg cs) → (∀ kk n, a.eval x' ≠ .int kk n) → (∀ s, a.eval x' ≠ .string s) → (∀ kk n, a.eval x' ≠ .float kk n) → (∀ kk n m, a.eval x' ≠ .complex kk n m) →
      (execOp a.eval o).run P w = .ok (.value (.bool (nlB op b))) w := by
    intro a w b he h1 h2 h3 h4 h5
    have heq : (Op.equal t (a.eval x') (nilOf k)).run P w = .ok b w := he 9999
    have hg := eqGuard_nil (P := P) hop (t := t) (x := x') (k := k) w h1
    simp only [execOp, ho]
    refine run_v ?_
    have hev : a.eval (.const (nilOf k)) = nilOf k := rfl
    rw [hev]
    simp only [Sem.run_bind, hg, Result.andThen_ok]
    rcases hop with rfl | rfl
    · have : binOp .eql t (a.eval x') (nilOf k) = (do pure (.bool (← Op.equal t (a.eval x') (nilOf k)))) := by
        cases k <;> cases hv : a.eval x' <;> first | rfl | exact absurd hv (h1 _) | exact absurd hv (h2 _ _) | exact absurd hv (h3 _) | exact absurd hv (h4 _ _) | exact absurd hv (h5 _ _ _)
      rw [this]
      simp only [Sem.run_bind, heq, Result.andThen_ok, Sem.run_pure, nlB]
    · have : binOp .neq t (a.eval x') (nilOf k) = (do pure (.bool (!(← Op.equal t (a.eval x') (nilOf k))))) := by
        cases k <;> cases hv : a.eval x' <;> first | rfl | exact absurd hv (h1 _) | exact absurd hv (h2 _ _) | exact absurd hv (h3 _) | exact absurd hv (h4 _ _) | exact absurd hv (h5 _ _ _)
      rw [this]
      simp only [Sem.run_bind, heq, Result.andThen_ok, Sem.run_pure, nlB]
  have main : ∀ (v : AV) (b : Bool), isNil k v = some b → ∀ (a : Act) (w : World) (E : Env), Rep E v (a.eval x') → (execOp a.eval o).run P w = .ok (.value (.bool (nlB op b))) w := by
    intro v b hb a w E hr
    refine fin a w b (fun n => equal_nil ht hk hr hb n w) ?_ ?_ ?_ ?_ ?_
    all_goals
      generalize a.eval x' = c at hr
      intros
      intro e
      subst e
      cases hr <;> cases k <;> simp [isNil] at hb
  simp only [pev] at h
  split at h
  · rename_i i off he
    split at h
    · cases h
      refine .pure fun B E F blk rw a w hr => ?_
      have hv := hr.opd hx
      rw [he] at hv
      obtain ⟨b, hb, hv⟩ := hv
      have hrep : Rep E (.ptr b off) (a.eval x') := by rw [hv]; exact .ptr b off
      have := main (.ptr b off) false rfl a w E hrep
      exact ⟨_, this, Rep.bool _⟩
    · cases h
  · split at h
    · rename_i v q h1
      split at h
      · rename_i b hb
        cases h
        refine .pure fun B E F blk rw a w hr => ?_
        exact ⟨_, main v b hb a w E (hr.rd hx h1 hp), Rep.bool _⟩
      · cases h
    · cases h

theorem run_part {t : TypeId} {i : TI} (h : TIOk P t i) {E : Env} (w : World) {vs : List AV} {cs : List Value} (hr : RepL E vs cs) {off : Nat} {v : AV} (hv : pickT (isAggD i.desc) i.size vs off = some v) : ∃ c, (part t cs.toArray off).run P w = .ok c w ∧ Rep E v c := by
  unfold pickT at hv
  have hlen := hr.length
  split at hv
  · rename_i hfit
    unfold part
    simp only [Sem.run_bind, h.run_isAgg w, Result.andThen_ok]
    split at hv
    · rename_i hagg
      cases hv
      refine ⟨.agg (cs.toArray.extract off (off + i.size)), by simp [hagg, h.run_size w], ?_⟩
      have := Rep.agg _ _ ((hr.drop off).take i.size)
      have he : cs.toArray.extract off (off + i.size) = ((cs.drop off).take i.size).toArray := by
        apply Array.ext'
        simp [List.extract_eq_take_drop]
      rw [he]; exact this
    · rename_i hagg
      split at hv
      · obtain ⟨c, h1, h2⟩ := hr.at off v hv
        refine ⟨c, ?_, h2⟩
        simp [hagg, h1]
      · cases hv
  · cases hv

theorem sound_fl {off n : Nat} {agg : Bool} {x : Opd} {x' : Operand} {t : TypeId} {f : Nat} {fs : Array Field} {fd : Field} {j : TI} (ho : o.op = .field t x' f) (ht : P.underlying t = some (.struct fs)) (hf : fs[f]? = some fd) (hj : TIOk P fd.type j) (hoff : off = fd.offset) (hn : n = j.size) (hagg : agg = isAggD j.desc) (hx : IsOpd x x')
    {tv : TV} {p : Prop} (h : pev (.fl off n agg x) true st = some (tv, p)) (hp : p) : OpVal P o st st tv := by
  subst hoff; subst hn; subst hagg
  simp only [pev] at h
  split at h
  · rename_i cs q h1
    split at h
    · rename_i v hv
      cases h
      refine .pure fun B E F blk rw a w hr => ?_
      obtain ⟨l, e1, hl⟩ := (hr.rd hx h1 hp).agg_inv
      obtain ⟨c, hc1, hc2⟩ := run_part hj w hl hv
      refine ⟨c, ?_, hc2⟩
      simp only [execOp, ho]
      refine run_v ?_
      simp [Instr.field, run_underlying ht, hf, e1, asAgg, hc1]
    · cases h
  · cases h

theorem sound_fa {off : Nat} {x : Opd} {x' : Operand} {t : TypeId} {f : Nat} {fs : Array Field} {fd : Field} {j : TI} (ho : o.op = .fieldAddr t x' f) (ht : P.underlying t = some (.struct fs)) (hf : fs[f]? = some fd) (hj : TIOk P fd.type j) (hz : j.size ≠ 0) (hoff : off = fd.offset) (hx : IsOpd x x')
    {tv : TV} {p : Prop} (h : pev (.fa off x) true st = some (tv, p)) (hp : p) : OpVal P o st st tv := by
  subst hoff
  have hrun : ∀ (a : Act) (w : World) (b k : Nat), a.eval x' = .pointer (some ⟨b, k, none⟩) → (execOp a.eval o).run P w = .ok (.value (.pointer (some ⟨b, k + fd.offset, none⟩))) w := by
    intro a w b k he
    simp only [execOp, ho]
    refine run_v ?_
    simp [Instr.fieldAt, run_underlying ht, hf, he, Instr.sureAddr, fieldPlace, hj.run_size w, hz, Addr.add_lit]
  simp only [pev] at h
  split at h
  · rename_i i k q he
    cases h
    refine .pure fun B E F blk rw a w hr => ?_
    obtain ⟨b, hb, hv⟩ := lp_rel (hr.opd hx) he hp
    exact ⟨_, hrun a w b k hv, ⟨b, hb, rfl⟩⟩
  · split at h
    · rename_i r k q h1
      cases h
      refine .pure fun B E F blk rw a w hr => ?_
      have e1 := (hr.rd hx h1 hp).ptr_inv
      exact ⟨_, hrun a w r k e1, Rep.ptr _ _⟩
    · rename_i sz es i k q h1
      cases h
      refine .pure fun B E F blk rw a w hr => ?_
      obtain ⟨b, oo, e1, h2, h3⟩ := (hr.rd hx h1 hp).eptr_inv
      refine ⟨_, hrun a w b _ e1, ?_⟩
      have := Rep.eptr (E := E) sz es i (k + fd.offset) b oo h2 h3
      rwa [show oo + i * sz + (k + fd.offset) = oo + i * sz + k + fd.offset by omega] at this
    · cases h

theorem sound_ia {x i : Opd} {x' i' : Operand} {t e : TypeId} {j : TI} (ho : o.op = .indexAddr t x' i') (ht : P.underlying t = some (.slice e)) (hj : TIOk P e j) (hx : IsOpd x x') (hi : IsOpd i i')
    {tv : TV} {p : Prop} (h : pev (.ia j.size x i) true st = some (tv, p)) (hp : p) : OpVal P o st st tv := by
  simp only [pev] at h
  split at h
  · rename_i own sz' es q1 k n q2 h1 h2
    cases h
    obtain ⟨p1, p2, p3, p4, rfl⟩ := hp
    refine .pure fun B E F blk rw a w hr => ?_
    have e2 := (hr.rd hi h2 p2).int_inv
    rcases (hr.rd hx h1 p1).sl_inv3 with ⟨e1, rfl, _⟩ | ⟨a0, e1, rfl, _⟩ | ⟨b, of, cap, e1, hes, _, _⟩
    · simp at p4; omega
    · simp at p4; omega
    · refine ⟨.pointer (some ⟨b, of + n.toNat * j.size, none⟩), ?_, ?_⟩
      · simp only [execOp, ho]
        refine run_v ?_
        simp [Instr.indexAt, e1, e2, asIntOf, run_underlying ht, p3, p4, hj.run_size w, Addr.add_lit]
      · have := Rep.eptr (E := E) j.size es n.toNat 0 b of hes (by omega)
        simpa [RelV] using this
  · cases h

theorem sound_iaa {x i : Opd} {x' i' : Operand} {t e : TypeId} {j : TI} {len : Nat} (ho : o.op = .indexAddr t x' i') (ht : P.underlying t = some (.array len e)) (hj : TIOk P e j) (hx : IsOpd x x') (hi : IsOpd i i')
    {tv : TV} {p : Prop} (h : pev (.iaa len j.size x i) true st = some (tv, p)) (hp : p) : OpVal P o st st tv := by
  have hrun : ∀ (a : Act) (w : World) (b k : Nat) (kk : IntKind) (n : Int), a.eval x' = .pointer (some ⟨b, k, none⟩) → a.eval i' = .int kk n → 0 ≤ n → n < len → (execOp a.eval o).run P w = .ok (.value (.pointer (some ⟨b, k + n.toNat * j.size, none⟩))) w := by
    intro a w b k kk n he e2 p3 p4
    simp only [execOp, ho]
    refine run_v ?_
    simp [Instr.indexAt, he, e2, asIntOf, run_underlying ht, p3, p4, hj.run_size w, Instr.sureAddr, Addr.add_lit]
  simp only [pev] at h
  split at h
  · rename_i k n q2 h2
    split at h
    · rename_i b of q1 he
      cases h
      obtain ⟨p1, p2, p3, p4⟩ := hp
      refine .pure fun B E F blk rw a w hr => ?_
      have e2 := (hr.rd hi h2 p2).int_inv
      obtain ⟨b', hb, hv⟩ := lp_rel (hr.opd hx) he p1
      exact ⟨_, hrun a w b' of k n hv e2 p3 p4, ⟨b', hb, rfl⟩⟩
    · split at h
      · rename_i r of q1 h1
        cases h
        obtain ⟨p1, p2, p3, p4⟩ := hp
        refine .pure fun B E F blk rw a w hr => ?_
        have e2 := (hr.rd hi h2 p2).int_inv
        have e1 := (hr.rd hx h1 p1).ptr_inv
        exact ⟨_, hrun a w r of k n e1 e2 p3 p4, Rep.ptr _ _⟩
      · cases h
  · cases h

theorem sound_iag {i : Opd} {i' : Operand} {t e : TypeId} {j : TI} {gl len : Nat} (ho : o.op = .indexAddr t (.global gl) i') (ht : P.underlying t = some (.array len e)) (hj : TIOk P e j) (hj1 : j.size = 1) (hi : IsOpd i i')
    {tv : TV} {p : Prop} (h : pev (.iag gl len i) true st = some (tv, p)) (hp : p) : OpVal P o st st tv := by
  simp only [pev] at h
  split at h
  · rename_i k n q2 h2
    split at h
    · rename_i kk z htab
      cases h
      obtain ⟨p2, p3, p4⟩ := hp
      refine .pure fun B E F blk rw a w hr => ?_
      have e2 := (hr.rd hi h2 p2).int_inv
      obtain ⟨MM, hm⟩ := hr.mem
      obtain ⟨G, nr, hs⟩ := hm.sim
      have hcell := (default : LaidBox).sound E.base hs.ok.1 gl n.toNat kk z htab
      refine ⟨.pointer (some ⟨gl, n.toNat, none⟩), ?_, Rep.gptr kk z gl n.toNat hcell⟩
      simp only [execOp, ho]
      refine run_v ?_
      have e1 : a.eval (.global gl) = .pointer (some ⟨gl, 0, none⟩) := rfl
      simp [Instr.indexAt, e1, e2, asIntOf, run_underlying ht, p3, p4, hj.run_size w, hj1, Instr.sureAddr, Addr.add_lit]
    · cases h
  · cases h

theorem sound_ld {x : Opd} {x' : Operand} {t : TypeId} {j : TI} {n : Nat} {agg : Bool} (ho : o.op = .load t x') (hj : TIOk P t j) (hn : n = j.size) (hagg : agg = isAggD j.desc) (hx : IsOpd x x')
    {tv : TV} {p : Prop} (h : pev (.ld n agg x) true st = some (tv, p)) (hp : p) : OpVal P o st st tv := by
  subst hn; subst hagg
  simp only [pev] at h
  split at h
  · rename_i i off q he
    split at h
    · rename_i tvs hl
      split at h
      · rename_i y hy
        cases h
        refine .pure fun B E F blk rw a w hr => ?_
        obtain ⟨b, hb, hv⟩ := lp_rel (hr.opd hx) he hp
        obtain ⟨b', c, hb', hrun, hc⟩ := run_load_loc hj hr i off tvs hl _ hy
        rw [hb] at hb'; cases hb'
        refine ⟨c, ?_, hc⟩
        simp only [execOp, ho, hv]
        exact run_v hrun
      · cases h
    · cases h
  · split at h
    · rename_i r off q h1
      split at h
      · rename_i cs hM
        split at h
        · rename_i v hv
          cases h
          refine .pure fun B E F blk rw a w hr => ?_
          have e1 := (hr.rd hx h1 hp).ptr_inv
          obtain ⟨c, hrun, hc⟩ := run_load_ext hj hr r off cs hM v hv
          refine ⟨c, ?_, hc⟩
          simp only [execOp, ho, e1]
          exact run_v hrun
        · cases h
      · cases h
    · rename_i sz es i off q h1
      split at h
      · rename_i e he
        split at h
        · rename_i v hv
          cases h
          refine .pure fun B E F blk rw a w hr => ?_
          obtain ⟨b, oo, e1, h2, h3⟩ := (hr.rd hx h1 hp).eptr_inv
          obtain ⟨MM, hm⟩ := hr.mem
          obtain ⟨c, hrun, hc⟩ := run_load_elem (P := P) w hj hm.sim b (oo + i * sz) off e (h2.at i e he).1 v hv
          refine ⟨c, ?_, hc⟩
          simp only [execOp, ho, e1]
          exact run_v hrun
        · cases h
      · cases h
    · rename_i k z q h1
      cases h
      obtain ⟨hq, hn1, ha⟩ := hp
      refine .pure fun B E F blk rw a w hr => ?_
      obtain ⟨g, i, e1, hcell⟩ := (hr.rd hx h1 hq).gptr_inv
      obtain ⟨MM, hm⟩ := hr.mem
      obtain ⟨c, hrun, hc⟩ := run_load_base (P := P) w hj hm.sim g i k z hcell hn1 ha rfl rfl
      refine ⟨c, ?_, hc⟩
      simp only [execOp, ho, e1]
      exact run_v hrun
    · cases h

theorem sound_nc {x : Opd} {x' : Operand} (ho : o.op = .nilCheck x') (hx : IsOpd x x') {tv : TV} {p : Prop} (h : pev (.nc x) true st = some (tv, p)) (hp : p) : OpVal P o st st tv := by
  simp only [pev] at h
  split at h
  · rename_i i k he
    cases h
    refine .pure fun B E F blk rw a w hr => ?_
    have hv := hr.opd hx
    rw [he] at hv
    obtain ⟨b, hb, hv⟩ := hv
    exact ⟨_, by simp [execOp, ho, hv], ⟨b, hb, rfl⟩⟩
  · split at h
    · rename_i r k q h1
      cases h
      refine .pure fun B E F blk rw a w hr => ?_
      have e1 := (hr.rd hx h1 hp).ptr_inv
      exact ⟨_, by simp [execOp, ho, e1], Rep.ptr _ _⟩
    · rename_i sz es i k q h1
      cases h
      refine .pure fun B E F blk rw a w hr => ?_
      obtain ⟨b, oo, e1, h2, h3⟩ := (hr.rd hx h1 hp).eptr_inv
      exact ⟨_, by simp [execOp, ho, e1], Rep.eptr sz es i k b oo h2 h3⟩
    · rename_i f a' b' q h1
      cases h
      refine .pure fun B E F blk rw a w hr => ?_
      have hrep := hr.rd hx h1 hp
      obtain ⟨l1, l2, e1, h2, h3⟩ := hrep.fn_inv
      rw [e1] at hrep
      exact ⟨_, by simp [execOp, ho, e1], hrep⟩
    · cases h

theorem sound_mi {x : Opd} {x' : Operand} {t : TypeId} {d : TypeDesc} (ho : o.op = .makeInterface t x') (ht : P.underlying t = some d) (hd : ∀ ms, d ≠ .interface ms) (hx : IsOpd x x') {tv : TV} {p : Prop} (h : pev (.mi t x) true st = some (tv, p)) (hp : p) : OpVal P o st st tv := by
  simp only [pev] at h
  split at h
  · rename_i v q h1
    cases h
    refine .pure fun B E F blk rw a w hr => ?_
    refine ⟨_, ?_, Rep.iface t v _ (hr.rd hx h1 hp)⟩
    simp only [execOp, ho]
    refine run_v ?_
    simp only [Instr.makeInterface, Sem.run_bind, run_underlying ht, Result.andThen_ok]
    cases d <;> first | rfl | exact absurd rfl (hd _)
  · cases h

theorem rdL_rep {B : Nat} {E : Env} {F : Mem} {blk rw : List Nat} {a : Act} {w : World} (hr : Rel B E F blk rw st a w) : ∀ {xs : List Opd} {ys : List Operand} {vs : List AV} {p : Prop}, xs.length = ys.length → (∀ (i : Nat) (x : Opd), xs[i]? = some x → ∃ y, ys[i]? = some y ∧ IsOpd x y) → rdL true st.get xs = some (vs, p) → p → RepL E vs (ys.map a.eval)
  | [], ys, vs, p, hl, hxy, h, hp => by
    cases h
    have : ys = [] := List.eq_nil_of_length_eq_zero hl.symm
    subst this
    exact .nil
  | x :: xs, [], vs, p, hl, hxy, h, hp => by simp at hl
  | x :: xs, y :: ys, vs, p, hl, hxy, h, hp => by
    unfold rdL at h
    split at h
    · rename_i v q1 vs' q2 h1 h2
      cases h
      obtain ⟨y', hy', hx⟩ := hxy 0 x (by simp)
      simp at hy'
      subst hy'
      exact .cons _ _ _ _ (hr.rd hx h1 hp.1) (rdL_rep hr (by simpa using hl) (fun i z hz => by simpa using hxy (i + 1) z (by simpa using hz)) h2 hp.2)
    · cases h

theorem sound_mf {fn : Fn} {first cap : List Opd} {first' cap' : Array Operand} (ho : o.op = .makeFunc fn first' cap')
    (h1 : first.length = first'.toList.length ∧ ∀ (i : Nat) (x : Opd), first[i]? = some x → ∃ y, first'.toList[i]? = some y ∧ IsOpd x y)
    (h2 : cap.length = cap'.toList.length ∧ ∀ (i : Nat) (x : Opd), cap[i]? = some x → ∃ y, cap'.toList[i]? = some y ∧ IsOpd x y)
    {tv : TV} {p : Prop} (h : pev (.mf fn first cap) true st = some (tv, p)) (hp : p) : OpVal P o st st tv := by
  simp only [pev] at h
  split at h
  · rename_i a q1 b q2 k1 k2
    cases h
    refine .pure fun B E F blk rw ac w hr => ?_
    have r1 := rdL_rep hr h1.1 h1.2 k1 hp.1
    have r2 := rdL_rep hr h2.1 h2.2 k2 hp.2
    refine ⟨.func fn (first'.map ac.eval) (cap'.map ac.eval), by simp [execOp, ho, Instr.makeFunc], ?_⟩
    have := Rep.fn (E := E) fn a b _ _ r1 r2
    simpa [RelV, ← Array.toList_map] using this
  · cases h

theorem sound_ex {x : Opd} {x' : Operand} {i : Nat} (ho : o.op = .extract x' i) (hx : IsOpd x x') {tv : TV} {p : Prop} (h : pev (.ex x i) true st = some (tv, p)) (hp : p) : OpVal P o st st tv := by
  simp only [pev] at h
  split at h
  · rename_i vs q h1
    split at h
    · rename_i v hv
      cases h
      refine .pure fun B E F blk rw a w hr => ?_
      obtain ⟨l, e1, hl⟩ := (hr.rd hx h1 hp).tup_inv
      obtain ⟨c, hc1, hc2⟩ := hl.at i v hv
      exact ⟨c, by simp [execOp, ho, e1, Instr.extract, hc1], hc2⟩
    · cases h
  · cases h

theorem sound_cv {k k0 : IntKind} {x : Opd} {x' : Operand} {s d : TypeId} (ho : o.op = .convert s d x') (hs : P.underlying s = some (.int k0)) (hd : P.underlying d = some (.int k)) (hx : IsOpd x x') {tv : TV} {p : Prop} (h : pev (.cv k x) true st = some (tv, p)) (hp : p) : OpVal P o st st tv := by
  simp only [pev] at h
  split at h
  · rename_i k1 n q h1
    cases h
    obtain ⟨p1, p2⟩ := hp
    refine .pure fun B E F blk rw a w hr => ?_
    have e1 := (hr.rd hx h1 p1).int_inv
    refine ⟨.int k n, ?_, Rep.int _ _⟩
    simp only [execOp, ho, e1]
    refine run_v ?_
    simp [convert, run_underlying hs, run_underlying hd, Conv.intToInt, p2.wrap]
  · cases h

theorem sound_cvs {x : Opd} {x' : Operand} {s d : TypeId} (ho : o.op = .convert s d x') (hs : P.underlying s = some .string) (hd : P.underlying d = some .string) (hx : IsOpd x x') {tv : TV} {p : Prop} (h : pev (.cvs x) true st = some (tv, p)) (hp : p) : OpVal P o st st tv := by
  simp only [pev] at h
  split at h
  · rename_i v q h1
    cases h
    refine .pure fun B E F blk rw a w hr => ?_
    obtain ⟨b, e1, rfl⟩ := (hr.rd hx h1 hp).str_inv
    refine ⟨.string b, ?_, Rep.str b⟩
    simp only [execOp, ho, e1]
    refine run_v ?_
    simp [convert, run_underlying hs, run_underlying hd]
  · cases h

theorem sound_mn {mx : Bool} {x y : Opd} {x' y' : Operand} {c : Call} (ho : o.op = .call c) (hc : c.callee = .builtin (if mx then .max else .min)) (ha : c.args.toList = [x', y']) (hx : IsOpd x x') (hy : IsOpd y y')
    {tv : TV} {p : Prop} (h : pev (.mn mx x y) true st = some (tv, p)) (hp : p) : OpVal P o st st tv := by
  have ha' := arr2 ha
  simp only [pev] at h
  split at h
  · rename_i k a q1 k' b q2 h1 h2
    cases h
    refine .pure fun B E F blk rw ac w hr => ?_
    have e1 := (hr.rd hx h1 hp.1).int_inv
    have e2 := (hr.rd hy h2 hp.2).int_inv
    refine ⟨_, run_builtin ho hc ac w w _ ?_, Rep.int _ _⟩
    cases mx with
    | true =>
      simp only [if_true, builtin, ha', Builtin.max_, List.map_toArray, List.map, e1, e2, List.foldlM_cons, List.foldlM_nil, Builtin.max2, Sem.run_bind, Sem.run_pure, Result.andThen_ok]
      congr 3
      simp only [Int.max_def]; split <;> split <;> omega
    | false =>
      simp only [Bool.false_eq_true, if_false, builtin, ha', Builtin.min_, List.map_toArray, List.map, e1, e2, List.foldlM_cons, List.foldlM_nil, Builtin.min2, Sem.run_bind, Sem.run_pure, Result.andThen_ok]
      congr 3
      simp only [Int.min_def]; split <;> split <;> omega
  · cases h
end
end Go.Am
/- Stores and new variables, structs and slices that are made. -/
set_option linter.unusedSectionVars false
set_option linter.unusedVariables false
set_option linter.unusedSimpArgs false
namespace Go.Am
open Go.RowKit
variable [Inhabited LaidBox] {ro : Option Nat}

/-! The memory's relation behind a change. -/
section mem
variable {B : Nat} {E : Env} {F : Mem} {blk rw : List Nat} {loc : List (Option (List TV))} {rows : List (TypeId × Nat × Nat)} {M MM : Mem} {w w' : World}

theorem RelM.mono_env {E' : Env} (hm : RelM B E F blk rw loc rows M MM w) (hs : Sim B E' MM w') : RelM B E' F blk rw loc rows M MM w' :=
  ⟨hs, hm.sub, hm.frame, hm.locs, hm.rws, hm.blen, hm.rlen⟩

theorem RelM.setLoc (hm : RelM B E F blk rw loc rows M MM w) {i b : Nat} {tvs tvs' : List TV} {avs' : List AV} (hi : loc[i]? = some (some tvs)) (hb : blk[i]? = some b) (hr : RelTo blk rw tvs' avs') (hs : Sim B E (MM.set (.b b) (.cells avs')) w') :
    RelM B E F blk rw (loc.set i (some tvs')) rows M (MM.set (.b b) (.cells avs')) w' := by
  obtain ⟨b0, avs, k1, k2, k3, k4, k5⟩ := hm.locs i tvs hi
  rw [hb] at k1; cases k1
  have hlen : i < loc.length := by
    rcases Nat.lt_or_ge i loc.length with h | h
    · exact h
    · rw [List.getElem?_eq_none h] at hi; cases hi
  have live : ∀ (j : Nat) x, (loc.set i (some tvs'))[j]? = some (some x) → ∃ y, loc[j]? = some (some y) := by
    intro j x hj
    by_cases hij : i = j
    · subst hij; exact ⟨tvs, hi⟩
    · rw [List.getElem?_set_ne hij] at hj; exact ⟨x, hj⟩
  refine ⟨hs, fun r o hr' => ?_, fun r o hF => ?_, fun j x hj => ?_, fun j e sz n hj => ?_, by simpa using hm.blen, hm.rlen⟩
  · have hne : r ≠ .b b := by rintro rfl; rw [k4] at hr'; cases hr'
    rw [Mem.set_other _ _ _ _ hne]; exact hm.sub r o hr'
  · obtain ⟨f1, f2, f3, f4⟩ := hm.frame r o hF
    have hne : r ≠ .b b := by rintro rfl; exact f3 b rfl i tvs hi hb
    refine ⟨by rw [Mem.set_other _ _ _ _ hne]; exact f1, f2, fun b' eb j x hj => ?_, f4⟩
    obtain ⟨y, hy⟩ := live j x hj
    exact f3 b' eb j y hy
  · by_cases hij : i = j
    · subst hij
      have hj' : (loc.set i (some tvs'))[i]? = some (some tvs') := by simp [hlen]
      rw [hj'] at hj; cases hj
      refine ⟨b, avs', hb, Mem.set_same _ _ _, hr, k4, fun j' x' hj' hbj => ?_⟩
      obtain ⟨y, hy⟩ := live j' x' hj'
      exact k5 j' y hy hbj
    · rw [List.getElem?_set_ne hij] at hj
      obtain ⟨b', avs2, q1, q2, q3, q4, q5⟩ := hm.locs j x hj
      have hne : b' ≠ b := by rintro rfl; exact hij (k5 j x hj q1).symm
      refine ⟨b', avs2, q1, by rw [Mem.set_other _ _ _ _ (by simpa using hne)]; exact q2, q3, q4, fun j' x' hj' hbj => ?_⟩
      obtain ⟨y, hy⟩ := live j' x' hj'
      exact q5 j' y hy hbj
  · obtain ⟨t, q1, q2, q3, q4⟩ := hm.rws j e sz n hj
    exact ⟨t, q1, by rw [Mem.set_other _ _ _ _ (by simp)]; exact q2, q3, q4⟩

theorem RelM.setM {E' : Env} (hm : RelM B E F blk rw loc rows M MM w) {r : Key} {o o' : AObj} (hr : M r = some o) (hs : Sim B E' (MM.set r o') w') :
    RelM B E' F blk rw loc rows (M.set r o') (MM.set r o') w' := by
  refine ⟨hs, hm.sub.set r o', fun x ox hF => ?_, fun j x hj => ?_, fun j e sz n hj => ?_, hm.blen, hm.rlen⟩
  · obtain ⟨f1, f2, f3, f4⟩ := hm.frame x ox hF
    have hne : x ≠ r := by rintro rfl; rw [hr] at f2; cases f2
    exact ⟨by rw [Mem.set_other _ _ _ _ hne]; exact f1, by rw [Mem.set_other _ _ _ _ hne]; exact f2, f3, f4⟩
  · obtain ⟨b, avs, q1, q2, q3, q4, q5⟩ := hm.locs j x hj
    have hne : Key.b b ≠ r := by rintro rfl; rw [hr] at q4; cases q4
    exact ⟨b, avs, q1, by rw [Mem.set_other _ _ _ _ hne]; exact q2, q3, by rw [Mem.set_other _ _ _ _ hne]; exact q4, q5⟩
  · obtain ⟨t, q1, q2, q3, q4⟩ := hm.rws j e sz n hj
    have hne : Key.w t ≠ r := by rintro rfl; rw [hr] at q3; cases q3
    exact ⟨t, q1, by rw [Mem.set_other _ _ _ _ hne]; exact q2, by rw [Mem.set_other _ _ _ _ hne]; exact q3, q4⟩

/-- Something new that the function speaks of by its name. -/
theorem RelM.newM (hm : RelM B E F blk rw loc rows M MM w) {r : Key} {o : AObj} (hr : MM r = none) {E' : Env} (hs : Sim B E' (MM.set r o) w') :
    RelM B E' F blk rw loc rows (M.set r o) (MM.set r o) w' := by
  have hMr : M r = none := by
    cases h : M r with
    | none => rfl
    | some x => rw [hm.sub r x h] at hr; cases hr
  refine ⟨hs, hm.sub.set r o, fun x ox hF => ?_, fun j x hj => ?_, fun j e sz n hj => ?_, hm.blen, hm.rlen⟩
  · obtain ⟨f1, f2, f3, f4⟩ := hm.frame x ox hF
    have hne : x ≠ r := by rintro rfl; rw [hr] at f1; cases f1
    exact ⟨by rw [Mem.set_other _ _ _ _ hne]; exact f1, by rw [Mem.set_other _ _ _ _ hne]; exact f2, f3, f4⟩
  · obtain ⟨b, avs, q1, q2, q3, q4, q5⟩ := hm.locs j x hj
    have hne : Key.b b ≠ r := by rintro rfl; rw [hr] at q2; cases q2
    exact ⟨b, avs, q1, by rw [Mem.set_other _ _ _ _ hne]; exact q2, q3, by rw [Mem.set_other _ _ _ _ hne]; exact q4, q5⟩
  · obtain ⟨t, q1, q2, q3, q4⟩ := hm.rws j e sz n hj
    have hne : Key.w t ≠ r := by rintro rfl; rw [hr] at q2; cases q2
    exact ⟨t, q1, by rw [Mem.set_other _ _ _ _ hne]; exact q2, by rw [Mem.set_other _ _ _ _ hne]; exact q3, q4⟩

theorem getElem?_snoc {α : Type} {l : List α} {x y : α} {i : Nat} (h : (l ++ [x])[i]? = some y) : (i < l.length ∧ l[i]? = some y) ∨ (i = l.length ∧ x = y) := by
  rcases Nat.lt_trichotomy i l.length with h1 | h1 | h1
  · rw [List.getElem?_append_left h1] at h; exact .inl ⟨h1, h⟩
  · subst h1
    simp at h
    exact .inr ⟨rfl, h⟩
  · rw [List.getElem?_eq_none (by simp; omega)] at h; cases h

/-- A new variable of the call's own. -/
theorem RelM.newLoc (hm : RelM B E F blk rw loc rows M MM w) {r : Nat} {tvs : List TV} {avs : List AV} (hr : MM (.b r) = none) (ht : RelTo blk rw tvs avs) (hs : Sim B E (MM.set (.b r) (.cells avs)) w') :
    RelM B E F (blk ++ [r]) rw (loc ++ [some tvs]) rows M (MM.set (.b r) (.cells avs)) w' := by
  have hMr : M (.b r) = none := by
    cases h : M (.b r) with
    | none => rfl
    | some x => rw [hm.sub (.b r) x h] at hr; cases hr
  have old : ∀ {j : Nat} {x : List TV}, loc[j]? = some (some x) → ∃ b, blk[j]? = some b ∧ b ≠ r := by
    intro j x hj
    obtain ⟨b, avs, q1, q2, _⟩ := hm.locs j x hj
    exact ⟨b, q1, by rintro rfl; rw [hr] at q2; cases q2⟩
  have hpre := Pre.snoc blk r
  have hblk : ∀ {j : Nat} {x : List TV}, loc[j]? = some (some x) → (blk ++ [r])[j]? = blk[j]? := by
    intro j x hj
    obtain ⟨b, q1, _⟩ := old hj
    rw [q1]; exact hpre _ _ q1
  refine ⟨hs, fun x o hx => ?_, fun x o hF => ?_, fun j x hj => ?_, fun j e sz n hj => ?_, by simp [hm.blen], hm.rlen⟩
  · have hne : x ≠ .b r := by rintro rfl; rw [hMr] at hx; cases hx
    rw [Mem.set_other _ _ _ _ hne]; exact hm.sub x o hx
  · obtain ⟨f1, f2, f3, f4⟩ := hm.frame x o hF
    have hne : x ≠ .b r := by rintro rfl; rw [hr] at f1; cases f1
    refine ⟨by rw [Mem.set_other _ _ _ _ hne]; exact f1, f2, fun b' eb j y hj => ?_, f4⟩
    rcases getElem?_snoc hj with ⟨hlt, hj⟩ | ⟨rfl, hj⟩
    · rw [hblk hj]; exact f3 b' eb j y hj
    · rw [← hm.blen]; simp; rintro rfl; exact hne eb
  · rcases getElem?_snoc hj with ⟨hlt, hj⟩ | ⟨rfl, hj2⟩
    · obtain ⟨b, avs2, q1, q2, q3, q4, q5⟩ := hm.locs j x hj
      have hne : b ≠ r := by rintro rfl; rw [hr] at q2; cases q2
      refine ⟨b, avs2, hpre _ _ q1, by rw [Mem.set_other _ _ _ _ (by simpa using hne)]; exact q2, q3.mono hpre (Pre.refl _), q4, fun j' x' hj' hbj => ?_⟩
      rcases getElem?_snoc hj' with ⟨hlt', hj'⟩ | ⟨rfl, hj'⟩
      · rw [hblk hj'] at hbj; exact q5 j' x' hj' hbj
      · rw [← hm.blen] at hbj; simp at hbj; exact absurd hbj.symm hne
    · cases hj2
      refine ⟨r, avs, by rw [← hm.blen]; simp, Mem.set_same _ _ _, ht.mono hpre (Pre.refl _), hMr, fun j' x' hj' hbj => ?_⟩
      rcases getElem?_snoc hj' with ⟨hlt', hj'⟩ | ⟨rfl, hj'⟩
      · obtain ⟨b', q1, q2⟩ := old hj'
        rw [hblk hj', q1] at hbj
        cases hbj
        exact absurd rfl q2
      · rfl
  · obtain ⟨t, q1, q2, q3, q4⟩ := hm.rws j e sz n hj
    exact ⟨t, q1, by rw [Mem.set_other _ _ _ _ (by simp)]; exact q2, q3, q4⟩
end mem

/-- The cells that a value lays. -/
def TV.sc : TV → Option (List TV × Prop)
  | .v x => some (x.cells.map .v, ∀ y ∈ x.cells, y.one = true)
  | .lptr i off => some ([.lptr i off], True)
  | .lsl i sz es => some ([.lsl i sz es], True)
  | _ => none

theorem TV.sc_to {E : Env} {blk rw : List Nat} {x : TV} {cs : List TV} {p : Prop} (h : x.sc = some (cs, p)) (hp : p) {c : Value} (hr : RelV E blk rw x c) : ∃ v, x.to blk rw = some v ∧ Rep E v c ∧ RelTo blk rw cs v.cells ∧ ∀ y ∈ v.cells, y.one = true := by
  cases x with
  | v x => cases h; exact ⟨x, rfl, hr, RelTo.of_v _, hp⟩
  | lptr i off =>
    cases h
    obtain ⟨b, hb, rfl⟩ := hr
    have ht : TV.to blk rw (.lptr i off) = some (.ptr b off) := by simp [TV.to, hb]
    exact ⟨.ptr b off, ht, .ptr b off, .cons _ _ _ _ ht .nil, by simp [AV.cells, AV.one]⟩
  | lsl i sz es =>
    cases h
    obtain ⟨t, ht', hrep⟩ := hr
    have ht : TV.to blk rw (.lsl i sz es) = some (.sl (.srow t) sz es) := by simp [TV.to, ht']
    exact ⟨_, ht, hrep, .cons _ _ _ _ ht .nil, by simp [AV.cells, AV.one]⟩
  | _ => cases h

/-- Stores, and variables of the call's own. -/
def eff (k : CK) (st : St) : Option (St × TV × Prop) :=
  match k with
  | .sto n p x => match (st.get x).sc with
    | some (cs, q) => match st.get p with
      | .lptr i off => match st.loc[i]? with
        | some (some tvs) => some ({ st with loc := st.loc.set i (some (tvs.take off ++ cs ++ tvs.drop (off + n))) }, .junk, q ∧ cs.length = n ∧ off + n ≤ tvs.length)
        | _ => none
      | .v (.ptr r off) => match st.M (.b r), extL cs with
        | some (.cells vs), some us => some ({ st with M := st.M.set (.b r) (.cells (vs.take off ++ us ++ vs.drop (off + n))) }, .junk, q ∧ us.length = n ∧ off + n ≤ vs.length)
        | _, _ => none
      | _ => none
    | none => none
  | .al _ zero => some ({ st with loc := st.loc ++ [some (zero.map .v)] }, .lptr st.loc.length 0, True)
  | .bx _ x => match (st.get x).sc with
    | some (cs, q) => some ({ st with loc := st.loc ++ [some cs] }, .lptr st.loc.length 0, q)
    | none => none
  | _ => none

section
variable {P : Program} {o : Oper} {st : St}

theorem extL_one {E : Env} {blk rw : List Nat} : ∀ {cs : List TV} {us : List AV} {vs : List AV}, extL cs = some us → RelTo blk rw cs vs → (∀ y ∈ vs, y.one = true) → ∀ y ∈ us, y.one = true
  | [], us, vs, h, ht, h1, y, hy => by cases h; cases hy
  | x :: xs, us, _, h, .cons _ v _ vs hx ht, h1, y, hy => by
    unfold extL at h
    split at h
    · rename_i u us' hu hus
      cases h
      rcases List.mem_cons.1 hy with rfl | hm
      · cases x with
        | v x => cases hu; cases hx; exact h1 _ (by simp)
        | lsl i sz es => cases hu; rfl
        | _ => cases hu
      · exact extL_one (E := E) hus ht (fun z hz => h1 z (by simp [hz])) y hm
    · cases h

theorem sound_sto {n : Nat} {p x : Opd} {p' x' : Operand} {t : TypeId} {j : TI} (ho : o.op = .store t p' x') (hj : TIOk P t j) (hn : n = j.size) (hp' : IsOpd p p') (hx : IsOpd x x')
    {st1 : St} {tv : TV} {q : Prop} (h : eff (.sto n p x) st = some (st1, tv, q)) (hq : q) : OpVal P o st st1 tv := by
  subst hn
  simp only [eff] at h
  split at h
  · rename_i cs q1 hsc
    split at h
    · rename_i i off hpe
      split at h
      · rename_i tvs hloc
        cases h
        obtain ⟨hq1, hlen, hfit⟩ := hq
        intro B E F blk rw a w hr
        have hpv := hr.opd hp'
        rw [hpe] at hpv
        obtain ⟨b, hb, hpv⟩ := hpv
        obtain ⟨v, hv1, hv2, hv3, hv4⟩ := TV.sc_to hsc hq1 (hr.opd hx)
        obtain ⟨MM, hm⟩ := hr.mem
        obtain ⟨b0, avs, k1, k2, k3, k4, k5⟩ := hm.locs i tvs hloc
        rw [hb] at k1; cases k1
        have hvl : v.cells.length = j.size := by rw [hv3.length]; exact hlen
        obtain ⟨w', hrun, hs', hbel⟩ := run_store_obj (P := P) w hj hm.sim b off avs k2 v _ hv2 hv4 hvl (by rw [k3.length]; exact hfit)
        refine ⟨undef, w', E, blk, rw, .inr ⟨?_, rfl⟩, Env.le.refl E, hbel, ⟨hr.tmps, hr.defs, _, hm.setLoc hloc hb ?_ hs'⟩, trivial⟩
        · simp only [execOp, ho, hpv, Sem.run_bind, hrun, Result.andThen_ok, Sem.run_pure]
        · exact ((k3.take off).append hv3).append (k3.drop _)
      · cases h
    · rename_i r off hpe
      split at h
      · rename_i vs us hM hus
        cases h
        obtain ⟨hq1, hlen, hfit⟩ := hq
        intro B E F blk rw a w hr
        have hpv := hr.opd hp'
        rw [hpe] at hpv
        have hpv : a.eval p' = .pointer (some ⟨r, off, none⟩) := Rep.ptr_inv hpv
        obtain ⟨v, hv1, hv2, hv3, hv4⟩ := TV.sc_to hsc hq1 (hr.opd hx)
        obtain ⟨MM, hm⟩ := hr.mem
        have hcells : RepL E v.cells (a.eval x').cells.toList := hv2.cellsL (by rintro rfl; have := hv4 .junk (by simp [AV.cells]); simp [AV.one] at this)
        have hus' : RepL E us (a.eval x').cells.toList := (hv3.rel hcells).ext hus
        have hone := extL_one (E := E) hus hv3 hv4
        -- a value with just these cells
        obtain ⟨w', hrun, hs', hbel⟩ : ∃ w', (Instr.storeAt t (.pointer (some ⟨r, off, none⟩)) (a.eval x')).run P w = .ok () w' ∧ Sim B E (MM.set (.b r) (.cells (vs.take off ++ us ++ vs.drop (off + j.size)))) w' ∧ Below B w w' := by
          obtain ⟨G, nr, hs⟩ := hm.sim
          obtain ⟨_, _, _, ccs, ty, g4, g5⟩ := hs.obj r vs (hm.sub _ _ hM)
          have hl1 := hus'.length
          have hl2 := g5.length
          have hone' : ∀ u ∈ (a.eval x').cells.toList, u.oneCell' = true := by
            intro u hu
            obtain ⟨k, hk⟩ := List.getElem?_of_mem hu
            have hkl : k < us.length := by
              rw [← hl1]
              rcases Nat.lt_or_ge k (a.eval x').cells.toList.length with h' | h'
              · exact h'
              · rw [List.getElem?_eq_none h'] at hk; cases hk
            obtain ⟨u', hu', hru⟩ := hus'.at k us[k] (List.getElem?_eq_getElem hkl)
            rw [hk] at hu'; cases hu'
            exact hru.one (hone _ (List.getElem_mem hkl))
          have hst := run_storeCells_at P r off ty (a.eval x').cells.toList 0 ccs w g4 (by
            have : ccs.size = vs.length := by rw [← hl2, Array.length_toList]
            omega) hone'
          simp only [Nat.add_zero] at hst
          have hsz : (a.eval x').cells.size = j.size := by rw [← Array.length_toList, hl1]; exact hlen
          refine ⟨w.setRow r (ccs.toList.take off ++ (a.eval x').cells.toList ++ ccs.toList.drop (off + (a.eval x').cells.toList.length)).toArray, ?_, ⟨G, nr, ?_⟩, ?_⟩
          · simp only [Instr.storeAt, Instr.sureAddr, storeVar, Sem.run_bind, Sem.run_pure, Result.andThen_ok, hj.run_size w, hsz, ne_eq, not_true_eq_false, if_false]
            simpa using hst
          · have := hs.store r off vs (hm.sub _ _ hM) us (a.eval x').cells.toList hus' hone (by omega) ccs ty g4
            rw [hlen] at this
            exact this
          · refine ⟨rfl, rfl, rfl, by simp, fun k hk => setRow_other w r k _ ?_⟩
            have := (hs.dom r _ (hm.sub _ _ hM)).1
            omega
        refine ⟨undef, w', E, blk, rw, .inr ⟨?_, rfl⟩, Env.le.refl E, hbel, ⟨hr.tmps, hr.defs, _, hm.setM hM hs'⟩, trivial⟩
        simp only [execOp, ho, hpv, Sem.run_bind, hrun, Result.andThen_ok, Sem.run_pure]
      · cases h
    · cases h
  · cases h

theorem run_newVar {t : TypeId} {c : Value} (w : World) : (newVar t c).run P w = .ok ⟨w.heap.size, 0, none⟩ (w.alloc (.cells c.cells t)) := by
  simp [newVar, newRow]

theorem new_local {B : Nat} {E : Env} {F : Mem} {blk rw : List Nat} {a : Act} {w : World} (hr : Rel B E F blk rw st a w) (ty : TypeId) {tvs : List TV} {avs : List AV} {cs : List Value} (ht : RelTo blk rw tvs avs) (hrep : RepL E avs cs) (h1 : ∀ y ∈ avs, y.one = true) :
    ∃ blk', Below B w (w.alloc (.cells cs.toArray ty)) ∧ Rel B E F blk' rw { st with loc := st.loc ++ [some tvs] } a (w.alloc (.cells cs.toArray ty)) ∧ blk'[st.loc.length]? = some w.heap.size := by
  obtain ⟨MM, hm⟩ := hr.mem
  obtain ⟨G, nr, hs⟩ := hm.sim
  have hnone : MM (.b w.heap.size) = none := hs.dom_none (Nat.le_refl _)
  have hnew := hs.new_obj ty avs cs hrep h1
  refine ⟨blk ++ [w.heap.size], (Below.refl B w).alloc hs.base _, ⟨hr.tmps.mono (Env.le.refl E) (Pre.snoc _ _) (Pre.refl _), hr.defs, _, hm.newLoc hnone ht ⟨_, _, hnew⟩⟩, ?_⟩
  rw [← hm.blen]; simp

theorem new_named {B : Nat} {E : Env} {F : Mem} {blk rw : List Nat} {a : Act} {w : World} (hr : Rel B E F blk rw st a w) (ty : TypeId) {avs : List AV} {cs : List Value} (hrep : RepL E avs cs) (h1 : ∀ y ∈ avs, y.one = true) :
    Below B w (w.alloc (.cells cs.toArray ty)) ∧ Rel B E F blk rw { st with M := st.M.set (.b w.heap.size) (.cells avs) } a (w.alloc (.cells cs.toArray ty)) ∧ st.M (.b w.heap.size) = none := by
  obtain ⟨MM, hm⟩ := hr.mem
  obtain ⟨G, nr, hs⟩ := hm.sim
  have hnone : MM (.b w.heap.size) = none := hs.dom_none (Nat.le_refl _)
  have hnew := hs.new_obj ty avs cs hrep h1
  refine ⟨(Below.refl B w).alloc hs.base _, ⟨hr.tmps, hr.defs, _, hm.newM hnone ⟨_, _, hnew⟩⟩, ?_⟩
  cases h : st.M (.b w.heap.size) with
  | none => rfl
  | some x => rw [hm.sub _ x h] at hnone; cases hnone

theorem TIOk.zero_rep {t : TypeId} {i : TI} (h : TIOk P t i) (E : Env) (w : World) : ∃ z, (zeroValue t).run P w = .ok z w ∧ Rep E i.zero z ∧ RepL E i.zero.cells z.cells.toList ∧ (∀ x ∈ i.zero.cells, x.one = true) ∧ i.zero.cells.length = i.size := by
  obtain ⟨info, z, h1, h2, h3, h4, h5, h6⟩ := h.info
  obtain ⟨k1, k2, k3⟩ := AV.concA_rep (E := E) h5
  exact ⟨z, by simp [zeroValue, typeInfo, h1, h4], k1, k2, k3, h6⟩

theorem sound_al {t ty : TypeId} {j : TI} {zero : List AV} (ho : o.op = .alloc t) (hj : TIOk P t j) (hz : zero = j.zero.cells)
    {st1 : St} {tv : TV} {q : Prop} (h : eff (.al ty zero) st = some (st1, tv, q)) (hq : q) : OpVal P o st st1 tv := by
  subst hz
  simp only [eff] at h
  cases h
  intro B E F blk rw a w hr
  obtain ⟨z, h1, h2, h3, h4, h5⟩ := hj.zero_rep E w
  obtain ⟨blk', k1, k2, k3⟩ := new_local hr t (RelTo.of_v _) h3 h4
  refine ⟨.pointer (some ⟨w.heap.size, 0, none⟩), _, E, blk', rw, .inl ?_, Env.le.refl E, k1, k2, ⟨_, k3, rfl⟩⟩
  simp only [execOp, ho]
  simp [Instr.alloc, h1, run_newVar]

theorem sound_bx {t ty : TypeId} {x : Opd} {x' : Operand} (ho : o.op = .box t x') (hx : IsOpd x x')
    {st1 : St} {tv : TV} {q : Prop} (h : eff (.bx ty x) st = some (st1, tv, q)) (hq : q) : OpVal P o st st1 tv := by
  simp only [eff] at h
  split at h
  · rename_i cs q1 hsc
    cases h
    intro B E F blk rw a w hr
    obtain ⟨v, hv1, hv2, hv3, hv4⟩ := TV.sc_to hsc hq (hr.opd hx)
    have hcells : RepL E v.cells (a.eval x').cells.toList := hv2.cellsL (by rintro rfl; have := hv4 .junk (by simp [AV.cells]); simp [AV.one] at this)
    obtain ⟨blk', k1, k2, k3⟩ := new_local hr t hv3 hcells hv4
    refine ⟨.pointer (some ⟨w.heap.size, 0, none⟩), _, E, blk', rw, .inl ?_, Env.le.refl E, k1, k2, ⟨_, k3, rfl⟩⟩
    simp only [execOp, ho]
    simp [Instr.box, run_newVar]
  · cases h

/-- A new variable that others may reach. -/
theorem AOps.named {ops : Array Oper} {i : Nat} {rest : List Nat} {Q : AExit → St → Prop} (ho : ops[i]? = some o) (hg : o.guard = none) {avs : List AV}
    (hrun : ∀ B E F blk rw a w, Rel B E F blk rw st a w → ∃ ty cs, (execOp a.eval o).run P w = .ok (.value (.pointer (some ⟨w.heap.size, 0, none⟩))) (w.alloc (.cells cs ty)) ∧ RepL E avs cs.toList ∧ ∀ y ∈ avs, y.one = true)
    (h : ∀ r, st.M (.b r) = none → AOps ro P ops rest Q ({ st with M := st.M.set (.b r) (.cells avs) }.put o.dst (.v (.ptr r 0)))) : AOps ro P ops (i :: rest) Q st := by
  intro B E F blk rw a w hr
  simp only [wpOpsIn, ho]
  rw [if_pos (by simp [Region.wanted, hg])]
  obtain ⟨ty, cs, h1, h2, h3⟩ := hrun B E F blk rw a w hr
  obtain ⟨k1, k2, k3⟩ := new_named hr ty h2 h3
  refine uponIn_run h1 (by simp) ?_
  exact wpOpsR_mono (fun e a' w'' ho => ho.weaken (Env.le.refl E) k1 fun _ _ h => h) rest _ _ (h w.heap.size k3 B E F blk rw _ _ (k2.put o.dst (Rep.ptr _ _)))

theorem run_alS {t : TypeId} {j : TI} (ho : o.op = .alloc t) (hj : TIOk P t j) : ∀ B E F blk rw a w, Rel B E F blk rw st a w → ∃ ty cs, (execOp a.eval o).run P w = .ok (.value (.pointer (some ⟨w.heap.size, 0, none⟩))) (w.alloc (.cells cs ty)) ∧ RepL E j.zero.cells cs.toList ∧ ∀ y ∈ j.zero.cells, y.one = true := by
  intro B E F blk rw a w hr
  obtain ⟨z, h1, h2, h3, h4, h5⟩ := hj.zero_rep E w
  refine ⟨t, z.cells, ?_, h3, h4⟩
  simp only [execOp, ho]
  simp [Instr.alloc, h1, run_newVar]

theorem run_bxS {t : TypeId} {x : Opd} {x' : Operand} (ho : o.op = .box t x') (hx : IsOpd x x') {v : AV} {p : Prop} (h : rd true (st.get x) = some (v, p)) (hp : p) (h1 : ∀ y ∈ v.cells, y.one = true) : ∀ B E F blk rw a w, Rel B E F blk rw st a w → ∃ ty cs, (execOp a.eval o).run P w = .ok (.value (.pointer (some ⟨w.heap.size, 0, none⟩))) (w.alloc (.cells cs ty)) ∧ RepL E v.cells cs.toList ∧ ∀ y ∈ v.cells, y.one = true := by
  intro B E F blk rw a w hr
  have hrep := hr.rd hx h hp
  refine ⟨t, (a.eval x').cells, ?_, hrep.cellsL (by rintro rfl; have := h1 .junk (by simp [AV.cells]); simp [AV.one] at this), h1⟩
  simp only [execOp, ho]
  simp [Instr.box, run_newVar]

end
end Go.Am
/- Structs and slices that are made, type assertions, appends, maps. -/
set_option linter.unusedSectionVars false
set_option linter.unusedVariables false
set_option linter.unusedSimpArgs false
namespace Go.Am
open Go.RowKit
variable [Inhabited LaidBox] {ro : Option Nat}

theorem foldl_set (off : Nat) : ∀ (vs : List Value) (k : Nat) (cs : Array Value), off + k + vs.length ≤ cs.size →
    ((vs.zipIdx k).foldl (fun (cs : Array Value) (x : Value × Nat) => cs.setIfInBounds (off + x.2) x.1) cs).toList = cs.toList.take (off + k) ++ vs ++ cs.toList.drop (off + k + vs.length)
  | [], k, cs, _ => by simp
  | v :: vs, k, cs, h => by
    simp only [List.zipIdx_cons, List.foldl_cons]
    rw [foldl_set off vs (k + 1) _ (by simp at h ⊢; omega)]
    have hlt : off + k < cs.size := by simp at h; omega
    have hset : (cs.setIfInBounds (off + k) v).toList = cs.toList.set (off + k) v := by simp
    rw [hset]
    have hl : off + k < cs.toList.length := by simpa using hlt
    rw [show off + (k + 1) = off + k + 1 by omega, List.take_set_succ_eq cs.toList (off + k) v hl, List.drop_set_of_lt (by omega)]
    simp [List.append_assoc]
    omega
where
  List.take_set_succ_eq (l : List Value) (n : Nat) (v : Value) (h : n < l.length) : (l.set n v).take (n + 1) = l.take n ++ [v] := by
    rw [List.take_succ_eq_append_getElem (by simpa using h)]
    simp [List.take_set_of_le]

theorem fill_step (place : Nat → Option (Nat × Nat)) (cells : Array Value) (i off size : Nat) (v : Value) (rest : List (Nat × Value)) (hp : place i = some (off, size)) (hs : v.cells.size = size) (hfit : off + size ≤ cells.size) :
    Instr.fill place cells ((i, v) :: rest) = Instr.fill place (cells.toList.take off ++ v.cells.toList ++ cells.toList.drop (off + size)).toArray rest := by
  rw [Instr.fill, hp]
  simp only
  rw [if_neg (by simp [hs]; omega)]
  congr 1
  apply Array.ext'
  have hl : v.cells.toList.length = size := by simpa using hs
  have := foldl_set off v.cells.toList 0 cells (by omega)
  simp only [Nat.add_zero, hl] at this
  rw [← this]
  rw [← Array.foldl_toList]
  simp

section
variable {P : Program} {o : Oper} {st : St}

theorem fillA_rep {B : Nat} {E : Env} {F : Mem} {blk rw : List Nat} {a : Act} {w : World} (hr : Rel B E F blk rw st a w) (place : Nat → Option (Nat × Nat)) (size : Nat) : ∀ (parts : List (Nat × Nat × Opd)) (parts' : List (Nat × Operand)) (zero : List AV) (z : Array Value) (cs : List AV) (p : Prop),
    parts.length = parts'.length → (∀ (k : Nat) off n x, parts[k]? = some (off, n, x) → off + n ≤ size ∧ ∃ i y, parts'[k]? = some (i, y) ∧ place i = some (off, n) ∧ IsOpd x y) → zero.length = size → (∀ y ∈ zero, y.one = true) → RepL E zero z.toList →
    fillA zero true st.get parts = some (cs, p) → p → ∃ z', Instr.fill place z (parts'.map fun (i, y) => (i, a.eval y)) = some z' ∧ RepL E cs z'.toList ∧ cs.length = size ∧ ∀ y ∈ cs, y.one = true
  | [], [], zero, z, cs, p, _, _, hsz, h1, hz, h, _ => by
    cases h
    exact ⟨z, rfl, hz, hsz, h1⟩
  | [], _ :: _, _, _, _, _, hl, _, _, _, _, _, _ => by simp at hl
  | _ :: _, [], _, _, _, _, hl, _, _, _, _, _, _ => by simp at hl
  | (off, n, x) :: parts, (i, y) :: parts', zero, z, cs, p, hl, hxy, hsz, h1, hz, h, hp => by
    unfold fillA at h
    split at h
    · rename_i v q1 hv
      split at h
      · rename_i cs' q2 hcs
        cases h
        obtain ⟨p1, p2, p3, p4⟩ := hp
        obtain ⟨hfit, i', y', hy', hpl, hx⟩ := hxy 0 off n x (by simp)
        simp at hy'
        obtain ⟨rfl, rfl⟩ := hy'
        have hrep := hr.rd hx hv p1
        have hcells : RepL E v.cells (a.eval y).cells.toList := hrep.cellsL (by rintro rfl; have := p3 .junk (by simp [AV.cells]); simp [AV.one] at this)
        have hcl : (a.eval y).cells.size = n := by rw [← Array.length_toList, hcells.length]; exact p2
        have hzl : z.size = size := by rw [← Array.length_toList, hz.length]; exact hsz
        simp only [List.map_cons]
        rw [fill_step place z i off n (a.eval y) _ hpl hcl (by omega)]
        refine fillA_rep hr place size parts parts' _ _ _ _ (by simpa using hl) (fun k off' n' x' hk => by simpa using hxy (k + 1) off' n' x' (by simpa using hk)) ?_ ?_ ?_ hcs p4
        · simp; omega
        · intro u hu
          simp only [List.mem_append] at hu
          rcases hu with (hu | hu) | hu
          · exact h1 u (List.mem_of_mem_take hu)
          · exact p3 u hu
          · exact h1 u (List.mem_of_mem_drop hu)
        · exact ((hz.take off).append hcells).append (hz.drop _)
      · cases h
    · cases h

theorem bdParts_ok {T : TT} (hT : TTOk P T) {fs : Array Field} {size : Nat} : ∀ {ys : List (Nat × Operand)} {parts : List (Nat × Nat × Opd)}, bdParts T fs size ys = some parts →
    parts.length = ys.length ∧ ∀ (k : Nat) off n x, parts[k]? = some (off, n, x) → off + n ≤ size ∧ ∃ i y, ys[k]? = some (i, y) ∧ IsOpd x y ∧ ∃ fd j, fs[i]? = some fd ∧ off = fd.offset ∧ TIOk P fd.type j ∧ n = j.size
  | [], parts, h => by
    cases h
    exact ⟨rfl, fun k off n x hk => by simp at hk⟩
  | (i, y) :: ys, parts, h => by
    unfold bdParts at h
    split at h
    · rename_i off n ty l hpl hrest
      split at h
      · rename_i hfit
        simp only [Option.map_eq_some_iff] at h
        obtain ⟨x, hx, rfl⟩ := h
        obtain ⟨k1, k2⟩ := bdParts_ok hT hrest
        refine ⟨by simp [k1], fun k off' n' x' hk => ?_⟩
        cases k with
        | zero =>
          simp at hk
          obtain ⟨rfl, rfl, rfl⟩ := hk
          refine ⟨hfit, i, y, by simp, cX_is hx, ?_⟩
          unfold place at hpl
          split at hpl
          · rename_i fd hfd
            simp only [Option.map_eq_some_iff] at hpl
            obtain ⟨m, hm, he⟩ := hpl
            cases he
            unfold sizeT at hm
            simp only [Option.map_eq_some_iff] at hm
            obtain ⟨j, hj, rfl⟩ := hm
            exact ⟨fd, j, hfd, rfl, hT _ _ hj, rfl⟩
          · cases hpl
        | succ k => simpa using k2 k off' n' x' (by simpa using hk)
      · cases h
    · cases h

theorem places_run (fs : List Field) (hfs : ∀ f ∈ fs, ∃ j, TIOk P f.type j) (w : World) : ∃ places : List (Nat × Nat), (fs.mapM fun f => Prod.mk f.offset <$> sizeOf f.type).run P w = .ok places w ∧ places.length = fs.length ∧ ∀ (i : Nat) fd, fs[i]? = some fd → ∀ j, TIOk P fd.type j → places[i]? = some (fd.offset, j.size) := by
  induction fs with
  | nil => exact ⟨[], by simp, rfl, by simp⟩
  | cons f fs ih =>
    obtain ⟨pl, h1, h2, h3⟩ := ih (fun g hg => hfs g (by simp [hg]))
    obtain ⟨j, hj⟩ := hfs f (by simp)
    refine ⟨(f.offset, j.size) :: pl, ?_, by simp [h2], ?_⟩
    · simp only [List.mapM_cons, Sem.run_bind, Sem.run_map, hj.run_size w, Result.andThen_ok, h1, Sem.run_pure]
    · intro i fd hi j' hj'
      cases i with
      | zero =>
        simp at hi; subst hi
        have : j'.size = j.size := by
          have e1 := hj.run_size w
          have e2 := hj'.run_size w
          rw [e1] at e2
          injection e2 with e2 _
          exact e2.symm
        simp [this]
      | succ i => simpa using h3 i fd (by simpa using hi) j' hj'

theorem sound_bd {T : TT} (hT : TTOk P T) {t : TypeId} {j : TI} {fs : Array Field} {parts' : Array (Nat × Operand)} {parts : List (Nat × Nat × Opd)} (ho : o.op = .build t parts') (hj : TIOk P t j) (hd : j.desc = .struct fs) (hall : fs.toList.all (fun f => (T f.type).isSome) = true) (hparts : bdParts T fs j.size parts'.toList = some parts)
    {tv : TV} {p : Prop} (h : pev (.bd j.zero.cells parts) true st = some (tv, p)) (hp : p) : OpVal P o st st tv := by
  simp only [pev] at h
  split at h
  · rename_i cs q hcs
    cases h
    refine .pure fun B E F blk rw a w hr => ?_
    obtain ⟨z, z1, z2, z3, z4, z5⟩ := hj.zero_rep E w
    obtain ⟨places, h1, h2, h3⟩ := places_run (P := P) fs.toList (fun f hf => by
      have := List.all_eq_true.1 hall f hf
      obtain ⟨i, hi⟩ := Option.isSome_iff_exists.1 this
      exact ⟨i, hT _ _ hi⟩) w
    obtain ⟨k1, k2⟩ := bdParts_ok hT hparts
    obtain ⟨z', f1, f2, f3, f4⟩ := fillA_rep hr (fun i => places[i]?) j.size parts parts'.toList j.zero.cells z.cells cs p k1 (fun k off n x hk => by
      obtain ⟨q1, i, y, q2, q3, fd, jj, q4, rfl, q5, rfl⟩ := k2 k off n x hk
      refine ⟨q1, i, y, q2, ?_, q3⟩
      exact h3 i fd (by simpa using q4) jj q5) z5 z4 z3 hcs hp
    refine ⟨.agg z', ?_, ?_⟩
    · simp only [execOp, ho]
      refine run_v ?_
      have hu : P.underlying t = some (.struct fs) := by rw [← hd]; exact hj.und
      have hpl : (fs.mapM fun f => Prod.mk f.offset <$> sizeOf f.type).run P w = .ok places.toArray w := by
        rw [Array.mapM_eq_mapM_toList]
        simp only [Sem.run_map, h1, Result.andThen_ok]
      simp only [Instr.build, Sem.run_bind, z1, Result.andThen_ok, run_underlying hu]
      have hfun : (fs.mapM fun f => (do pure (f.offset, ← sizeOf f.type) : Sem (Nat × Nat))) = (fs.mapM fun f => Prod.mk f.offset <$> sizeOf f.type) := by
        congr 1
      rw [hfun, hpl]
      have hmap : (parts'.map fun (i, x) => (i, a.eval x)).toList = parts'.toList.map fun (i, y) => (i, a.eval y) := by simp
      simp only [Result.andThen_ok, hmap, List.getElem?_toArray, f1, Sem.run_pure]
    · have := Rep.agg (E := E) cs z'.toList f2
      simpa [RelV] using this
  · cases h

theorem abParts_ok {T : TT} {e : TypeId} {esz size : Nat} : ∀ {ys : List (Nat × Operand)} {parts : List (Nat × Nat × Opd)}, abParts T e esz size ys = some parts →
    parts.length = ys.length ∧ ∀ (k : Nat) off n x, parts[k]? = some (off, n, x) → off + n ≤ size ∧ ∃ i y, ys[k]? = some (i, y) ∧ IsOpd x y ∧ off = i * esz ∧ n = esz
  | [], parts, h => by
    cases h
    exact ⟨rfl, fun k off n x hk => by simp at hk⟩
  | (i, y) :: ys, parts, h => by
    unfold abParts at h
    split at h
    · rename_i l hrest
      split at h
      · rename_i hfit
        simp only [Option.map_eq_some_iff] at h
        obtain ⟨x, hx, rfl⟩ := h
        obtain ⟨k1, k2⟩ := abParts_ok hrest
        refine ⟨by simp [k1], fun k off' n' x' hk => ?_⟩
        cases k with
        | zero =>
          simp at hk
          obtain ⟨rfl, rfl, rfl⟩ := hk
          exact ⟨hfit, i, y, by simp, cX_is hx, rfl, rfl⟩
        | succ k => simpa using k2 k off' n' x' (by simpa using hk)
      · cases h
    · cases h

theorem sound_ab {T : TT} (hT : TTOk P T) {t e : TypeId} {len : Nat} {j je : TI} {parts' : Array (Nat × Operand)} {parts : List (Nat × Nat × Opd)} (ho : o.op = .build t parts') (hj : TIOk P t j) (hd : j.desc = .array len e) (hje : TIOk P e je) (hparts : abParts T e je.size j.size parts'.toList = some parts)
    {tv : TV} {p : Prop} (h : pev (.bd j.zero.cells parts) true st = some (tv, p)) (hp : p) : OpVal P o st st tv := by
  simp only [pev] at h
  split at h
  · rename_i cs q hcs
    cases h
    refine .pure fun B E F blk rw a w hr => ?_
    obtain ⟨z, z1, z2, z3, z4, z5⟩ := hj.zero_rep E w
    obtain ⟨k1, k2⟩ := abParts_ok hparts
    obtain ⟨z', f1, f2, f3, f4⟩ := fillA_rep hr (fun i => some (i * je.size, je.size)) j.size parts parts'.toList j.zero.cells z.cells cs p k1 (fun k off n x hk => by
      obtain ⟨q1, i, y, q2, q3, rfl, rfl⟩ := k2 k off n x hk
      exact ⟨q1, i, y, q2, rfl, q3⟩) z5 z4 z3 hcs hp
    refine ⟨.agg z', ?_, ?_⟩
    · simp only [execOp, ho]
      refine run_v ?_
      have hu : P.underlying t = some (.array len e) := by rw [← hd]; exact hj.und
      have hmap : (parts'.map fun (i, x) => (i, a.eval x)).toList = parts'.toList.map fun (i, y) => (i, a.eval y) := by simp
      simp only [Instr.build, Sem.run_bind, z1, Result.andThen_ok, run_underlying hu, hje.run_size w, hmap, f1, Sem.run_pure]
    · have := Rep.agg (E := E) cs z'.toList f2
      simpa [RelV] using this
  · cases h

theorem bsParts_ok {T : TT} {e : TypeId} : ∀ {ys : List (Nat × Operand)} {k : Nat} {xs : List Opd}, bsParts T e k ys = some xs →
    xs.length = ys.length ∧ ∀ (i : Nat) (x : Opd), xs[i]? = some x → ∃ y, ys[i]? = some (k + i, y) ∧ IsOpd x y
  | [], k, xs, h => by cases h; exact ⟨rfl, fun i x hi => by simp at hi⟩
  | (i, y) :: ys, k, xs, h => by
    unfold bsParts at h
    split at h
    · rename_i hik
      subst hik
      split at h
      · rename_i x l hx hrest
        cases h
        obtain ⟨k1, k2⟩ := bsParts_ok hrest
        refine ⟨by simp [k1], fun j x' hj => ?_⟩
        cases j with
        | zero => simp at hj; subst hj; exact ⟨y, by simp, cX_is hx⟩
        | succ j =>
          obtain ⟨y', q1, q2⟩ := k2 j x' (by simpa using hj)
          exact ⟨y', by simpa [show i + (j + 1) = i + 1 + j by omega] using q1, q2⟩
      · cases h
    · cases h

theorem mid_take {α : Type} (A C D : List α) (a n : Nat) (ha : A.length = a) (hc : C.length = n) : ((A ++ C ++ D).take (a + n)).drop a = C := by
  subst ha; subst hc
  rw [show A.length + C.length = (A ++ C).length by simp, List.take_left, List.drop_left]

theorem fill_row {E : Env} (sz : Nat) : ∀ (k : Nat) (vals : List (Nat × Value)) (vs : List AV) (z : Array Value), vals.length = vs.length → (∀ (i : Nat) v, vs[i]? = some v → ∃ c, vals[i]? = some (k + i, c) ∧ Rep E v c ∧ v.cells.length = sz ∧ ∀ y ∈ v.cells, y.one = true) → (k + vals.length) * sz ≤ z.size →
    ∃ z' : Array Value, Instr.fill (fun i => some (i * sz, sz)) z vals = some z' ∧ z'.size = z.size ∧ z'.toList.take (k * sz) = z.toList.take (k * sz) ∧ RepL E (flat vs) ((z'.toList.drop (k * sz)).take (vs.length * sz))
  | k, [], [], z, _, _, _ => ⟨z, rfl, rfl, rfl, by simp [flat]; exact .nil⟩
  | _, [], _ :: _, _, hl, _, _ => by simp at hl
  | _, _ :: _, [], _, hl, _, _ => by simp at hl
  | k, (i, c) :: vals, v :: vs, z, hl, hxy, hfit => by
    obtain ⟨c', hc', hrep, hlen, hone⟩ := hxy 0 v (by simp)
    simp at hc'
    obtain ⟨rfl, rfl⟩ := hc'
    have hcells : RepL E v.cells c.cells.toList := hrep.cellsL (by rintro rfl; have := hone .junk (by simp [AV.cells]); simp [AV.one] at this)
    have hcl : c.cells.size = sz := by rw [← Array.length_toList, hcells.length]; exact hlen
    have hmul : (i + (vals.length + 1)) * sz = i * sz + sz + vals.length * sz := by rw [Nat.add_mul, Nat.add_mul]; omega
    have hfit' : i * sz + sz + vals.length * sz ≤ z.size := by rw [← hmul]; simpa using hfit
    have hmul2 : (i + 1) * sz = i * sz + sz := by rw [Nat.add_mul]; omega
    rw [fill_step _ z i (i * sz) sz c vals rfl hcl (by omega)]
    obtain ⟨z', f1, f2, f3, f4⟩ := fill_row sz (i + 1) vals vs (z.toList.take (i * sz) ++ c.cells.toList ++ z.toList.drop (i * sz + sz)).toArray (by simpa using hl) (fun j x hj => by
      obtain ⟨c2, q1, q2⟩ := hxy (j + 1) x (by simpa using hj)
      exact ⟨c2, by simpa [show i + (j + 1) = i + 1 + j by omega] using q1, q2⟩) (by
      have : (i + 1 + vals.length) * sz = i * sz + sz + vals.length * sz := by rw [Nat.add_mul, Nat.add_mul]; omega
      rw [this]; simp; omega)
    have hsz : (z.toList.take (i * sz) ++ c.cells.toList ++ z.toList.drop (i * sz + sz)).toArray.size = z.size := by simp; omega
    refine ⟨z', f1, by rw [f2, hsz], ?_, ?_⟩
    · have : z'.toList.take (i * sz) = (z'.toList.take ((i + 1) * sz)).take (i * sz) := by
        rw [List.take_take]; congr 1; omega
      rw [this, f3, List.take_take, hmul2]
      rw [show min (i * sz) (i * sz + sz) = i * sz by omega]
      simp only [List.append_assoc]
      rw [List.take_append_of_le_length (by simp; omega), List.take_take]
      simp
    · rw [flat_cons]
      have h1 : (z'.toList.drop (i * sz)).take sz = c.cells.toList := by
        have : (z'.toList.drop (i * sz)).take sz = (z'.toList.take ((i + 1) * sz)).drop (i * sz) := by
          rw [hmul2, List.drop_take]; congr 1; omega
        rw [this, f3, hmul2]
        exact mid_take _ _ _ _ _ (by simp; omega) (by simpa using hcl)
      have h2 : ((z'.toList.drop (i * sz)).take ((vs.length + 1) * sz)) = (z'.toList.drop (i * sz)).take sz ++ (z'.toList.drop ((i + 1) * sz)).take (vs.length * sz) := by
        rw [show (vs.length + 1) * sz = sz + vs.length * sz by rw [Nat.add_mul]; omega, List.take_add, List.drop_drop, hmul2]
      simp only [List.length_cons]
      rw [h2, h1]
      exact hcells.append f4

theorem sound_bs {T : TT} {t e : TypeId} {j : TI} {len : Nat} {parts' : Array (Nat × Operand)} {parts : List Opd} (ho : o.op = .buildSlice t len parts') (ht : P.underlying t = some (.slice e)) (hj : TIOk P e j) (hlen : parts'.size = len ∧ len * j.size ≤ 16777216 ∧ 0 < j.size) (hparts : bsParts T e 0 parts'.toList = some parts)
    {tv : TV} {p : Prop} (h : pev (.bs e j.size parts) true st = some (tv, p)) (hp : p) : OpVal P o st st tv := by
  simp only [pev] at h
  split at h
  · rename_i vs q hvs
    cases h
    obtain ⟨p1, p2⟩ := hp
    obtain ⟨hl1, hl2, hl3⟩ := hlen
    obtain ⟨k1, k2⟩ := bsParts_ok hparts
    intro B E F blk rw a w hr
    obtain ⟨z, z1, z2, z3, z4, z5⟩ := hj.zero_rep E w
    have hrl := rdL_rep hr (ys := parts'.toList.map (·.2)) (by simpa using k1) (fun i x hi => by
      obtain ⟨y, q1, q2⟩ := k2 i x hi
      exact ⟨y, by simp only [List.getElem?_map, q1, Option.map_some], q2⟩) hvs p1
    have hvl : vs.length = len := by
      have := hrl.length
      simp at this
      omega
    let vals := parts'.toList.map fun (i, y) => (i, a.eval y)
    have hvals : vals.length = vs.length := by simp [vals, hl1, hvl]
    let z0 : Array Value := (Array.range (len * j.size)).map (z.cells[· % z.cells.size]!)
    obtain ⟨z', f1, f2, f3, f4⟩ := fill_row (E := E) j.size 0 vals vs z0 hvals (fun i v hi => by
      obtain ⟨c, hc, hrep⟩ := hrl.at i v hi
      obtain ⟨s1, s2⟩ := p2 v (List.mem_of_getElem? hi)
      simp only [List.map_map, List.getElem?_map, Option.map_eq_some_iff] at hc
      obtain ⟨⟨i', y⟩, hy, hce⟩ := hc
      have hil : i < parts.length := by
        rw [k1]
        rcases Nat.lt_or_ge i parts'.toList.length with h' | h'
        · exact h'
        · rw [List.getElem?_eq_none h'] at hy; cases hy
      obtain ⟨y', hy', _⟩ := k2 i _ (List.getElem?_eq_getElem hil)
      rw [hy] at hy'
      simp at hy'
      obtain ⟨rfl, rfl⟩ := hy'
      refine ⟨c, ?_, hrep, s1, s2⟩
      simp only [vals, List.getElem?_map, hy, Option.map_some]
      simp at hce
      simp [hce]) (by simp [z0, hvals, hvl])
    simp only [Nat.zero_mul, List.drop_zero] at f4
    have hz'len : z'.toList.length = vs.length * j.size := by simp [f2, z0, hvl]
    rw [List.take_of_length_le (by omega)] at f4
    obtain ⟨MM, hm⟩ := hr.mem
    obtain ⟨G, nr, hs⟩ := hm.sim
    obtain ⟨hs2, hle⟩ := hs.new_cells e z'.toList []
    have hone : ∀ v ∈ flat vs, v.one = true := by
      intro v hv
      simp only [flat, List.mem_flatMap] at hv
      obtain ⟨x, hx, hv⟩ := hv
      exact (p2 x hx).2 v hv
    have hes : RepEs (E.lay w.heap.size 0 z'.toList) j.size vs w.heap.size 0 := RepEs.of (fun x hx => (p2 x hx).1) hone (f4.mono hle) (Env.lay_lays E w.heap.size 0 z'.toList)
    refine ⟨.slice (some ⟨w.heap.size, 0, none⟩) len len, w.alloc (.cells z' e), E.lay w.heap.size 0 z'.toList, blk, rw, .inl ?_, hle, (Below.refl B w).alloc hs.base _, ⟨hr.tmps.mono hle (Pre.refl _) (Pre.refl _), hr.defs.mono hle, MM, hm.mono_env ⟨G, nr, by simpa using hs2⟩⟩, ?_⟩
    · simp only [execOp, ho]
      refine run_v ?_
      have hmap : (parts'.map fun (i, x) => (i, a.eval x)).toList = vals := by simp [vals]
      have hnot : ¬ (len * j.size > 2 ^ 24) := by omega
      simp only [Instr.buildSlice, Sem.run_bind, run_underlying ht, Result.andThen_ok, hj.run_size w, Sem.run_ite, if_neg hnot, Sem.run_pure]
      have hz1 : ((if len * j.size = 0 then pure #[] else do pure (← zeroValue e).cells : Sem (Array Value))).run P w = .ok (if len * j.size = 0 then #[] else z.cells) w := by
        split
        · rfl
        · simp [z1]
      have hfill : Instr.fill (fun i => some (i * j.size, j.size)) ((Array.range (len * j.size)).map ((if len * j.size = 0 then #[] else z.cells)[· % (if len * j.size = 0 then #[] else z.cells).size]!)) vals = some z' := by
        rw [← f1]
        congr 1
        by_cases h0 : len * j.size = 0
        · simp [z0, h0]
        · simp [z0, h0]
      by_cases h0 : len * j.size = 0
      · simp only [h0, if_true, Sem.run_pure, Result.andThen_ok, hmap] at hfill ⊢
        simp only [hfill, newRow, Sem.run_bind, run_newObj, Result.andThen_ok, Sem.run_pure]
        rfl
      · simp only [h0, if_false, Sem.run_bind, z1, Sem.run_pure, Result.andThen_ok, hmap] at hfill ⊢
        simp only [hfill, newRow, Sem.run_bind, run_newObj, Result.andThen_ok, Sem.run_pure]
        rfl
    · have := Rep.sl (E := E.lay w.heap.size 0 z'.toList) .full j.size vs w.heap.size 0 len len hvl.symm hes (Nat.le_refl _) ⟨rfl, rfl⟩
      exact this
  · cases h

end
end Go.Am
/- The evaluation of regions and code in the resolved form. -/
set_option linter.unusedSectionVars false
set_option linter.unusedVariables false
set_option linter.unusedSimpArgs false
namespace Go.Am
open Go.RowKit
variable [Inhabited LaidBox] {ro : Option Nat}

section
variable {P : Program} {T : TT} {o : Oper} {st : St}

theorem descOf_und (hT : TTOk P T) {t : TypeId} {d : TypeDesc} (h : descOf T t = d) (hd : d ≠ .invalid) : P.underlying t = some d := by
  unfold descOf at h
  cases ht : T t with
  | none => simp [ht] at h; exact absurd h.symm hd
  | some i => simp [ht] at h; rw [← h]; exact (hT t i ht).und

theorem oX_is {ty : TypeId} {y : Option Operand} {x : Option Opd} (h : oX T ty y = some x) : (x = none ∧ y = none) ∨ ∃ x0 y0, x = some x0 ∧ y = some y0 ∧ IsOpd x0 y0 := by
  cases y with
  | none => cases h; exact .inl ⟨rfl, rfl⟩
  | some y =>
    simp only [oX, Option.map_eq_some_iff] at h
    obtain ⟨x0, hx0, rfl⟩ := h
    exact .inr ⟨x0, y, rfl, rfl, cX_is hx0⟩

theorem isNilC_is {k : NK} {y : Operand} (h : isNilC k y = true) : y = .const (nilOf k) := by
  unfold isNilC at h
  split at h <;> first | rfl | simp at h

theorem sound_binOp (hT : TTOk P T) {esc : List Nat} {k : CK} {op : BinOp} {t t' : TypeId} {x y : Operand} (ho : o.op = .binOp op t x y t') (hk : compK T esc o = some k) {tv : TV} {p : Prop} (h : pev k true st = some (tv, p)) (hp : p) : OpVal P o st st tv := by
  simp only [compK, ho] at hk
  split at hk
  · split at hk
    · rename_i x' y' hx hy
      split at hk
      · cases hk; exact sound_ar ho (.inl rfl) (cX_is hx) (cX_is hy) h hp
      · cases hk; exact sound_ar ho (.inr (.inl rfl)) (cX_is hx) (cX_is hy) h hp
      · cases hk; exact sound_ar ho (.inr (.inr rfl)) (cX_is hx) (cX_is hy) h hp
      · cases hk; exact sound_qr ho (.inl rfl) (cX_is hx) (cX_is hy) h hp
      · cases hk; exact sound_qr ho (.inr rfl) (cX_is hx) (cX_is hy) h hp
      · cases hk; exact sound_ic ho (.inl rfl) (cX_is hx) (cX_is hy) h hp
      · cases hk; exact sound_ic ho (.inr (.inl rfl)) (cX_is hx) (cX_is hy) h hp
      · cases hk; exact sound_ic ho (.inr (.inr (.inl rfl))) (cX_is hx) (cX_is hy) h hp
      · cases hk; exact sound_ic ho (.inr (.inr (.inr (.inl rfl)))) (cX_is hx) (cX_is hy) h hp
      · cases hk; exact sound_ic ho (.inr (.inr (.inr (.inr (.inl rfl))))) (cX_is hx) (cX_is hy) h hp
      · cases hk; exact sound_ic ho (.inr (.inr (.inr (.inr (.inr rfl))))) (cX_is hx) (cX_is hy) h hp
      · cases hk
    · cases hk
  · split at hk
    · rename_i x' y' hx hy
      split at hk
      · cases hk; exact sound_cat ho (cX_is hx) (cX_is hy) h hp
      · cases hk; exact sound_sc ho (.inl rfl) (cX_is hx) (cX_is hy) h hp
      · cases hk; exact sound_sc ho (.inr rfl) (cX_is hx) (cX_is hy) h hp
      · cases hk
    · cases hk
  · rename_i hd
    split at hk
    · rename_i x' y' hx hy
      split at hk
      · cases hk; exact sound_bc ho (.inl rfl) (descOf_und hT hd (by simp)) (cX_is hx) (cX_is hy) h hp
      · cases hk; exact sound_bc ho (.inr rfl) (descOf_und hT hd (by simp)) (cX_is hx) (cX_is hy) h hp
      · cases hk
    · cases hk
  all_goals first
    | (cases hk; done)
    | (rename_i hd
       split at hk
       · rename_i hcond
         simp only [Bool.and_eq_true] at hcond
         simp only [Option.map_eq_some_iff] at hk
         obtain ⟨x', hx, rfl⟩ := hk
         have hop : op = .eql ∨ op = .neq := by
           have := hcond.2
           cases op <;> first | exact .inl rfl | exact .inr rfl | simp [isEqOp] at this
         have hy := isNilC_is hcond.1
         subst hy
         exact sound_nl ho hop (descOf_und hT hd (by simp)) trivial (cX_is hx) h hp
       · cases hk)

theorem sound_tas {ok : Bool} {x : Opd} {x' : Operand} {t xt : TypeId} {j : TI} (ho : o.op = .typeAssert x' xt t ok) (hj : TIOk P t j) (hd : ∀ ms, j.desc ≠ .interface ms) (hx : IsOpd x x')
    {tv : TV} {p : Prop} (h : pev (.tas ok t j.zero x) true st = some (tv, p)) (hp : p) : OpVal P o st st tv := by
  simp only [pev] at h
  split at h
  · rename_i t' v q h1
    split at h
    · rename_i hok
      subst hok
      cases h
      refine .pure fun B E F blk rw a w hr => ?_
      obtain ⟨c, e1, hc⟩ := (hr.rd hx h1 hp).iface_inv
      obtain ⟨z, z1, z2, z3, z4, z5⟩ := hj.zero_rep E w
      by_cases ht : t' = t
      · refine ⟨.tuple #[c, .bool true], ?_, ?_⟩
        · simp only [execOp, ho, e1]
          refine run_v ?_
          simp only [Instr.typeAssert, Sem.run_bind, hj.run_und w, Result.andThen_ok]
          cases hdd : j.desc <;> first | exact absurd hdd (hd _) | simp [ht]
        · have := Rep.tup (E := E) [v, .bool true] [c, .bool true] (.cons _ _ _ _ hc (.cons _ _ _ _ (.bool _) .nil))
          simpa [RelV, ht] using this
      · refine ⟨.tuple #[z, .bool false], ?_, ?_⟩
        · simp only [execOp, ho, e1]
          refine run_v ?_
          simp only [Instr.typeAssert, Sem.run_bind, hj.run_und w, Result.andThen_ok]
          cases hdd : j.desc <;> first | exact absurd hdd (hd _) | simp [ht, z1]
        · have := Rep.tup (E := E) [j.zero, .bool false] [z, .bool false] (.cons _ _ _ _ z2 (.cons _ _ _ _ (.bool _) .nil))
          simpa [RelV, ht] using this
    · rename_i hok
      have hok : ok = false := by simpa using hok
      subst hok
      cases h
      obtain ⟨p1, rfl⟩ := hp
      refine .pure fun B E F blk rw a w hr => ?_
      obtain ⟨c, e1, hc⟩ := (hr.rd hx h1 p1).iface_inv
      refine ⟨c, ?_, hc⟩
      simp only [execOp, ho, e1]
      refine run_v ?_
      simp only [Instr.typeAssert, Sem.run_bind, hj.run_und w, Result.andThen_ok]
      cases hdd : j.desc <;> first | exact absurd hdd (hd _) | simp
  · rename_i q h1
    split at h
    · rename_i hok
      subst hok
      cases h
      refine .pure fun B E F blk rw a w hr => ?_
      have e1 := (hr.rd hx h1 hp).niliface_inv
      obtain ⟨z, z1, z2, z3, z4, z5⟩ := hj.zero_rep E w
      refine ⟨.tuple #[z, .bool false], ?_, ?_⟩
      · simp only [execOp, ho, e1]
        refine run_v ?_
        simp only [Instr.typeAssert, Sem.run_bind, hj.run_und w, Result.andThen_ok]
        cases hdd : j.desc <;> first | exact absurd hdd (hd _) | simp [z1]
      · have := Rep.tup (E := E) [j.zero, .bool false] [z, .bool false] (.cons _ _ _ _ z2 (.cons _ _ _ _ (.bool _) .nil))
        simpa [RelV] using this
    · cases h
  · cases h

theorem sound_lk {t kt et : TypeId} {j : TI} {m k : Opd} {m' k' : Operand} {ok : Bool} (ho : o.op = .lookup t m' k' ok) (ht : P.underlying t = some (.map kt et)) (hkt : P.underlying kt = some .string) (hj : TIOk P et j) (hm : IsOpd m m') (hk : IsOpd k k')
    {tv : TV} {p : Prop} (h : pev (.lk ok j.zero m k) true st = some (tv, p)) (hp : p) : OpVal P o st st tv := by
  simp only [pev] at h
  split at h
  · rename_i s q hks
    split at h
    · rename_i r p1 hmr
      split at h
      · rename_i kvs hM
        cases h
        refine .pure fun B E F blk rw a w hr => ?_
        obtain ⟨b, e1, rfl⟩ := (hr.rd hk hks hp.2).str_inv
        have e2 := (hr.rd hm hmr hp.1).map_inv
        obtain ⟨MM, hmm⟩ := hr.mem
        obtain ⟨c, h1, h2⟩ := run_lookup_map ht hkt hj hmm.sim (hmm.sub _ _ hM) b ok
        refine ⟨if ok then .tuple #[c, .bool (findS kvs b.data.toList).isSome] else c, ?_, ?_⟩
        · simp only [execOp, ho, e1, e2]
          exact run_v h1
        · cases ok with
          | false => exact h2
          | true => exact .tup _ _ (.cons _ _ _ _ h2 (.cons _ _ _ _ (.bool _) .nil))
      · cases h
    · rename_i p1 hmr
      cases h
      refine .pure fun B E F blk rw a w hr => ?_
      obtain ⟨b, e1, rfl⟩ := (hr.rd hk hks hp.2).str_inv
      have e2 := (hr.rd hm hmr hp.1).nilmap_inv
      obtain ⟨c, h1, h2⟩ := run_lookup_nil (P := P) (w := w) ht hkt hj (E := E) b ok
      refine ⟨if ok then .tuple #[c, .bool false] else c, ?_, ?_⟩
      · simp only [execOp, ho, e1, e2]
        exact run_v h1
      · cases ok with
        | false => exact h2
        | true => exact .tup _ _ (.cons _ _ _ _ h2 (.cons _ _ _ _ (.bool _) .nil))
    · cases h
  · cases h

theorem pev_ok (hT : TTOk P T) {esc : List Nat} {k : CK} (hk : compK T esc o = some k) {tv : TV} {p : Prop} (h : pev k true st = some (tv, p)) (hp : p) : OpVal P o st st tv := by
  cases ho : o.op with
  | move x =>
    simp only [compK, ho, Option.map_eq_some_iff] at hk
    obtain ⟨x', hx, rfl⟩ := hk
    exact sound_mv (.inl ho) (cX_is hx) h hp
  | assign x =>
    simp only [compK, ho, Option.map_eq_some_iff] at hk
    obtain ⟨x', hx, rfl⟩ := hk
    exact sound_mv (.inr ho) (cX_is hx) h hp
  | pick c a b =>
    simp only [compK, ho] at hk
    split at hk
    · rename_i c' a' b' hc ha hb
      cases hk
      exact sound_pick ho (cX_is hc) (cX_is ha) (cX_is hb) h hp
    · cases hk
  | binOp op t x y t' => exact sound_binOp hT ho hk h hp
  | unOp op t x =>
    cases op <;> simp only [compK, ho, Option.map_eq_some_iff, reduceCtorEq] at hk
    · obtain ⟨x', hx, rfl⟩ := hk
      exact sound_ng ho (cX_is hx) h hp
    · obtain ⟨x', hx, rfl⟩ := hk
      exact sound_no ho (cX_is hx) h hp
  | index t x i =>
    simp only [compK, ho] at hk
    split at hk
    · rename_i hd hx hi
      cases hk
      exact sound_si ho (descOf_und hT hd (by simp)) (cX_is hx) (cX_is hi) h hp
    · split at hk
      · cases hk
        cases h
      · cases hk
    · cases hk
  | slice t x lo hi mx =>
    cases mx with
    | some m => simp [compK, ho] at hk
    | none =>
      simp only [compK, ho] at hk
      split at hk
      · rename_i x' lo' hi' hx hlo hhi
        split at hk
        · rename_i hd
          cases hk
          exact sound_ss ho (descOf_und hT hd (by simp)) (cX_is hx) (oX_is hlo) (oX_is hhi) h hp
        · rename_i e hd
          simp only [sizeT, Option.map_eq_some_iff] at hk
          obtain ⟨n, ⟨j, hj, rfl⟩, rfl⟩ := hk
          exact sound_sls ho (descOf_und hT hd (by simp)) (hT _ _ hj) (cX_is hx) (oX_is hlo) (oX_is hhi) h hp
        · cases hk
      · cases hk
  | field t x f =>
    simp only [compK, ho] at hk
    split at hk
    · rename_i fs x' hd hx
      split at hk
      · rename_i fd hf
        split at hk
        · rename_i j hj
          cases hk
          exact sound_fl ho (descOf_und hT hd (by simp)) hf (hT _ _ hj) rfl rfl rfl (cX_is hx) h hp
        · cases hk
      · cases hk
    · cases hk
  | fieldAddr t x f =>
    simp only [compK, ho] at hk
    split at hk
    · rename_i fs x' hd hx
      split at hk
      · rename_i fd hf
        split at hk
        · rename_i j hj
          split at hk
          · cases hk
          · rename_i hz
            cases hk
            exact sound_fa ho (descOf_und hT hd (by simp)) hf (hT _ _ hj) hz rfl (cX_is hx) h hp
        · cases hk
      · cases hk
    · cases hk
  | indexAddr t x i =>
    have plain : (match descOf T t, cX T t x, cX T 0 i with
        | .slice e, some x, some i => (sizeT T e).map fun n => CK.ia n x i
        | .array len e, some x, some i => (sizeT T e).map fun n => CK.iaa len n x i
        | _, _, _ => none) = some k → OpVal P o st st tv := fun hk => by
      split at hk
      · rename_i e x' i' hd hx hi
        simp only [sizeT, Option.map_eq_some_iff] at hk
        obtain ⟨n, ⟨j, hj, rfl⟩, rfl⟩ := hk
        exact sound_ia ho (descOf_und hT hd (by simp)) (hT _ _ hj) (cX_is hx) (cX_is hi) h hp
      · rename_i len e x' i' hd hx hi
        simp only [sizeT, Option.map_eq_some_iff] at hk
        obtain ⟨n, ⟨j, hj, rfl⟩, rfl⟩ := hk
        exact sound_iaa ho (descOf_und hT hd (by simp)) (hT _ _ hj) (cX_is hx) (cX_is hi) h hp
      · cases hk
    cases x with
    | global gl =>
      simp only [compK, ho, iaK] at hk
      split at hk
      · rename_i len e i' hd hi
        split at hk
        · rename_i hsz
          cases hk
          simp only [sizeT, Option.map_eq_some_iff] at hsz
          obtain ⟨j, hj, hj1⟩ := hsz
          exact sound_iag ho (descOf_und hT hd (by simp)) (hT _ _ hj) hj1 (cX_is hi) h hp
        · cases hk
      · cases hk
    | tmp y => simp only [compK, ho, iaK] at hk; exact plain hk
    | const y => simp only [compK, ho, iaK] at hk; exact plain hk
    | func y => simp only [compK, ho, iaK] at hk; exact plain hk
  | load t x =>
    simp only [compK, ho] at hk
    split at hk
    · rename_i j x' hj hx
      cases hk
      exact sound_ld ho (hT _ _ hj) rfl rfl (cX_is hx) h hp
    · cases hk
  | nilCheck x =>
    simp only [compK, ho, Option.map_eq_some_iff] at hk
    obtain ⟨x', hx, rfl⟩ := hk
    exact sound_nc ho (cX_is hx) h hp
  | makeInterface t x =>
    simp only [compK, ho] at hk
    split at hk
    · cases hk
    · cases hk
    · rename_i d h1 h2
      simp only [Option.map_eq_some_iff] at hk
      obtain ⟨x', hx, rfl⟩ := hk
      exact sound_mi ho (descOf_und hT rfl h2) h1 (cX_is hx) h hp
  | makeFunc fn first cap =>
    simp only [compK, ho] at hk
    split at hk
    · rename_i a b ha hb
      cases hk
      exact sound_mf ho (cXL_is ha) (cXL_is hb) h hp
    · cases hk
  | extract x i =>
    simp only [compK, ho, Option.map_eq_some_iff] at hk
    obtain ⟨x', hx, rfl⟩ := hk
    exact sound_ex ho (cX_is hx) h hp
  | convert s d x =>
    simp only [compK, ho] at hk
    split at hk
    · rename_i k0 k1 hs hd
      simp only [Option.map_eq_some_iff] at hk
      obtain ⟨x', hx, rfl⟩ := hk
      exact sound_cv ho (descOf_und hT hs (by simp)) (descOf_und hT hd (by simp)) (cX_is hx) h hp
    · rename_i hs hd
      simp only [Option.map_eq_some_iff] at hk
      obtain ⟨x', hx, rfl⟩ := hk
      exact sound_cvs ho (descOf_und hT hs (by simp)) (descOf_und hT hd (by simp)) (cX_is hx) h hp
    · cases hk
  | build t parts =>
    simp only [compK, ho] at hk
    split at hk
    · rename_i j hj
      split at hk
      · rename_i fs hd
        split at hk
        · rename_i hall
          simp only [Option.map_eq_some_iff] at hk
          obtain ⟨ps, hps, rfl⟩ := hk
          exact sound_bd hT ho (hT _ _ hj) hd hall hps h hp
        · cases hk
      · rename_i len e hd
        split at hk
        · rename_i je hje
          simp only [Option.map_eq_some_iff] at hk
          obtain ⟨ps, hps, rfl⟩ := hk
          exact sound_ab hT ho (hT _ _ hj) hd (hT _ _ hje) hps h hp
        · cases hk
      · cases hk
    · cases hk
  | buildSlice t len parts =>
    simp only [compK, ho] at hk
    split at hk
    · rename_i e hd
      split at hk
      · rename_i j hj
        split at hk
        · rename_i hc
          simp only [Option.map_eq_some_iff] at hk
          obtain ⟨ps, hps, rfl⟩ := hk
          exact sound_bs ho (descOf_und hT hd (by simp)) (hT _ _ hj) hc hps h hp
        · cases hk
      · cases hk
    · cases hk
  | call c =>
    simp only [compK, ho] at hk
    split at hk
    · simp only [Option.map_eq_some_iff] at hk
      obtain ⟨xs, _, rfl⟩ := hk
      cases h
    · split at hk
      · cases hk; cases h
      · cases hk
    · rename_i hcal
      split at hk
      · rename_i x t hargs htys
        split at hk
        · rename_i hd
          simp only [Option.map_eq_some_iff] at hk
          obtain ⟨x', hx, rfl⟩ := hk
          exact sound_ln (s := true) ho hcal hargs htys (descOf_und hT hd (by simp)) (cX_is hx) h hp
        · rename_i e hd
          simp only [Option.map_eq_some_iff] at hk
          obtain ⟨x', hx, rfl⟩ := hk
          exact sound_ln (s := false) ho hcal hargs htys (show ∃ e, P.underlying t = some (.slice e) from ⟨e, descOf_und hT hd (by simp)⟩) (cX_is hx) h hp
        · cases hk
      · cases hk
    · repeat' (split at hk)
      all_goals first | (cases hk; cases h; done) | (cases hk; done)
    · rename_i hcal
      split at hk
      · rename_i x y hargs
        split at hk
        · rename_i x' y' hx hy
          cases hk
          exact sound_mn (mx := false) ho hcal hargs (cX_is hx) (cX_is hy) h hp
        · cases hk
      · cases hk
    · rename_i hcal
      split at hk
      · rename_i x y hargs
        split at hk
        · rename_i x' y' hx hy
          cases hk
          exact sound_mn (mx := true) ho hcal hargs (cX_is hx) (cX_is hy) h hp
        · cases hk
      · cases hk
    · cases hk; cases h
    · cases hk
  | alloc e =>
    simp only [compK, ho] at hk
    split at hk
    · split at hk
      · cases hk; split at h <;> cases h
      · cases hk
    · cases hk
  | box e x =>
    simp only [compK, ho] at hk
    split at hk
    · simp only [Option.map_eq_some_iff] at hk
      obtain ⟨x', hx, rfl⟩ := hk
      split at h <;> cases h
    · cases hk
  | insert t m k' x =>
    simp only [compK, ho] at hk
    split at hk
    · split at hk
      · cases hk; cases h
      · cases hk
    · cases hk
  | store t p' x =>
    simp only [compK, ho] at hk
    split at hk
    · cases hk; cases h
    · cases hk
  | sliceToArrayPointer d x => simp [compK, ho] at hk
  | makeMap t r =>
    cases r with
    | some r => simp [compK, ho] at hk
    | none =>
      simp only [compK, ho] at hk
      split at hk
      · cases hk; cases h
      · cases hk
  | makeChan t s => simp [compK, ho] at hk
  | makeSlice t l c =>
    simp only [compK, ho] at hk
    split at hk
    · split at hk
      · cases hk; cases h
      · cases hk
    · cases hk
  | lookup t m k' ok =>
    simp only [compK, ho] at hk
    split at hk
    · rename_i kt et m' k'' hd hm hkx
      split at hk
      · rename_i j hkt hj
        cases hk
        exact sound_lk ho (descOf_und hT hd (by simp)) (descOf_und hT hkt (by simp)) (hT _ _ hj) (cX_is hm) (cX_is hkx) h hp
      · cases hk
    · cases hk
  | mapUpdate t m k' x =>
    simp only [compK, ho] at hk
    split at hk
    · split at hk
      · cases hk; cases h
      · cases hk
    · cases hk
  | mapEntry t m k' => simp [compK, ho] at hk
  | entryStore t m s x => simp [compK, ho] at hk
  | range t x => simp [compK, ho] at hk
  | next it s => simp [compK, ho] at hk
  | entry it => simp [compK, ho] at hk
  | typeAssert x xt t ok =>
    simp only [compK, ho] at hk
    split at hk
    · rename_i j x' hj hx
      split at hk
      · cases hk
      · rename_i hd
        cases hk
        exact sound_tas ho (hT _ _ hj) hd (cX_is hx) h hp
    · cases hk
  | go c => simp [compK, ho] at hk
  | defer c =>
    simp only [compK, ho] at hk
    split at hk
    · split at hk
      · cases hk; cases h
      · cases hk
    · cases hk
  | panic x =>
    simp only [compK, ho, Option.map_eq_some_iff] at hk
    obtain ⟨x', hx, rfl⟩ := hk
    cases h
  | send c x => simp [compK, ho] at hk
  | recv t c ok => simp [compK, ho] at hk
  | select cs b => simp [compK, ho] at hk
  | ready g => simp [compK, ho] at hk
  | waits g => simp [compK, ho] at hk
end
end Go.Am
/- Appends: onto rows of the call's own, onto rows that memory speaks of, onto a slice once. -/
set_option linter.unusedSectionVars false
set_option linter.unusedVariables false
set_option linter.unusedSimpArgs false
namespace Go.Am
open Go.RowKit
variable [Inhabited LaidBox] {ro : Option Nat}

section
variable {P : Program} {B : Nat} {E : Env} {MM : Mem} {w : World}

theorem src_of {e' tx : TypeId} (hk : P.underlying tx = some (.slice e')) {own : Own} {sz : Nat} {es : List AV} {c : Value} (hs : Sim B E MM w) (h : Rep E (.sl own sz es) c) :
    ∃ news, Src P sz tx c es.length news w ∧ RepL E (flat es) news ∧ (∀ x ∈ es, x.cells.length = sz) ∧ (∀ v ∈ flat es, v.one = true) := by
  obtain ⟨G, nr, hs⟩ := hs
  rcases h.sl_inv3 with ⟨rfl, rfl, _⟩ | ⟨a0, rfl, rfl, _⟩ | ⟨b, o, cap, rfl, hes, _, _⟩
  · exact ⟨[], Src.ofNil w hk 0, .nil, by simp, by simp [flat]⟩
  · exact ⟨[], Src.ofSlice w hk a0 0 0 [] (by simp) (fun j u hj => by simp at hj) (by simp), .nil, by simp, by simp [flat]⟩
  · obtain ⟨cs, h1, h2, h3, h4⟩ := hes.lays
    refine ⟨cs, Src.ofSlice w hk _ _ _ cs h2 (fun j u hj => ?_) h4, h1, hes.sizes, hes.ones⟩
    rw [Addr.add_lit]
    exact hs.cell _ _ _ (h3 j u hj)

theorem olds_of {own : Own} {sz : Nat} {es : List AV} {c : Value} (hs : Sim B E MM w) (h : Rep E (.sl own sz es) c) :
    ∃ base cap olds, c = .slice base es.length cap ∧ es.length ≤ cap ∧ (Builtin.firstCells sz es.length (.slice base es.length cap)).run P w = .ok olds.toArray w ∧ olds.length = es.length * sz ∧ RepL E (flat es) olds ∧ (∀ x ∈ es, x.cells.length = sz) ∧ (∀ v ∈ flat es, v.one = true) := by
  obtain ⟨G, nr, hs⟩ := hs
  rcases h.sl_inv3 with ⟨rfl, rfl, _⟩ | ⟨a0, rfl, rfl, _⟩ | ⟨b, o, cap, rfl, hes, hcap, _⟩
  · exact ⟨none, 0, [], rfl, Nat.le_refl _, run_firstCells_none w sz 0 0 0, by simp, .nil, by simp, by simp [flat]⟩
  · exact ⟨some a0, 0, [], rfl, Nat.le_refl _, run_firstCells_some w sz 0 a0 0 0 [] (by simp) (fun j u hj => by simp at hj), by simp, .nil, by simp, by simp [flat]⟩
  · obtain ⟨cs, h1, h2, h3, h4⟩ := hes.lays
    refine ⟨_, cap, cs, rfl, hcap, run_firstCells_some w sz es.length _ es.length cap cs h2 (fun j u hj => ?_), h2, h1, hes.sizes, hes.ones⟩
    rw [Addr.add_lit]
    exact hs.cell _ _ _ (h3 j u hj)

theorem World.alloc_drew_below {B : Nat} {w : World} (hB : B ≤ w.heap.size) (o : Obj) : Below B w (w.drew.alloc o) :=
  ⟨rfl, rfl, rfl, by simp, fun k hk => Below.heap_alloc w.drew o k (Nat.lt_of_lt_of_le hk hB)⟩

/-- Onto a slice whose room is its own. -/
theorem run_append_row {t tx ty e e' : TypeId} {i : TI} (ht : P.underlying t = some (.slice e)) (htx : P.underlying tx = some (.slice e')) (hi : TIOk P e i) (hpos : 0 < i.size) (hs : Sim B E MM w)
    {q n : Nat} (hM : MM (.w q) = some (.row e i.size n)) {es : List AV} (hn : es.length = n) {cs : Value} (hcs : Rep E (.sl (.srow q) i.size es) cs) {own : Own} {es2 : List AV} {cx : Value} (hcx : Rep E (.sl own i.size es2) cx)
    (hmax : n + es2.length ≤ maxLen) (hby : (n + es2.length) * i.bytes ≤ 140737488355328) :
    ∃ c' w' E', (Builtin.append_ #[t, tx] ty #[cs, cx]).run P w = .ok c' w' ∧ E.le E' ∧ Sim B E' (MM.set (.w q) (.row e i.size (n + es2.length))) w' ∧ Rep E' (.sl (.srow q) i.size (es ++ es2)) c' ∧ Below B w w' := by
  obtain ⟨news, hsrc, hnr, hnsz, hn1⟩ := src_of htx hs hcx
  obtain ⟨info, z, hi1, hi2, hi3, hi4, hi5, hi6⟩ := hi.info
  have hzl : z.cells.size = i.size := by
    have := (AV.concA_rep (E := E) hi5).2.1.length
    rw [Array.length_toList] at this
    omega
  rw [← hi2] at hsrc hpos
  obtain ⟨G, nr, hs0⟩ := id hs
  by_cases hm : es2 = []
  · subst hm
    have hset : MM.set (.w q) (.row e i.size n) = MM := Mem.set_self _ _ _ hM
    have hl0 : news = [] := by have := hnr.length; simpa [flat] using this
    subst hl0
    have hcells0 := hsrc.cells
    simp only [List.length_nil] at hcells0
    refine ⟨cs, w, E, ?_, Env.le.refl E, ?_, ?_, Below.refl B w⟩
    · rcases (hcs.sl_inv (by simp)) with ⟨rfl, _, _⟩ | ⟨b, o, cap, rfl, _, hcap, _⟩
      · rcases hsrc.kind with ⟨e2, hk⟩ | hk <;> simp [Builtin.append_, run_underlying ht, run_underlying hk, sizeOf, typeInfo, hi1, hsrc.len, hcells0]
      · have := run_append_room_src (P := P) w t tx ty e info ht hi1 b o es.length cap cx 0 [] hsrc (by simpa using hcap) (by simp) (by simp)
        simpa [World.setCells] using this
    · simpa [hset] using hs
    · simpa using hcs
  · have hm0 : 0 < es2.length := List.length_pos_iff.2 hm
    obtain ⟨base, cap, olds, rfl, hcap, hold, hol, hor, hosz, ho1⟩ := olds_of (P := P) (hs.drewN (w' := w.drew) rfl) hcs
    subst hn
    have hones : ∀ v ∈ flat (es ++ es2), v.one = true := fun v hv => by
      rw [flat_append, List.mem_append] at hv
      rcases hv with h | h
      · exact ho1 v h
      · exact hn1 v h
    have hsizes : ∀ x ∈ es ++ es2, x.cells.length = i.size := fun x hx => by
      rcases List.mem_append.1 hx with h | h
      · exact hosz x h
      · exact hnsz x h
    have hnl : news.length = es2.length * i.size := by rw [hsrc.newsLen, hi2]
    have hall : RepL E (flat (es ++ es2)) (olds ++ news) := by rw [flat_append]; exact hor.append hnr
    have halll : (olds ++ news).length = (es.length + es2.length) * i.size := by rw [List.length_append, hol, hnl, Nat.add_mul]
    by_cases hroom : es.length + es2.length ≤ cap
    · -- there is room
      rcases (hcs.sl_inv (by simp)) with ⟨h0, _, _⟩ | ⟨b, o, cap', h0, hes, _, hrow, ho0⟩
      · injection h0 with k1 k2 k3; omega
      · cases h0
        subst ho0
        obtain ⟨h1, ⟨h2, b0, h3⟩ | ⟨b', cap', cur, h2, h3, h4, h5, h6, h7, h8, h9⟩⟩ := hs0.row q e i.size es.length hM
        · rw [h2, h3] at hrow; cases hrow; omega
        · rw [h2] at hrow; cases hrow
          have hfit : es.length * i.size + news.length ≤ cur.size := by rw [hnl, h8, ← Nat.add_mul]; exact Nat.mul_le_mul_right _ hroom
          have hcell : ∀ j, j < news.length → (w.cell? ⟨b, 0 + es.length * info.size + j, none⟩).isSome = true := fun j hj => by
            rw [cell_of_row w b _ cur e (0, 0) h5, hi2]
            simp; omega
          have hfro : ∀ j, j < news.length → w.frozen? ⟨b, 0 + es.length * info.size + j, none⟩ = false := fun j hj => frozen_of_row w b _ cur e h5
          have hr := run_append_room_src (P := P) w t tx ty e info ht hi1 b 0 es.length cap cx es2.length news hsrc hroom hcell hfro
          have hset : w.setCells b (0 + es.length * info.size) news = w.setRow b (cur.toList.take (es.length * i.size) ++ news ++ cur.toList.drop (es.length * i.size + news.length)).toArray := by
            have h1' := run_storeCells_at P b (es.length * i.size) e news 0 cur w h5 (by simpa using hfit) hsrc.one
            have h2' := run_storeCells_cells (P := P) b (0 + es.length * info.size) news 0 w (by simpa using hcell) (by simpa using hfro) hsrc.one
            rw [hi2, Nat.zero_add] at h2'
            rw [h1'] at h2'
            have := (Result.ok.inj h2').2
            rw [hi2, Nat.zero_add]
            simpa using this.symm
          rw [hset] at hr
          obtain ⟨E', hle, hs', hrow', hlay⟩ := hs0.row_more q e i.size es.length es2.length hM b cap cur h2 h4 h3 h5 h7 h8 h9 news hnl hroom hm0
          refine ⟨_, _, E', hr, hle, ⟨G, nr, hs'⟩, ?_, ?_⟩
          · refine .sl _ _ _ b 0 cap _ (by simp) ?_ hroom ⟨hrow', rfl⟩
            refine (hes.mono hle).append ?_
            rw [Nat.zero_add]
            exact RepEs.of hnsz hn1 (hnr.mono hle) hlay
          · exact ⟨rfl, rfl, rfl, by simp, fun k hk => setRow_other w b k _ (by omega)⟩
    · -- there is none
      have hg : cap < es.length + es2.length := by omega
      have hr := run_append_grow_src (P := P) w t tx ty e info z ht hi1 hi4 base es.length cap olds (by rw [hi2]; exact hold) cx es2.length news hsrc hg (by simp only [maxLen] at hmax; omega) (growslice_fits hg (by rw [hi3]; exact hby))
      have hcapge := grownCap_ge w (es.length + es2.length) cap e
      have hcaple := grownCap_le_maxLen w (es.length + es2.length) cap e hmax
      have hzc : ∀ k, (Builtin.zeroCells z.cells k).toList.length = k * i.size := fun k => by rw [Array.length_toList, size_zeroCells, hzl]
      have hsd : Sim0 B E G nr MM w.drew := by
        obtain ⟨h1, h2, h3, h4, h5, h6, h7, h8, h9, h10, h11⟩ := hs0
        exact ⟨h1, h2, h3, h4, h5, h6, h7, h8, h9, h10, h11⟩
      obtain ⟨E', G', hle, hs', hrow', hlay⟩ := hsd.row_new q e i.size (es.length + es2.length) es.length (grownCap w (es.length + es2.length) cap e) (olds ++ news) (Builtin.zeroCells z.cells (grownCap w (es.length + es2.length) cap e - (es.length + es2.length))).toList halll
        (by rw [halll, hzc, ← Nat.add_mul]; congr 1; omega) hcapge hcaple hM (by omega)
      refine ⟨_, _, E', hr, hle, ⟨G', nr, ?_⟩, ?_, World.alloc_drew_below hs0.base _⟩
      · have heq : ((olds ++ news).toArray ++ Builtin.zeroCells z.cells (grownCap w (es.length + es2.length) cap e - (es.length + es2.length))) = (olds ++ news ++ (Builtin.zeroCells z.cells (grownCap w (es.length + es2.length) cap e - (es.length + es2.length))).toList).toArray := by
          apply Array.ext'; simp
        rw [heq]; exact hs'
      · exact .sl _ _ _ w.heap.size 0 _ _ (by simp) (RepEs.of hsizes hones (hall.mono hle) hlay) hcapge ⟨hrow', rfl⟩

/-- Onto a slice without room. -/
theorem run_append_full {t tx ty e e' : TypeId} {i : TI} (ht : P.underlying t = some (.slice e)) (htx : P.underlying tx = some (.slice e')) (hi : TIOk P e i) (hs : Sim B E MM w)
    {es : List AV} {cs : Value} (hcs : Rep E (.sl .full i.size es) cs) {own : Own} {es2 : List AV} {cx : Value} (hcx : Rep E (.sl own i.size es2) cx)
    (hmax : es.length + es2.length ≤ maxLen) (hby : (es.length + es2.length) * i.bytes ≤ 140737488355328) :
    ∃ c' w' E', (Builtin.append_ #[t, tx] ty #[cs, cx]).run P w = .ok c' w' ∧ E.le E' ∧ Sim B E' MM w' ∧ Rep E' (.sl .no i.size (es ++ es2)) c' ∧ Below B w w' := by
  obtain ⟨news, hsrc, hnr, hnsz, hn1⟩ := src_of htx hs hcx
  obtain ⟨info, z, hi1, hi2, hi3, hi4, hi5, hi6⟩ := hi.info
  have hzl : z.cells.size = i.size := by
    have := (AV.concA_rep (E := E) hi5).2.1.length
    rw [Array.length_toList] at this
    omega
  rw [← hi2] at hsrc
  obtain ⟨G, nr, hs0⟩ := id hs
  by_cases hm : es2 = []
  · subst hm
    have hl0 : news = [] := by have := hnr.length; simpa [flat] using this
    subst hl0
    have hcells0 := hsrc.cells
    simp only [List.length_nil] at hcells0
    refine ⟨cs, w, E, ?_, Env.le.refl E, hs, ?_, Below.refl B w⟩
    · rcases (hcs.sl_inv (by simp)) with ⟨rfl, _, _⟩ | ⟨b, o, cap, rfl, _, hcap, _⟩
      · rcases hsrc.kind with ⟨e2, hk⟩ | hk <;> simp [Builtin.append_, run_underlying ht, run_underlying hk, sizeOf, typeInfo, hi1, hsrc.len, hcells0]
      · have := run_append_room_src (P := P) w t tx ty e info ht hi1 b o es.length cap cx 0 [] hsrc (by simpa using hcap) (by simp) (by simp)
        simpa [World.setCells] using this
    · simpa using hcs.forget
  · have hm0 : 0 < es2.length := List.length_pos_iff.2 hm
    have hcapeq : ∃ base, cs = .slice base es.length es.length := by
      rcases (hcs.sl_inv (by simp)) with ⟨rfl, rfl, _⟩ | ⟨b, o, cap, rfl, _, _, h, _⟩
      · exact ⟨none, rfl⟩
      · subst h; exact ⟨_, rfl⟩
    obtain ⟨base, cap, olds, h0, hcap, hold, hol, hor, hosz, ho1⟩ := olds_of (P := P) (hs.drewN (w' := w.drew) rfl) hcs
    obtain ⟨base', rfl⟩ := hcapeq
    injection h0 with k1 k2 k3
    subst k1; subst k3
    have hones : ∀ v ∈ flat (es ++ es2), v.one = true := fun v hv => by
      rw [flat_append, List.mem_append] at hv
      rcases hv with h | h
      · exact ho1 v h
      · exact hn1 v h
    have hsizes : ∀ x ∈ es ++ es2, x.cells.length = i.size := fun x hx => by
      rcases List.mem_append.1 hx with h | h
      · exact hosz x h
      · exact hnsz x h
    have hall : RepL E (flat (es ++ es2)) (olds ++ news) := by rw [flat_append]; exact hor.append hnr
    have hr := run_append_grow_src (P := P) w t tx ty e info z ht hi1 hi4 base' es.length es.length olds (by rw [hi2]; exact hold) cx es2.length news hsrc (by omega) (by simp only [maxLen] at hmax; omega) (growslice_fits (by omega) (by rw [hi3]; exact hby))
    have hcapge := grownCap_ge w (es.length + es2.length) es.length e
    have hsd : Sim0 B E G nr MM w.drew := by
      obtain ⟨h1, h2, h3, h4, h5, h6, h7, h8, h9, h10, h11⟩ := hs0
      exact ⟨h1, h2, h3, h4, h5, h6, h7, h8, h9, h10, h11⟩
    obtain ⟨hs', hle⟩ := hsd.new_cells e (olds ++ news) (Builtin.zeroCells z.cells (grownCap w (es.length + es2.length) es.length e - (es.length + es2.length))).toList
    refine ⟨_, _, _, hr, hle, ⟨G, nr, ?_⟩, ?_, World.alloc_drew_below hs0.base _⟩
    · have heq : ((olds ++ news).toArray ++ Builtin.zeroCells z.cells (grownCap w (es.length + es2.length) es.length e - (es.length + es2.length))) = (olds ++ news ++ (Builtin.zeroCells z.cells (grownCap w (es.length + es2.length) es.length e - (es.length + es2.length))).toList).toArray := by
        apply Array.ext'; simp
      rw [heq]; exact hs'
    · exact .sl _ _ _ w.heap.size 0 _ _ (by simp) (RepEs.of hsizes hones (hall.mono hle) (Env.lay_lays E w.heap.size 0 _)) hcapge trivial

end

/-! The memory's relation. -/
section mem
variable {B : Nat} {E : Env} {F : Mem} {blk rw : List Nat} {loc : List (Option (List TV))} {rows : List (TypeId × Nat × Nat)} {M MM : Mem} {w w' : World}
theorem RelM.setRow {E' : Env} (hm : RelM B E F blk rw loc rows M MM w) {i t : Nat} {x : TypeId × Nat × Nat} {e : TypeId} {sz n : Nat} (hi : rows[i]? = some x) (ht : rw[i]? = some t) (hs : Sim B E' (MM.set (.w t) (.row e sz n)) w') :
    RelM B E' F blk rw loc (rows.set i (e, sz, n)) M (MM.set (.w t) (.row e sz n)) w' := by
  obtain ⟨e0, sz0, n0⟩ := x
  obtain ⟨t0, k1, k2, k3, k4⟩ := hm.rws i e0 sz0 n0 hi
  rw [ht] at k1; cases k1
  have hlen : i < rows.length := by
    rcases Nat.lt_or_ge i rows.length with h | h
    · exact h
    · rw [List.getElem?_eq_none h] at hi; cases hi
  have live : ∀ (j : Nat) y, (rows.set i (e, sz, n))[j]? = some y → ∃ y', rows[j]? = some y' := by
    intro j y hj
    by_cases hij : i = j
    · subst hij; exact ⟨_, hi⟩
    · rw [List.getElem?_set_ne hij] at hj; exact ⟨y, hj⟩
  refine ⟨hs, fun r o hr' => ?_, fun r o hF => ?_, fun j x hj => ?_, fun j e' sz' n' hj => ?_, hm.blen, by simpa using hm.rlen⟩
  · have hne : r ≠ .w t := by rintro rfl; rw [k3] at hr'; cases hr'
    rw [Mem.set_other _ _ _ _ hne]; exact hm.sub r o hr'
  · obtain ⟨f1, f2, f3, f4⟩ := hm.frame r o hF
    have hne : r ≠ .w t := by rintro rfl; exact f4 t rfl i _ hi ht
    refine ⟨by rw [Mem.set_other _ _ _ _ hne]; exact f1, f2, f3, fun t' et j y hj => ?_⟩
    obtain ⟨y', hy⟩ := live j y hj
    exact f4 t' et j y' hy
  · obtain ⟨b, avs, q1, q2, q3, q4, q5⟩ := hm.locs j x hj
    exact ⟨b, avs, q1, by rw [Mem.set_other _ _ _ _ (by simp)]; exact q2, q3, q4, q5⟩
  · by_cases hij : i = j
    · subst hij
      rw [show (rows.set i (e, sz, n))[i]? = some (e, sz, n) by simp [hlen]] at hj
      cases hj
      refine ⟨t, ht, Mem.set_same _ _ _, k3, fun j' x' hj' hbj => ?_⟩
      obtain ⟨y, hy⟩ := live j' x' hj'
      exact k4 j' y hy hbj
    · rw [List.getElem?_set_ne hij] at hj
      obtain ⟨t', q1, q2, q3, q4⟩ := hm.rws j e' sz' n' hj
      have hne : t' ≠ t := by rintro rfl; exact hij (k4 j _ hj q1).symm
      refine ⟨t', q1, by rw [Mem.set_other _ _ _ _ (by simpa using hne)]; exact q2, q3, fun j' x' hj' hbj => ?_⟩
      obtain ⟨y, hy⟩ := live j' x' hj'
      exact q4 j' y hy hbj

theorem RelM.newRow {E' : Env} (hm : RelM B E F blk rw loc rows M MM w) {t : Nat} {e : TypeId} {sz n : Nat} (hr : MM (.w t) = none) (hs : Sim B E' (MM.set (.w t) (.row e sz n)) w') :
    RelM B E' F blk (rw ++ [t]) loc (rows ++ [(e, sz, n)]) M (MM.set (.w t) (.row e sz n)) w' := by
  have hMr : M (.w t) = none := by
    cases h : M (.w t) with
    | none => rfl
    | some x => rw [hm.sub _ x h] at hr; cases hr
  have old : ∀ {j : Nat} {x : TypeId × Nat × Nat}, rows[j]? = some x → ∃ b, rw[j]? = some b ∧ b ≠ t := by
    intro j x hj
    obtain ⟨e', sz', n'⟩ := x
    obtain ⟨b, q1, q2, _⟩ := hm.rws j e' sz' n' hj
    exact ⟨b, q1, by rintro rfl; rw [hr] at q2; cases q2⟩
  have hpre := Pre.snoc rw t
  have hblk : ∀ {j : Nat} {x : TypeId × Nat × Nat}, rows[j]? = some x → (rw ++ [t])[j]? = rw[j]? := by
    intro j x hj
    obtain ⟨b, q1, _⟩ := old hj
    rw [q1]; exact hpre _ _ q1
  refine ⟨hs, fun x o hx => ?_, fun x o hF => ?_, fun j x hj => ?_, fun j e' sz' n' hj => ?_, hm.blen, by simp [hm.rlen]⟩
  · have hne : x ≠ .w t := by rintro rfl; rw [hMr] at hx; cases hx
    rw [Mem.set_other _ _ _ _ hne]; exact hm.sub x o hx
  · obtain ⟨f1, f2, f3, f4⟩ := hm.frame x o hF
    have hne : x ≠ .w t := by rintro rfl; rw [hr] at f1; cases f1
    refine ⟨by rw [Mem.set_other _ _ _ _ hne]; exact f1, f2, f3, fun t' et j y hj => ?_⟩
    rcases getElem?_snoc hj with ⟨hlt, hj⟩ | ⟨rfl, hj⟩
    · rw [hblk hj]; exact f4 t' et j y hj
    · rw [← hm.rlen]; simp; rintro rfl; exact hne et
  · obtain ⟨b, avs, q1, q2, q3, q4, q5⟩ := hm.locs j x hj
    exact ⟨b, avs, q1, by rw [Mem.set_other _ _ _ _ (by simp)]; exact q2, q3.mono (Pre.refl _) hpre, q4, q5⟩
  · rcases getElem?_snoc hj with ⟨hlt, hj⟩ | ⟨rfl, hj2⟩
    · obtain ⟨t', q1, q2, q3, q4⟩ := hm.rws j e' sz' n' hj
      have hne : t' ≠ t := by rintro rfl; rw [hr] at q2; cases q2
      refine ⟨t', hpre _ _ q1, by rw [Mem.set_other _ _ _ _ (by simpa using hne)]; exact q2, q3, fun j' x' hj' hbj => ?_⟩
      rcases getElem?_snoc hj' with ⟨hlt', hj'⟩ | ⟨rfl, hj'⟩
      · rw [hblk hj'] at hbj; exact q4 j' x' hj' hbj
      · rw [← hm.rlen] at hbj; simp at hbj; exact absurd hbj.symm hne
    · cases hj2
      refine ⟨t, by rw [← hm.rlen]; simp, Mem.set_same _ _ _, hMr, fun j' x' hj' hbj => ?_⟩
      rcases getElem?_snoc hj' with ⟨hlt', hj'⟩ | ⟨rfl, hj'⟩
      · obtain ⟨b', q1, q2⟩ := old hj'
        rw [hblk hj', q1] at hbj
        cases hbj
        exact absurd rfl q2
      · rfl
end mem

/-- Appends, evaluated. -/
def effA (k : CK) (st : St) : Option (St × TV × Prop) :=
  match k with
  | .app e sz bytes s x => match rd true (st.get x) with
    | some (.sl _ sz2 es2, q) => match st.get s with
      | .lsl i sz1 es => match st.rows[i]? with
        | some (e', sz', n) => some ({ st with rows := st.rows.set i (e, sz, es.length + es2.length) }, .lsl i sz (es ++ es2), q ∧ sz2 = sz ∧ e' = e ∧ sz' = sz ∧ sz1 = sz ∧ n = es.length ∧ 0 < sz ∧ es.length + es2.length ≤ 9223372036854775807 ∧ (es.length + es2.length) * bytes ≤ 140737488355328)
        | none => none
      | .v (.sl (.srow t) sz1 es) => match st.M (.w t) with
        | some (.row e' sz' n) => some ({ st with M := st.M.set (.w t) (.row e sz (es.length + es2.length)) }, .v (.sl (.srow t) sz (es ++ es2)), q ∧ sz2 = sz ∧ e' = e ∧ sz' = sz ∧ sz1 = sz ∧ n = es.length ∧ 0 < sz ∧ es.length + es2.length ≤ 9223372036854775807 ∧ (es.length + es2.length) * bytes ≤ 140737488355328)
        | _ => none
      | .v (.sl .full sz1 es) => some (st, .v (.sl .no sz (es ++ es2)), q ∧ sz2 = sz ∧ sz1 = sz ∧ es.length + es2.length ≤ 9223372036854775807 ∧ (es.length + es2.length) * bytes ≤ 140737488355328)
      | _ => none
    | _ => none
  | .mu m k x => match rd true (st.get m), rd true (st.get k), rd true (st.get x) with
    | some (.map r, p1), some (.str s, p2), some (v, p3) => match st.M (.b r) with
      | some (.map kvs) => some ({ st with M := st.M.set (.b r) (.map (setS kvs s v)) }, .junk, p1 ∧ p2 ∧ p3)
      | _ => none
    | _, _, _ => none
  | _ => none

section
variable {P : Program} {T : TT} {o : Oper} {st : St}
theorem sound_app {e : TypeId} {sz bytes : Nat} {s x : Opd} {t tx : TypeId} {s' x' : Operand} {c : Call} {e' : TypeId} {i : TI} (ho : o.op = .call c) (hcal : c.callee = .builtin .append) (hargs : c.args = #[s', x']) (htys : c.argTypes = #[t, tx])
    (ht : P.underlying t = some (.slice e)) (htx : P.underlying tx = some (.slice e')) (hi : TIOk P e i) (hsz : sz = i.size) (hby : bytes = i.bytes) (hs' : IsOpd s s') (hx' : IsOpd x x')
    {st1 : St} {tv : TV} {q : Prop} (h : effA (.app e sz bytes s x) st = some (st1, tv, q)) (hq : q) : OpVal P o st st1 tv := by
  subst hsz; subst hby
  simp only [effA] at h
  have hexec : ∀ (a : Act) (w : World) (c' : Value) (w' : World), (Builtin.append_ #[t, tx] o.type #[a.eval s', a.eval x']).run P w = .ok c' w' → (execOp a.eval o).run P w = .ok (.value c') w' := by
    intro a w c' w' h
    unfold execOp
    simp only [ho, resolve, hcal, hargs, htys, invoke, builtin, Sem.run_bind, Sem.run_pure, Result.andThen_ok, List.map_toArray, List.map_cons, List.map_nil, h]
  split at h
  · rename_i own sz2 es2 q1 hrd
    split at h
    · rename_i k sz1 es hse
      split at h
      · rename_i e1 sz' n hrow
        cases h
        obtain ⟨p1, rfl, rfl, rfl, rfl, rfl, p2, p3, p4⟩ := hq
        intro B E F blk rw a w hr
        have hsv := hr.opd hs'
        rw [hse] at hsv
        obtain ⟨t', ht', hsv⟩ := hsv
        have hxv := hr.rd hx' hrd p1
        obtain ⟨MM, hm⟩ := hr.mem
        obtain ⟨t0, k1, k2, k3, k4⟩ := hm.rws k _ _ _ hrow
        rw [ht'] at k1; cases k1
        obtain ⟨c', w', E', h1, h2, h3, h4, h5⟩ := run_append_row (ty := o.type) ht htx hi p2 hm.sim k2 rfl hsv hxv p3 p4
        exact ⟨c', w', E', blk, rw, .inl (hexec a w c' w' h1), h2, h5, ⟨hr.tmps.mono h2 (Pre.refl _) (Pre.refl _), hr.defs.mono h2, _, hm.setRow hrow ht' h3⟩, ⟨t', ht', h4⟩⟩
      · cases h
    · rename_i t' sz1 es hse
      split at h
      · rename_i e1 sz' n hrow
        cases h
        obtain ⟨p1, rfl, rfl, rfl, rfl, rfl, p2, p3, p4⟩ := hq
        intro B E F blk rw a w hr
        have hsv := hr.opd hs'
        rw [hse] at hsv
        have hxv := hr.rd hx' hrd p1
        obtain ⟨MM, hm⟩ := hr.mem
        obtain ⟨c', w', E', h1, h2, h3, h4, h5⟩ := run_append_row (ty := o.type) ht htx hi p2 hm.sim (hm.sub _ _ hrow) rfl hsv hxv p3 p4
        exact ⟨c', w', E', blk, rw, .inl (hexec a w c' w' h1), h2, h5, ⟨hr.tmps.mono h2 (Pre.refl _) (Pre.refl _), hr.defs.mono h2, _, hm.setM hrow h3⟩, h4⟩
      · cases h
    · rename_i sz1 es hse
      cases h
      obtain ⟨p1, rfl, rfl, p3, p4⟩ := hq
      intro B E F blk rw a w hr
      have hsv := hr.opd hs'
      rw [hse] at hsv
      have hxv := hr.rd hx' hrd p1
      obtain ⟨MM, hm⟩ := hr.mem
      obtain ⟨c', w', E', h1, h2, h3, h4, h5⟩ := run_append_full (ty := o.type) ht htx hi hm.sim hsv hxv p3 p4
      exact ⟨c', w', E', blk, rw, .inl (hexec a w c' w' h1), h2, h5, ⟨hr.tmps.mono h2 (Pre.refl _) (Pre.refl _), hr.defs.mono h2, _, hm.mono_env h3⟩, h4⟩
    · cases h
  · cases h

theorem sound_mu {t kt et : TypeId} {m k x : Opd} {m' k' x' : Operand} (ho : o.op = .mapUpdate t m' k' x' ∨ o.op = .insert t m' k' x') (ht : P.underlying t = some (.map kt et)) (hkt : P.underlying kt = some .string) (hm : IsOpd m m') (hk : IsOpd k k') (hx : IsOpd x x')
    {st1 : St} {tv : TV} {q : Prop} (h : effA (.mu m k x) st = some (st1, tv, q)) (hq : q) : OpVal P o st st1 tv := by
  simp only [effA] at h
  split at h
  · rename_i r p1 s p2 v p3 hmr hks hxv
    split at h
    · rename_i kvs hM
      cases h
      obtain ⟨q1, q2, q3⟩ := hq
      intro B E F blk rw a w hr
      obtain ⟨b, e1, rfl⟩ := (hr.rd hk hks q2).str_inv
      have e2 := (hr.rd hm hmr q1).map_inv
      have e3 := hr.rd hx hxv q3
      obtain ⟨MM, hmm⟩ := hr.mem
      obtain ⟨w', h1, h2, h3⟩ := run_update_map ht hkt hmm.sim (hmm.sub _ _ hM) b e3
      refine ⟨undef, w', E, blk, rw, .inr ⟨?_, rfl⟩, Env.le.refl E, h3, ⟨hr.tmps, hr.defs, _, hmm.setM hM h2⟩, trivial⟩
      rcases ho with ho | ho <;> simp only [execOp, ho, e1, e2, Sem.run_bind, h1, Result.andThen_ok, Sem.run_pure]
    · cases h
  · cases h

theorem effA_ok (hT : TTOk P T) {esc : List Nat} {k : CK} (hk : compK T esc o = some k) {st1 : St} {tv : TV} {p : Prop} (h : effA k st = some (st1, tv, p)) (hp : p) : OpVal P o st st1 tv := by
  cases k with
  | app e sz bytes s x =>
    cases ho : o.op with
    | call c =>
      simp only [compK, ho] at hk
      split at hk
      · simp at hk
      · exfalso; split at hk <;> simp at hk
      · exfalso
        repeat' (split at hk)
        all_goals first | (cases hk; done) | (cases iaK_isIa hk; done) | (simp at hk; done)
      · rename_i hcal
        split at hk
        · rename_i s' x' t tx hargs htys
          split at hk
          · rename_i e0 e1 ht htx
            split at hk
            · rename_i j s1 x1 hj hs1 hx1
              cases hk
              have und : ∀ {t : TypeId} {e : TypeId}, descOf T t = .slice e → P.underlying t = some (.slice e) := by
                intro t e h
                unfold descOf at h
                cases hq : T t with
                | none => simp [hq] at h
                | some i =>
                  simp [hq] at h
                  rw [(hT t i hq).und, h]
              exact sound_app ho hcal (Array.ext' hargs) (Array.ext' htys) (und ht) (und htx) (hT _ _ hj) rfl rfl (cX_is hs1) (cX_is hx1) h hp
            · cases hk
          · cases hk
        · cases hk
      all_goals
        exfalso
        try (repeat' (split at hk))
        all_goals first | (cases hk; done) | (cases iaK_isIa hk; done) | (simp at hk; done)
    | binOp op t x y t' =>
      exfalso
      simp only [compK, ho] at hk
      repeat' (split at hk)
      all_goals first | (cases hk; done) | (cases iaK_isIa hk; done) | (simp at hk; done)
    | unOp op t x => cases op <;> simp [compK, ho] at hk
    | slice t x lo hi mx =>
      exfalso
      cases mx <;> simp only [compK, ho, reduceCtorEq] at hk
      repeat' (split at hk)
      all_goals first | (cases hk; done) | (cases iaK_isIa hk; done) | (simp at hk; done)
    | makeMap t r =>
      exfalso
      cases r <;> simp only [compK, ho, reduceCtorEq] at hk
      repeat' (split at hk)
      all_goals first | (cases hk; done)
    | box t x =>
      exfalso
      simp only [compK, ho] at hk
      split at hk
      · simp only [Option.map_eq_some_iff] at hk
        obtain ⟨_, _, hk⟩ := hk
        split at hk <;> cases hk
      · cases hk
    | alloc t =>
      exfalso
      simp only [compK, ho] at hk
      split at hk
      · split at hk
        · simp only [Option.some.injEq] at hk
          split at hk <;> cases hk
        · cases hk
      · cases hk
    | _ =>
      exfalso
      simp only [compK, ho, reduceCtorEq] at hk
      try (repeat' (split at hk))
      all_goals first | (cases hk; done) | (cases iaK_isIa hk; done) | (simp at hk; done)
  | mu m k x =>
    cases ho : o.op with
    | mapUpdate t m' k' x' =>
      simp only [compK, ho] at hk
      split at hk
      · rename_i kt et hd
        split at hk
        · rename_i m1 k1 x1 hkt hm hk1 hx
          cases hk
          exact sound_mu (.inl ho) (descOf_und hT hd (by simp)) (descOf_und hT hkt (by simp)) (cX_is hm) (cX_is hk1) (cX_is hx) h hp
        · cases hk
      · cases hk
    | insert t m' k' x' =>
      simp only [compK, ho] at hk
      split at hk
      · rename_i kt et hd
        split at hk
        · rename_i m1 k1 x1 hkt hm hk1 hx
          cases hk
          exact sound_mu (.inr ho) (descOf_und hT hd (by simp)) (descOf_und hT hkt (by simp)) (cX_is hm) (cX_is hk1) (cX_is hx) h hp
        · cases hk
      · cases hk
    | binOp op t x y t' =>
      exfalso
      simp only [compK, ho] at hk
      repeat' (split at hk)
      all_goals first | (cases hk; done) | (cases iaK_isIa hk; done) | (simp at hk; done)
    | unOp op t x => cases op <;> simp [compK, ho] at hk
    | slice t x lo hi mx =>
      exfalso
      cases mx <;> simp only [compK, ho, reduceCtorEq] at hk
      repeat' (split at hk)
      all_goals first | (cases hk; done) | (cases iaK_isIa hk; done) | (simp at hk; done)
    | makeMap t r =>
      exfalso
      cases r <;> simp only [compK, ho, reduceCtorEq] at hk
      repeat' (split at hk)
      all_goals first | (cases hk; done)
    | box t x =>
      exfalso
      simp only [compK, ho] at hk
      split at hk
      · simp only [Option.map_eq_some_iff] at hk
        obtain ⟨_, _, hk⟩ := hk
        split at hk <;> cases hk
      · cases hk
    | alloc t =>
      exfalso
      simp only [compK, ho] at hk
      split at hk
      · split at hk
        · simp only [Option.some.injEq] at hk
          split at hk <;> cases hk
        · cases hk
      · cases hk
    | call c =>
      exfalso
      simp only [compK, ho] at hk
      repeat' (split at hk)
      all_goals first | (cases hk; done) | (cases iaK_isIa hk; done) | (simp at hk; done)
    | _ =>
      exfalso
      simp only [compK, ho, reduceCtorEq] at hk
      try (repeat' (split at hk))
      all_goals first | (cases hk; done) | (cases iaK_isIa hk; done) | (simp at hk; done)
  | _ => cases h
end

/-! Names for slices without room. -/
theorem Rep.name_nil {E : Env} {sz : Nat} {c : Value} (h : Rep E (.sl .full sz []) c) : ∃ b, ∀ (E' : Env) (t : Nat), E.le E' → E'.rowAt t 0 = some (b, 0) → Rep E' (.sl (.srow t) sz []) c := by
  rcases h.sl_inv (by simp) with ⟨rfl, _, _⟩ | ⟨b, o, cap, rfl, hes, hcap, hown⟩
  · exact ⟨0, fun E' t hle hr => .slnil _ _ fun t' e => by cases e; exact hr⟩
  · obtain ⟨h1, h2⟩ := hown
    subst h2
    have h1 : cap = 0 := h1
    subst h1
    exact ⟨b, fun E' t hle hr => .sl _ _ _ b 0 0 0 rfl (.nil _ _ _) (Nat.le_refl _) ⟨hr, rfl⟩⟩

theorem Sim0.row_none {B : Nat} {E : Env} {G : Nat → Option Nat} {nr : Nat} {M : Mem} {w : World} (h : Sim0 B E G nr M w) : M (.w nr) = none := by
  cases hc : M (.w nr) with
  | none => rfl
  | some o => have := h.rdom nr o hc; omega

section
variable {P : Program} {Q : AExit → St → Prop} {st : St}
/-- Whatever is shown of a state with a slot's slice named holds before. -/
theorem Rel.own_tmp {B : Nat} {E : Env} {F : Mem} {blk rw : List Nat} {a : Act} {w : World} (hr : Rel B E F blk rw st a w) {i sz : Nat} (e : TypeId) (hi : st.tmps[i]? = some (.v (.sl .full sz []))) :
    ∃ E' rw', E.le E' ∧ Rel B E' F blk rw' { st with tmps := st.tmps.set i (.lsl st.rows.length sz []), rows := st.rows ++ [(e, sz, 0)] } a w := by
  obtain ⟨MM, hm⟩ := hr.mem
  obtain ⟨G, nr, hs⟩ := hm.sim
  obtain ⟨c, hc, hrep⟩ := hr.tmps.at i _ hi
  obtain ⟨b, hb⟩ := Rep.name_nil hrep
  obtain ⟨E', hle, hs', hrow⟩ := hs.row_nil e sz b
  refine ⟨E', rw ++ [nr], hle, ?_, hr.defs.mono hle, _, hm.newRow hs.row_none ⟨_, _, hs'⟩⟩
  have h2 := (hr.tmps.mono hle (Pre.refl blk) (Pre.snoc rw nr)).set i (.lsl st.rows.length sz []) c ⟨nr, by rw [← hm.rlen]; simp, hb E' nr hle hrow⟩
  have : a.tmps.toList.set i c = a.tmps.toList := by
    refine List.ext_getElem? fun j => ?_
    rw [List.getElem?_set]
    split
    · rename_i h; subst h
      split
      · exact hc.symm
      · rename_i h; rw [List.getElem?_eq_none (by omega)]
    · rfl
  rwa [this] at h2

/-- A slice in a field of a variable that memory speaks of. -/
theorem Rel.own_mem {B : Nat} {E : Env} {F : Mem} {blk rw : List Nat} {a : Act} {w : World} (hr : Rel B E F blk rw st a w) {r k sz : Nat} {cs : List AV} (e : TypeId) (hM : st.M (.b r) = some (.cells cs)) (hk : cs[k]? = some (.sl .full sz [])) :
    ∃ E' t, E.le E' ∧ st.M (.w t) = none ∧ Rel B E' F blk rw { st with M := (st.M.set (.w t) (.row e sz 0)).set (.b r) (.cells (cs.set k (.sl (.srow t) sz []))) } a w := by
  obtain ⟨MM, hm⟩ := hr.mem
  obtain ⟨G, nr, hs⟩ := hm.sim
  have hMM := hm.sub _ _ hM
  obtain ⟨g1, g2, g3, ccs, ty, g4, g5⟩ := hs.obj r cs hMM
  obtain ⟨c, hc, hrep⟩ := g5.at k _ hk
  obtain ⟨b, hb⟩ := Rep.name_nil hrep
  obtain ⟨E', hle, hs', hrow⟩ := hs.row_nil e sz b
  have hnone : st.M (.w nr) = none := by
    cases h : st.M (.w nr) with
    | none => rfl
    | some x => have := hm.sub _ x h; rw [hs.row_none] at this; cases this
  have hm1 : RelM B E' F blk rw st.loc st.rows (st.M.set (.w nr) (.row e sz 0)) (MM.set (.w nr) (.row e sz 0)) w := hm.newM hs.row_none ⟨_, _, hs'⟩
  have hM1 : (st.M.set (.w nr) (.row e sz 0)) (.b r) = some (.cells cs) := by rw [Mem.set_other _ _ _ _ (by simp)]; exact hM
  have hMM1 : (MM.set (.w nr) (.row e sz 0)) (.b r) = some (.cells cs) := by rw [Mem.set_other _ _ _ _ (by simp)]; exact hMM
  refine ⟨E', nr, hle, hnone, hr.tmps.mono hle (Pre.refl _) (Pre.refl _), hr.defs.mono hle, _, hm1.setM hM1 ⟨G, nr + 1, ?_⟩⟩
  -- the same world, the cell named
  have hcs : ccs.toList.set k c = ccs.toList := by
    refine List.ext_getElem? fun j => ?_
    rw [List.getElem?_set]
    split
    · rename_i h; subst h
      split
      · exact hc.symm
      · rename_i h; rw [List.getElem?_eq_none (by omega)]
    · rfl
  have hrepl : RepL E' (cs.set k (.sl (.srow nr) sz [])) ccs.toList := by
    have := (g5.mono hle).set k _ c (hb E' nr hle hrow)
    rwa [hcs] at this
  obtain ⟨h1, h2, h3, h4, h5, h6, h7, h8, h9, h10, h11⟩ := hs'
  refine ⟨h1, h2, ?_, ?_, ?_, ?_, ?_, h8, h9, h10, h11⟩
  · intro r' o' e'
    by_cases hx : r' = r
    · subst hx; exact h3 _ _ hMM1
    · rw [Mem.set_other _ _ _ _ (by simpa using hx)] at e'; exact h3 _ _ e'
  · intro r' cs' e'
    by_cases hx : r' = r
    · subst hx
      rw [Mem.set_same] at e'; cases e'
      obtain ⟨q1, q2, q3, _⟩ := h4 _ _ hMM1
      refine ⟨q1, q2, ?_, ccs, ty, g4, hrepl⟩
      intro v hv
      rcases List.mem_or_eq_of_mem_set hv with h | h
      · exact q3 v h
      · subst h; rfl
    · rw [Mem.set_other _ _ _ _ (by simpa using hx)] at e'; exact h4 _ _ e'
  · intro r' o' ho' e'
    by_cases hx : r' = r
    · subst hx; rw [Mem.set_same] at e'; cases e'; cases ho'
    · rw [Mem.set_other _ _ _ _ (by simpa using hx)] at e'; exact h5 _ _ ho' e'
  · intro t e0 sz0 n0 e'
    rw [Mem.set_other _ _ _ _ (by simp)] at e'; exact h6 _ _ _ _ e'
  · intro t o' e'
    rw [Mem.set_other _ _ _ _ (by simp)] at e'; exact h7 _ _ e'
end
/-! Guards. -/
def gval (st : St) (d : Nat) (want : Bool) : Option Bool :=
  match (st.tmps[d]?).getD .junk with
  | .v (.bool b) => some (b == want)
  | .opt g (.v (.bool b)) => some (g && (b == want))
  | _ => none

theorem gval_ok {st : St} {ops : Array Oper} {o : Oper} {d : Nat} {want g : Bool} (hg : compG ops o = some (some (d, want))) (h : gval st d want = some g) :
    ∀ B E F blk rw a w, Rel B E F blk rw st a w → Region.wanted o (yielded ops a.tmps) = g := by
  intro B E F blk rw a w hr
  unfold compG at hg
  split at hg
  · cases hg
  · rename_i j want' hgd
    split at hg
    · rename_i d' hd
      cases hg
      have hv := hr.tmpAt d
      have hget : ∀ c, a.tmps.getD d undef = c → c ≠ undef → a.tmps[d]? = some c := by
        intro c hc hne
        cases hi : a.tmps[d]? with
        | none => simp [Array.getD_eq_getD_getElem?, hi] at hc; exact absurd hc.symm hne
        | some x => simp [Array.getD_eq_getD_getElem?, hi] at hc; rw [hc]
      have hundef : a.tmps.getD d undef = undef → yielded ops a.tmps j = none := by
        intro hc
        simp only [yielded, hd, Option.bind_some]
        cases hi : a.tmps[d]? with
        | none => rfl
        | some x =>
          simp [Array.getD_eq_getD_getElem?, hi] at hc
          rw [hc]; rfl
      have hbool : ∀ b, a.tmps.getD d undef = .bool b → yielded ops a.tmps j = some b := by
        intro b hc
        have := hget _ hc (by simp [undef])
        simp only [yielded, hd, Option.bind_some, this]
      simp only [Region.wanted, hgd]
      unfold gval at h
      split at h
      · rename_i b hb
        cases h
        rw [hb] at hv
        rw [hbool b (Rep.bool_inv hv)]
        cases b <;> cases want <;> rfl
      · rename_i g' b hb
        cases h
        rw [hb] at hv
        cases g' with
        | true =>
          rw [hbool b (Rep.bool_inv (hv.1 rfl))]
          cases b <;> cases want <;> rfl
        | false =>
          rw [hundef (hv.2 rfl)]
          rfl
      · cases h
    · cases hg

end Go.Am
