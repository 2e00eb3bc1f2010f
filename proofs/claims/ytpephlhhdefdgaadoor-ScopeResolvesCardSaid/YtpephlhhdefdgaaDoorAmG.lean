/- That the evaluation of operations is what the machine does. -/
import Derived.Test.YtpephlhhdefdgaaDoorAmF
set_option linter.unusedSectionVars false
set_option linter.unusedVariables false
set_option linter.unusedSimpArgs false
namespace Go.Am
open Go.RowKit
variable [Inhabited LaidBox] {ro : Option Nat}

section inv
variable {E : Env}
theorem Rep.bool_inv {b : Bool} {c : Value} (h : Rep E (.bool b) c) : c = .bool b := by cases h; rfl
theorem Rep.int_inv {k : IntKind} {n : Int} {c : Value} (h : Rep E (.int k n) c) : c = .int k n := by cases h; rfl
theorem Rep.str_inv {s : List UInt8} {c : Value} (h : Rep E (.str s) c) : ∃ b : ByteArray, c = .string b ∧ b.data.toList = s := by cases h with | str b => exact ⟨b, rfl, rfl⟩
theorem Rep.nilp_inv {c : Value} (h : Rep E .nilp c) : c = .pointer none := by cases h; rfl
theorem Rep.ptr_inv {r off : Nat} {c : Value} (h : Rep E (.ptr r off) c) : c = .pointer (some ⟨r, off, none⟩) := by cases h; rfl
theorem Rep.eptr_inv {sz : Nat} {es : List AV} {i off : Nat} {c : Value} (h : Rep E (.eptr sz es i off) c) : ∃ b o, c = .pointer (some ⟨b, o + i * sz + off, none⟩) ∧ RepEs E sz es b o ∧ i < es.length := by
  cases h with | eptr _ _ _ _ b o h hi => exact ⟨b, o, rfl, h, hi⟩
theorem Rep.sl_inv3 {own : Own} {sz : Nat} {es : List AV} {c : Value} (h : Rep E (.sl own sz es) c) : (c = .slice none 0 0 ∧ es = [] ∧ ∀ t, own = .srow t → E.rowAt t 0 = some (0, 0)) ∨ (∃ a, c = .slice (some a) 0 0 ∧ es = [] ∧ own = .no) ∨ ∃ b o cap, c = .slice (some ⟨b, o, none⟩) es.length cap ∧ RepEs E sz es b o ∧ es.length ≤ cap ∧ OwnOk E own es.length b o cap := by
  cases h with
  | slnil _ _ h => exact .inl ⟨rfl, rfl, h⟩
  | slz _ a => exact .inr (.inl ⟨a, rfl, rfl, rfl⟩)
  | sl _ _ _ b o cap n hn h hcap hown => subst hn; exact .inr (.inr ⟨b, o, cap, rfl, h, hcap, hown⟩)
theorem Rep.sl_inv {own : Own} {sz : Nat} {es : List AV} {c : Value} (h : Rep E (.sl own sz es) c) (hown : own ≠ .no) : (c = .slice none 0 0 ∧ es = [] ∧ ∀ t, own = .srow t → E.rowAt t 0 = some (0, 0)) ∨ ∃ b o cap, c = .slice (some ⟨b, o, none⟩) es.length cap ∧ RepEs E sz es b o ∧ es.length ≤ cap ∧ OwnOk E own es.length b o cap := by
  cases h with
  | slnil _ _ h => exact .inl ⟨rfl, rfl, h⟩
  | slz _ a => exact absurd rfl hown
  | sl _ _ _ b o cap n hn h hcap hown => subst hn; exact .inr ⟨b, o, cap, rfl, h, hcap, hown⟩
theorem Rep.agg_inv {cs : List AV} {c : Value} (h : Rep E (.agg cs) c) : ∃ l : List Value, c = .agg l.toArray ∧ RepL E cs l := by cases h with | agg _ l h => exact ⟨l, rfl, h⟩
theorem Rep.tup_inv {cs : List AV} {c : Value} (h : Rep E (.tup cs) c) : ∃ l : List Value, c = .tuple l.toArray ∧ RepL E cs l := by cases h with | tup _ l h => exact ⟨l, rfl, h⟩
theorem Rep.iface_inv {t : TypeId} {v : AV} {c : Value} (h : Rep E (.iface t v) c) : ∃ c', c = .iface t c' ∧ Rep E v c' := by cases h with | iface _ _ c' h => exact ⟨c', rfl, h⟩
theorem Rep.niliface_inv {c : Value} (h : Rep E .niliface c) : c = .nilIface := by cases h; rfl
theorem Rep.map_inv {r : Nat} {c : Value} (h : Rep E (.map r) c) : c = .map (some r) := by cases h; rfl
theorem Rep.nilmap_inv {c : Value} (h : Rep E .nilmap c) : c = .map none := by cases h; rfl
theorem Rep.nilfn_inv {c : Value} (h : Rep E .nilfn c) : c = .nilFunc := by cases h; rfl
theorem Rep.fn_inv {f : Fn} {a b : List AV} {c : Value} (h : Rep E (.fn f a b) c) : ∃ a' b' : List Value, c = .func f a'.toArray b'.toArray ∧ RepL E a a' ∧ RepL E b b' := by cases h with | fn _ _ _ a' b' h1 h2 => exact ⟨a', b', rfl, h1, h2⟩
end inv

section
variable {P : Program} {o : Oper} {st : St}
theorem OpVal.pure {x : TV} (h : ∀ B E F blk rw a w, Rel B E F blk rw st a w → ∃ c, (execOp a.eval o).run P w = .ok (.value c) w ∧ RelV E blk rw x c) : OpVal P o st st x := by
  intro B E F blk rw a w hr
  obtain ⟨c, h1, h2⟩ := h B E F blk rw a w hr
  exact ⟨c, w, E, blk, rw, .inl h1, Env.le.refl E, Below.refl B w, hr, h2⟩

theorem Rel.rd {B : Nat} {E : Env} {F : Mem} {blk rw : List Nat} {a : Act} {w : World} (hr : Rel B E F blk rw st a w) {x : Opd} {y : Operand} (hx : IsOpd x y) {v : AV} {p : Prop} (h : Am.rd true (st.get x) = some (v, p)) (hp : p) : Rep E v (a.eval y) :=
  rd_rep (hr.opd hx) h hp

theorem run_v {w w' : World} {s : Sem Value} {c : Value} (h : s.run P w = .ok c w') : ((do pure (.value (← s)) : Sem Next)).run P w = .ok (.value c) w' := by
  simp [h]

theorem sound_mv {x : Opd} {y : Operand} (ho : o.op = .move y ∨ o.op = .assign y) (hx : IsOpd x y) {tv : TV} {p : Prop} (h : pev (.mv x) true st = some (tv, p)) (hp : p) : OpVal P o st st tv := by
  refine .pure fun B E F blk rw a w hr => ⟨a.eval y, ?_, ?_⟩
  · rcases ho with ho | ho <;> simp [execOp, ho]
  · have hv := hr.opd hx
    simp only [pev] at h
    split at h
    · rename_i g z he
      cases h
      rw [he] at hv
      exact hv.1 (by simpa using hp)
    · cases h
    · cases h
      exact hv

theorem sound_pick {c a b : Opd} {c' a' b' : Operand} (ho : o.op = .pick c' a' b') (hc : IsOpd c c') (ha : IsOpd a a') (hb : IsOpd b b') {tv : TV} {p : Prop} (h : pev (.pick c a b) true st = some (tv, p)) (hp : p) : OpVal P o st st tv := by
  simp only [pev] at h
  split at h
  · rename_i cb q1 ab q2 bb q3 h1 h2 h3
    cases h
    obtain ⟨p1, p2, p3⟩ := hp
    refine .pure fun B E F blk rw ac w hr => ?_
    have hcv := (hr.rd hc h1 p1).bool_inv
    refine ⟨if cb then ac.eval a' else ac.eval b', by simp [execOp, ho, hcv, asBool], ?_⟩
    cases cb with
    | true => have := (hr.rd ha h2 (p2 rfl)); show Rep E _ _; simpa using this
    | false => have := (hr.rd hb h3 (p3 rfl)); show Rep E _ _; simpa using this
  · cases h

theorem sound_ar {op : BinOp} {x y : Opd} {x' y' : Operand} {t t' : TypeId} (ho : o.op = .binOp op t x' y' t') (hop : op = .add ∨ op = .sub ∨ op = .mul) (hx : IsOpd x x') (hy : IsOpd y y') {tv : TV} {p : Prop} (h : pev (.ar op x y) true st = some (tv, p)) (hp : p) : OpVal P o st st tv := by
  simp only [pev] at h
  split at h
  · rename_i k a q1 k' b q2 h1 h2
    cases h
    obtain ⟨p1, p2, rfl, p3⟩ := hp
    refine .pure fun B E F blk rw ac w hr => ?_
    have e1 := (hr.rd hx h1 p1).int_inv
    have e2 := (hr.rd hy h2 p2).int_inv
    refine ⟨_, ?_, Rep.int k _⟩
    rw [← p3.wrap]
    simp only [execOp, ho, e1, e2]
    exact run_v (run_int_arith w op hop t x' y' k a b)
  · cases h

theorem sound_qr {op : BinOp} {x y : Opd} {x' y' : Operand} {t t' : TypeId} (ho : o.op = .binOp op t x' y' t') (hop : op = .quo ∨ op = .rem) (hx : IsOpd x x') (hy : IsOpd y y') {tv : TV} {p : Prop} (h : pev (.qr op x y) true st = some (tv, p)) (hp : p) : OpVal P o st st tv := by
  simp only [pev] at h
  split at h
  · rename_i k a q1 k' b q2 h1 h2
    cases h
    obtain ⟨p1, p2, rfl, p3, p4⟩ := hp
    refine .pure fun B E F blk rw ac w hr => ?_
    have e1 := (hr.rd hx h1 p1).int_inv
    have e2 := (hr.rd hy h2 p2).int_inv
    refine ⟨_, ?_, Rep.int k _⟩
    simp only [execOp, ho, e1, e2]
    exact run_v (run_int_div w op hop t x' y' k a b p3 p4)
  · cases h

theorem sound_ic {op : BinOp} {x y : Opd} {x' y' : Operand} {t t' : TypeId} (ho : o.op = .binOp op t x' y' t') (hop : op = .eql ∨ op = .neq ∨ op = .lss ∨ op = .leq ∨ op = .gtr ∨ op = .geq) (hx : IsOpd x x') (hy : IsOpd y y') {tv : TV} {p : Prop} (h : pev (.ic op x y) true st = some (tv, p)) (hp : p) : OpVal P o st st tv := by
  simp only [pev] at h
  split at h
  · rename_i k a q1 k' b q2 h1 h2
    cases h
    obtain ⟨p1, p2, rfl⟩ := hp
    refine .pure fun B E F blk rw ac w hr => ?_
    have e1 := (hr.rd hx h1 p1).int_inv
    have e2 := (hr.rd hy h2 p2).int_inv
    refine ⟨_, ?_, Rep.bool _⟩
    simp only [execOp, ho, e1, e2]
    exact run_v (run_int_cmp w op hop t x' y' k a b)
  · cases h

theorem sound_sc {op : BinOp} {x y : Opd} {x' y' : Operand} {t t' : TypeId} (ho : o.op = .binOp op t x' y' t') (hop : op = .eql ∨ op = .neq) (hx : IsOpd x x') (hy : IsOpd y y') {tv : TV} {p : Prop} (h : pev (.sc op x y) true st = some (tv, p)) (hp : p) : OpVal P o st st tv := by
  simp only [pev] at h
  split at h
  · rename_i a q1 b q2 h1 h2
    cases h
    obtain ⟨p1, p2⟩ := hp
    refine .pure fun B E F blk rw ac w hr => ?_
    obtain ⟨s1, e1, rfl⟩ := (hr.rd hx h1 p1).str_inv
    obtain ⟨s2, e2, rfl⟩ := (hr.rd hy h2 p2).str_inv
    refine ⟨_, ?_, Rep.bool _⟩
    simp only [execOp, ho, e1, e2]
    exact run_v (run_str_cmp w op hop t x' y' s1 s2)
  · cases h

theorem sound_cat {x y : Opd} {x' y' : Operand} {t t' : TypeId} (ho : o.op = .binOp .add t x' y' t') (hx : IsOpd x x') (hy : IsOpd y y') {tv : TV} {p : Prop} (h : pev (.cat x y) true st = some (tv, p)) (hp : p) : OpVal P o st st tv := by
  simp only [pev] at h
  split at h
  · rename_i a q1 b q2 h1 h2
    cases h
    obtain ⟨p1, p2, p3⟩ := hp
    refine .pure fun B E F blk rw ac w hr => ?_
    obtain ⟨s1, e1, rfl⟩ := (hr.rd hx h1 p1).str_inv
    obtain ⟨s2, e2, rfl⟩ := (hr.rd hy h2 p2).str_inv
    have hsz : ¬ (((s1.size + s2.size : Nat) : Int) > IntKind.i64.max) := by
      have h1 : s1.size = s1.data.toList.length := by simp
      have h2 : s2.size = s2.data.toList.length := by simp
      have h3 : IntKind.i64.max = 9223372036854775807 := by decide
      rw [h1, h2, h3]; omega
    refine ⟨.string (s1 ++ s2), ?_, ?_⟩
    · simp only [execOp, ho, e1, e2]
      refine run_v ?_
      simp only [eqGuard, binOp, Op.stringOp, if_neg hsz]
      rfl
    · have := Rep.str (E := E) (s1 ++ s2)
      show Rep E _ _
      simpa using this
  · cases h

theorem equalIn_bool {t : TypeId} (ht : P.underlying t = some .bool) (d : Nat) (a b : Bool) (w : World) : (Op.equalIn (d + 1) t (.bool a) (.bool b)).run P w = .ok (a == b) w := by
  simp only [Op.equalIn, Sem.run_bind, run_underlying ht, Result.andThen_ok]
  rfl

theorem sound_bc {op : BinOp} {x y : Opd} {x' y' : Operand} {t t' : TypeId} (ho : o.op = .binOp op t x' y' t') (hop : op = .eql ∨ op = .neq) (ht : P.underlying t = some .bool) (hx : IsOpd x x') (hy : IsOpd y y') {tv : TV} {p : Prop} (h : pev (.bc op x y) true st = some (tv, p)) (hp : p) : OpVal P o st st tv := by
  simp only [pev] at h
  split at h
  · rename_i a q1 b q2 h1 h2
    cases h
    obtain ⟨p1, p2⟩ := hp
    refine .pure fun B E F blk rw ac w hr => ?_
    have e1 := (hr.rd hx h1 p1).bool_inv
    have e2 := (hr.rd hy h2 p2).bool_inv
    refine ⟨_, ?_, Rep.bool _⟩
    simp only [execOp, ho, e1, e2]
    refine run_v ?_
    have heq : (Op.equal t (.bool a) (.bool b)).run P w = .ok (a == b) w := equalIn_bool ht 9999 a b w
    rcases hop with rfl | rfl
    · simp only [eqGuard, binOp, Sem.run_bind, bcmp, heq, Sem.run_ite, Sem.run_pure, Result.andThen_ok, ite_self]
    · simp only [eqGuard, binOp, Sem.run_bind, bcmp, heq, Sem.run_ite, Sem.run_pure, Result.andThen_ok, ite_self]
      rfl
  · cases h

theorem sound_no {x : Opd} {x' : Operand} {t : TypeId} (ho : o.op = .unOp .not t x') (hx : IsOpd x x') {tv : TV} {p : Prop} (h : pev (.no x) true st = some (tv, p)) (hp : p) : OpVal P o st st tv := by
  simp only [pev] at h
  split at h
  · rename_i a q1 h1
    cases h
    refine .pure fun B E F blk rw ac w hr => ?_
    have e1 := (hr.rd hx h1 hp).bool_inv
    exact ⟨_, by simp [execOp, ho, e1, Op.unary], Rep.bool _⟩
  · cases h

theorem sound_ng {x : Opd} {x' : Operand} {t : TypeId} (ho : o.op = .unOp .neg t x') (hx : IsOpd x x') {tv : TV} {p : Prop} (h : pev (.ng x) true st = some (tv, p)) (hp : p) : OpVal P o st st tv := by
  simp only [pev] at h
  split at h
  · rename_i k a q1 h1
    cases h
    obtain ⟨p1, p2⟩ := hp
    refine .pure fun B E F blk rw ac w hr => ?_
    have e1 := (hr.rd hx h1 p1).int_inv
    have := p2.wrap
    exact ⟨.int k (0 - a), by simp only [execOp, ho, e1, Op.unary, Op.intArith, this]; rfl, Rep.int k _⟩
  · cases h

theorem sound_si {x i : Opd} {x' i' : Operand} {t : TypeId} (ho : o.op = .index t x' i') (ht : P.underlying t = some .string) (hx : IsOpd x x') (hi : IsOpd i i') {tv : TV} {p : Prop} (h : pev (.si x i) true st = some (tv, p)) (hp : p) : OpVal P o st st tv := by
  simp only [pev] at h
  split at h
  · rename_i s q1 k n q2 h1 h2
    cases h
    obtain ⟨p1, p2, p3, p4⟩ := hp
    refine .pure fun B E F blk rw ac w hr => ?_
    obtain ⟨s1, e1, rfl⟩ := (hr.rd hx h1 p1).str_inv
    have e2 := (hr.rd hi h2 p2).int_inv
    have hlt : n.toNat < s1.size := by
      have : s1.size = s1.data.toList.length := by simp
      omega
    refine ⟨_, ?_, Rep.int _ _⟩
    simp only [execOp, ho, e1, e2]
    refine run_v ?_
    have hget : (s1.data.toList.getD n.toNat 0).toNat = (s1[n.toNat]'hlt).toNat := by
      have : s1.data.toList[n.toNat]? = some (s1[n.toNat]'hlt) := by
        simp [ByteArray.getElem_eq_getElem_data, hlt]
      simp [List.getD, this]
    rw [hget]
    simp [Instr.index, asIntOf, run_underlying ht, p3, ByteArray.getElem?_lt' s1 n.toNat hlt]
  · cases h

theorem size_toList (s : ByteArray) : s.size = s.data.toList.length := by simp

theorem sound_bound {B : Nat} {E : Env} {F : Mem} {blk rw : List Nat} {a : Act} {w : World} (hr : Rel B E F blk rw st a w) {d : Int} {x : Option Opd} {y : Option Operand} (hxy : (x = none ∧ y = none) ∨ ∃ x0 y0, x = some x0 ∧ y = some y0 ∧ IsOpd x0 y0) {n : Int} {p : Prop} (h : bound true d st.get x = some (n, p)) (hp : p) :
    (y = none ∧ n = d) ∨ ∃ y0 k, y = some y0 ∧ a.eval y0 = .int k n := by
  rcases hxy with ⟨rfl, rfl⟩ | ⟨x0, y0, rfl, rfl, hx⟩
  · cases h; exact .inl ⟨rfl, rfl⟩
  · simp only [bound] at h
    split at h
    · rename_i k m q h1
      cases h
      exact .inr ⟨y0, k, rfl, (hr.rd hx h1 hp).int_inv⟩
    · cases h

theorem run_bounds {w : World} (isSlice : Bool) (len cap : Nat) (hlc : len ≤ cap) (lo hi : Option Value) (l h : Int)
    (hlo : (lo = none ∧ l = 0) ∨ ∃ k, lo = some (.int k l)) (hhi : (hi = none ∧ h = len) ∨ ∃ k, hi = some (.int k h)) (h0 : 0 ≤ l) (h1 : l ≤ h) (h2 : h ≤ len) :
    (Instr.sliceBounds isSlice len cap lo hi none).run P w = .ok (l.toNat, h.toNat, cap) w := by
  have hh : 0 ≤ h ∧ h ≤ (cap : Int) := by omega
  have hl : 0 ≤ l ∧ l ≤ ((h.toNat : Nat) : Int) := by omega
  rcases hlo with ⟨rfl, rfl⟩ | ⟨k, rfl⟩ <;> rcases hhi with ⟨rfl, rfl⟩ | ⟨k', rfl⟩
  · simp [Instr.sliceBounds]
  · simp [Instr.sliceBounds, Instr.sliceBound, asIntOf, hh]
  · have hl' : 0 ≤ l ∧ l ≤ (len : Int) := by omega
    simp [Instr.sliceBounds, Instr.sliceBound, asIntOf, hl']
  · simp only [Instr.sliceBounds, Instr.sliceBound, asIntOf, Sem.run_bind, Sem.run_pure, Result.andThen_ok, Sem.run_ite, if_pos hh, if_pos hl, Option.isSome_none]

theorem extract_data' (s : ByteArray) (l h : Nat) : (s.extract l h).data.toList = (s.data.toList.take h).drop l := by
  simp [ByteArray.data_extract, List.extract_eq_take_drop, List.drop_take]

theorem sound_ss {x : Opd} {lo hi : Option Opd} {x' : Operand} {lo' hi' : Option Operand} {t : TypeId} (ho : o.op = .slice t x' lo' hi' none) (ht : P.underlying t = some .string) (hx : IsOpd x x')
    (hlo : (lo = none ∧ lo' = none) ∨ ∃ x0 y0, lo = some x0 ∧ lo' = some y0 ∧ IsOpd x0 y0) (hhi : (hi = none ∧ hi' = none) ∨ ∃ x0 y0, hi = some x0 ∧ hi' = some y0 ∧ IsOpd x0 y0)
    {tv : TV} {p : Prop} (h : pev (.ss x lo hi) true st = some (tv, p)) (hp : p) : OpVal P o st st tv := by
  simp only [pev] at h
  split at h
  · rename_i s q1 h1
    split at h
    · rename_i l q2 hn q3 h2 h3
      cases h
      obtain ⟨p1, p2, p3, p4, p5, p6⟩ := hp
      refine .pure fun B E F blk rw ac w hr => ?_
      obtain ⟨s1, e1, rfl⟩ := (hr.rd hx h1 p1).str_inv
      have b1 := sound_bound hr hlo h2 p2
      have b2 := sound_bound hr hhi h3 p3
      have hb := run_bounds (P := P) (w := w) false s1.size s1.size (Nat.le_refl _) (lo'.map ac.eval) (hi'.map ac.eval) l hn
        (by rcases b1 with ⟨rfl, rfl⟩ | ⟨y0, k, rfl, e⟩
            · exact .inl ⟨rfl, rfl⟩
            · exact .inr ⟨k, by simp [e]⟩)
        (by rcases b2 with ⟨rfl, rfl⟩ | ⟨y0, k, rfl, e⟩
            · exact .inl ⟨rfl, by simp⟩
            · exact .inr ⟨k, by simp [e]⟩) p4 p5 (by rw [size_toList]; exact p6)
      refine ⟨.string (s1.extract l.toNat hn.toNat), ?_, ?_⟩
      · simp only [execOp, ho, e1]
        refine run_v ?_
        simp [Instr.sliceAt, run_underlying ht, Instr.slice, hb]
      · have := Rep.str (E := E) (s1.extract l.toNat hn.toNat)
        rwa [extract_data'] at this
    · cases h
  · cases h

theorem sound_sls {x : Opd} {lo hi : Option Opd} {x' : Operand} {lo' hi' : Option Operand} {t e : TypeId} {ie : TI} (ho : o.op = .slice t x' lo' hi' none) (ht : P.underlying t = some (.slice e)) (he : TIOk P e ie) (hx : IsOpd x x')
    (hlo : (lo = none ∧ lo' = none) ∨ ∃ x0 y0, lo = some x0 ∧ lo' = some y0 ∧ IsOpd x0 y0) (hhi : (hi = none ∧ hi' = none) ∨ ∃ x0 y0, hi = some x0 ∧ hi' = some y0 ∧ IsOpd x0 y0)
    {tv : TV} {p : Prop} (h : pev (.sls ie.size x lo hi) true st = some (tv, p)) (hp : p) : OpVal P o st st tv := by
  simp only [pev] at h
  split at h
  · rename_i own sz' es q1 h1
    split at h
    · rename_i l q2 hn q3 h2 h3
      cases h
      obtain ⟨p1, p2, p3, p4, p5, p6, p7⟩ := hp
      refine .pure fun B E F blk rw ac w hr => ?_
      have b1 := sound_bound hr hlo h2 p2
      have b2 := sound_bound hr hhi h3 p3
      rcases (hr.rd hx h1 p1).sl_inv3 with ⟨e1, rfl, _⟩ | ⟨a0, e1, rfl, _⟩ | ⟨b, of, cap, e1, hes, hcap, _⟩
      · have hb := run_bounds (P := P) (w := w) true 0 0 (Nat.le_refl _) (lo'.map ac.eval) (hi'.map ac.eval) l hn
          (by rcases b1 with ⟨rfl, rfl⟩ | ⟨y0, k, rfl, e⟩
              · exact .inl ⟨rfl, rfl⟩
              · exact .inr ⟨k, by simp [e]⟩)
          (by rcases b2 with ⟨rfl, rfl⟩ | ⟨y0, k, rfl, e⟩
              · exact .inl ⟨rfl, by simp⟩
              · exact .inr ⟨k, by simp [e]⟩) p4 p5 (by simpa using p6)
        have hl0 : l = 0 := by simp at p6; omega
        have hn0 : hn = 0 := by simp at p6; omega
        subst hl0; subst hn0
        refine ⟨.slice none 0 0, ?_, ?_⟩
        · simp only [execOp, ho, e1]
          refine run_v ?_
          simp [Instr.sliceAt, run_underlying ht, Instr.slice, hb, he.run_size]
        · have := Rep.slnil (E := E) .no ie.size (fun t => by simp)
          simpa [RelV] using this
      · have hb := run_bounds (P := P) (w := w) true 0 0 (Nat.le_refl _) (lo'.map ac.eval) (hi'.map ac.eval) l hn
          (by rcases b1 with ⟨rfl, rfl⟩ | ⟨y0, k, rfl, e⟩
              · exact .inl ⟨rfl, rfl⟩
              · exact .inr ⟨k, by simp [e]⟩)
          (by rcases b2 with ⟨rfl, rfl⟩ | ⟨y0, k, rfl, e⟩
              · exact .inl ⟨rfl, by simp⟩
              · exact .inr ⟨k, by simp [e]⟩) p4 p5 (by simpa using p6)
        have hl0 : l = 0 := by simp at p6; omega
        have hn0 : hn = 0 := by simp at p6; omega
        subst hl0; subst hn0
        refine ⟨.slice (some a0) 0 0, ?_, ?_⟩
        · simp only [execOp, ho, e1]
          refine run_v ?_
          simp [Instr.sliceAt, run_underlying ht, Instr.slice, hb, he.run_size]
        · have := Rep.slz (E := E) ie.size a0
          simpa [RelV] using this
      · have hb := run_bounds (P := P) (w := w) true es.length cap hcap (lo'.map ac.eval) (hi'.map ac.eval) l hn
          (by rcases b1 with ⟨rfl, rfl⟩ | ⟨y0, k, rfl, e⟩
              · exact .inl ⟨rfl, rfl⟩
              · exact .inr ⟨k, by simp [e]⟩)
          (by rcases b2 with ⟨rfl, rfl⟩ | ⟨y0, k, rfl, e⟩
              · exact .inl ⟨rfl, by simp⟩
              · exact .inr ⟨k, by simp [e]⟩) p4 p5 p6
        have hlen : ((es.take hn.toNat).drop l.toNat).length = hn.toNat - l.toNat := by simp; omega
        have hsz : RepEs E ie.size es b of := by
          rcases p7 with rfl | rfl
          · exact hes
          · exact .nil _ _ _
        have hcells : RepEs E ie.size ((es.take hn.toNat).drop l.toNat) b (of + l.toNat * ie.size) := (hsz.take hn.toNat).drop l.toNat (by simp; omega)
        have hrun : ((do pure (.value (← Instr.sliceAt t (ac.eval x') (lo'.map ac.eval) (hi'.map ac.eval) none)) : Sem Next)).run P w = .ok (.value (.slice (if cap = l.toNat then some ⟨b, of, none⟩ else some ⟨b, of + l.toNat * ie.size, none⟩) (hn.toNat - l.toNat) (cap - l.toNat))) w := by
          refine run_v ?_
          simp only [e1, Instr.sliceAt, Sem.run_bind, run_underlying ht, Result.andThen_ok, Instr.slice, hb, he.run_size, Sem.run_pure]
          by_cases hc : cap = l.toNat
          · simp [hc]
          · simp [hc, Addr.add_lit]
        refine ⟨_, by simpa only [execOp, ho, Option.map_none] using hrun, ?_⟩
        by_cases hc : cap = l.toNat
        · rw [if_pos hc]
          have h0 : hn.toNat - l.toNat = 0 := by omega
          have hnil : (es.take hn.toNat).drop l.toNat = [] := List.eq_nil_of_length_eq_zero (by omega)
          rw [hnil, h0]
          exact Rep.sl .no ie.size [] b of (cap - l.toNat) 0 rfl (.nil _ _ _) (by omega) trivial
        · rw [if_neg hc]
          exact Rep.sl .no ie.size _ b _ (cap - l.toNat) _ hlen.symm hcells (by omega) trivial
    · cases h
  · cases h
end
end Go.Am
