/- Operations in a resolved form, their evaluation on states, and that it is what the machine does: values that touch no memory. -/
import Derived.Test.YtpephlhhdefdgaaDoorAmE
set_option linter.unusedSectionVars false
set_option linter.unusedVariables false
set_option linter.unusedSimpArgs false
namespace Go.Am
open Go.RowKit
variable [Inhabited LaidBox] {ro : Option Nat}

/-- The kinds of types that have a nil. -/
inductive NK where
  | ptr
  | map
  | fn
  | iface
  | slice

/-- The kinds of operations. -/
inductive CK where
  | mv (x : Opd)
  | pick (c a b : Opd)
  | ar (op : BinOp) (x y : Opd)
  | qr (op : BinOp) (x y : Opd)
  | ic (op : BinOp) (x y : Opd)
  | sc (op : BinOp) (x y : Opd)
  | cat (x y : Opd)
  | bc (op : BinOp) (x y : Opd)
  | nl (op : BinOp) (k : NK) (x : Opd)
  | no (x : Opd)
  | ng (x : Opd)
  | si (x i : Opd)
  | ai (len sz : Nat) (agg : Bool) (x i : Opd)
  | ln (str : Bool) (x : Opd)
  | ss (x : Opd) (lo hi : Option Opd)
  | sls (sz : Nat) (x : Opd) (lo hi : Option Opd)
  | fl (off n : Nat) (agg : Bool) (x : Opd)
  | fa (off : Nat) (x : Opd)
  | ia (sz : Nat) (x i : Opd)
  | ld (n : Nat) (agg : Bool) (x : Opd)
  | nc (x : Opd)
  | mi (t : TypeId) (x : Opd)
  | mf (fn : Fn) (first cap : List Opd)
  | ex (x : Opd) (i : Nat)
  | cv (k : IntKind) (x : Opd)
  | cvs (x : Opd)
  | bd (zero : List AV) (parts : List (Nat × Nat × Opd))
  | bs (e : TypeId) (sz : Nat) (parts : List Opd)
  | sto (n : Nat) (p x : Opd)
  | al (ty : TypeId) (zero : List AV)
  | alS (ty : TypeId) (zero : List AV)
  | bx (ty : TypeId) (x : Opd)
  | bxS (ty : TypeId) (x : Opd)
  | app (e : TypeId) (sz bytes : Nat) (s x : Opd)
  | mks (e : TypeId) (sz bytes : Nat) (zero : AV) (l c : Opd)
  | mm
  | lk (ok : Bool) (zero : AV) (m k : Opd)
  | mu (m k x : Opd)
  | call (f : FuncId) (args : List Opd)
  | callv (f : Opd) (args : List Opd)
  | dfr (f : Opd) (args : List Opd)
  | pan (x : Opd)
  | recov
  | mn (mx : Bool) (x y : Opd)
  | tas (ok : Bool) (t : TypeId) (zero : AV) (x : Opd)
  | seq (t : TypeId) (op : BinOp) (x y : Opd)
  | other (o : Oper)

structure COp where
  dst : Option Nat
  grd : Option (Nat × Bool)
  k : CK

def Val (T : TT) (ty : TypeId) : Value → Option AV
  | .bool b => some (.bool b)
  | .int k n => some (.int k n)
  | .string s => some (.str s.data.toList)
  | .pointer none => some .nilp
  | .slice none 0 0 => match T ty with
    | some i => match i.desc with
      | .slice e => (T e).map fun j => .sl .full j.size []
      | _ => none
    | none => none
  | .map none => some .nilmap
  | .nilFunc => some .nilfn
  | .nilIface => some .niliface
  | .agg cs => match T ty with
    | some i => if cs.size = 0 then none else none
    | none => none
  | _ => none

theorem Val_conc {T : TT} {ty : TypeId} {c : Value} {v : AV} (h : Val T ty c = some v) : v.concA = some c := by
  unfold Val at h
  split at h
  · cases h; rfl
  · cases h; rfl
  · cases h; simp [AV.concA, AV.conc]
  · cases h; rfl
  · split at h
    · split at h
      · simp only [Option.map_eq_some_iff] at h
        obtain ⟨j, _, rfl⟩ := h
        rfl
      · cases h
    · cases h
  · cases h; rfl
  · cases h; rfl
  · cases h; rfl
  · split at h
    · split at h <;> cases h
    · cases h
  · cases h

def cX (T : TT) (ty : TypeId) : Operand → Option Opd
  | .tmp i => some (.t i)
  | .func f => some (.f f)
  | .const c => (Val T ty c).map .c
  | .global _ => none

theorem cX_is {T : TT} {ty : TypeId} {y : Operand} {x : Opd} (h : cX T ty y = some x) : IsOpd x y := by
  cases y with
  | tmp i => cases h; exact .t i
  | func f => cases h; exact .f f
  | const c =>
    simp only [cX, Option.map_eq_some_iff] at h
    obtain ⟨v, hv, rfl⟩ := h
    exact .c v c (Val_conc hv)
  | global g => cases h

/-- Reading an operand under a guard. -/
def rd (g : Bool) : TV → Option (AV × Prop)
  | .v x => some (x, True)
  | .lsl _ sz es => some (.sl .no sz es, True)
  | .opt h (.v x) => some (x, g = true → h = true)
  | .opt h (.lsl _ sz es) => some (.sl .no sz es, g = true → h = true)
  | _ => none

/-- A pointer into a variable of the call's own. -/
def lp (g : Bool) : TV → Option (Nat × Nat × Prop)
  | .lptr i o => some (i, o, True)
  | .opt h (.lptr i o) => some (i, o, g = true → h = true)
  | _ => none
theorem lp_rel {E : Env} {blk rw : List Nat} {x : TV} {c : Value} {i o : Nat} {p : Prop} (h : RelV E blk rw x c) (hr : lp true x = some (i, o, p)) (hp : p) : ∃ b, blk[i]? = some b ∧ c = .pointer (some ⟨b, o, none⟩) := by
  cases x with
  | lptr i' o' => cases hr; exact h
  | opt g x =>
    cases x with
    | lptr i' o' => cases hr; exact h.1 (hp rfl)
    | _ => cases hr
  | _ => cases hr

theorem rd_rep {E : Env} {blk rw : List Nat} {x : TV} {c : Value} {v : AV} {p : Prop} (h : RelV E blk rw x c) (hr : rd true x = some (v, p)) (hp : p) : Rep E v c := by
  cases x with
  | v x => cases hr; exact h
  | lsl i sz es => cases hr; obtain ⟨t, _, h⟩ := h; exact h.forget
  | opt g x =>
    cases x with
    | v x => cases hr; exact h.1 (hp rfl)
    | lsl i sz es => cases hr; obtain ⟨t, _, h⟩ := h.1 (hp rfl); exact h.forget
    | _ => cases hr
  | _ => cases hr

/-- The range of a kind of whole numbers. -/
def InR (k : IntKind) (n : Int) : Prop :=
  match k with
  | .i8 => -128 ≤ n ∧ n ≤ 127
  | .i16 => -32768 ≤ n ∧ n ≤ 32767
  | .i32 => -2147483648 ≤ n ∧ n ≤ 2147483647
  | .i64 => -9223372036854775808 ≤ n ∧ n ≤ 9223372036854775807
  | .u8 => 0 ≤ n ∧ n ≤ 255
  | .u16 => 0 ≤ n ∧ n ≤ 65535
  | .u32 => 0 ≤ n ∧ n ≤ 4294967295
  | .u64 => 0 ≤ n ∧ n ≤ 18446744073709551615

theorem InR.wrap {k : IntKind} {n : Int} (h : InR k n) : k.wrap n = n := by
  cases k <;> simp only [InR] at h <;> simp [IntKind.wrap, IntKind.bits, IntKind.signed] <;> omega

def arith (op : BinOp) (a b : Int) : Int :=
  match op with
  | .add => a + b
  | .sub => a - b
  | _ => a * b
def quorem (op : BinOp) (a b : Int) : Int :=
  match op with
  | .quo => a.tdiv b
  | _ => a.tmod b
def icmp (op : BinOp) (a b : Int) : Bool :=
  match op with
  | .eql => decide (a = b)
  | .neq => !decide (a = b)
  | .lss => decide (a < b)
  | .leq => decide (a ≤ b)
  | .gtr => decide (b < a)
  | _ => decide (b ≤ a)
def scmp (op : BinOp) (a b : List UInt8) : Bool :=
  match op with
  | .eql => decide (a = b)
  | _ => !decide (a = b)
def bcmp (op : BinOp) (a b : Bool) : Bool :=
  match op with
  | .eql => a == b
  | _ => a != b
def nlB (op : BinOp) (b : Bool) : Bool :=
  match op with
  | .eql => b
  | _ => !b

/-- Whether a value is nil. -/
def isNil : NK → AV → Option Bool
  | .ptr, .nilp | .map, .nilmap | .fn, .nilfn | .iface, .niliface => some true
  | .ptr, .ptr _ _ | .ptr, .eptr _ _ _ _ | .map, .map _ | .fn, .fn _ _ _ | .iface, .iface _ _ => some false
  | .slice, .sl _ _ (_ :: _) => some false
  | _, _ => none

def bound (g : Bool) (d : Int) (get : Opd → TV) : Option Opd → Option (Int × Prop)
  | none => some (d, True)
  | some x => match rd g (get x) with
    | some (.int _ n, p) => some (n, p)
    | _ => none

def fillA (zero : List AV) (g : Bool) (get : Opd → TV) : List (Nat × Nat × Opd) → Option (List AV × Prop)
  | [] => some (zero, True)
  | (off, n, x) :: rest => match rd g (get x) with
    | some (v, p) => match fillA (zero.take off ++ v.cells ++ zero.drop (off + n)) g get rest with
      | some (cs, q) => some (cs, p ∧ v.cells.length = n ∧ (∀ y ∈ v.cells, y.one = true) ∧ q)
      | none => none
    | none => none

def rdL (g : Bool) (get : Opd → TV) : List Opd → Option (List AV × Prop)
  | [] => some ([], True)
  | x :: xs => match rd g (get x), rdL g get xs with
    | some (v, p), some (vs, q) => some (v :: vs, p ∧ q)
    | _, _ => none

/-- The value of an operation that changes no memory that is spoken of, and what it needs. -/
def pev (k : CK) (g : Bool) (st : St) : Option (TV × Prop) :=
  match k with
  | .mv x => match st.get x with
    | .opt h (.v y) => some (.v y, g = true → h = true)
    | .opt _ _ => none
    | y => some (y, True)
  | .pick c a b => match rd g (st.get c), rd true (st.get a), rd true (st.get b) with
    | some (.bool c, p), some (.bool a, q), some (.bool b, r) => some (.v (.bool (bif c then a else b)), p ∧ (c = true → q) ∧ (c = false → r))
    | _, _, _ => none
  | .ar op x y => match rd g (st.get x), rd g (st.get y) with
    | some (.int k a, p), some (.int k' b, q) => some (.v (.int k (arith op a b)), p ∧ q ∧ k = k' ∧ InR k (arith op a b))
    | _, _ => none
  | .qr op x y => match rd g (st.get x), rd g (st.get y) with
    | some (.int k a, p), some (.int k' b, q) => some (.v (.int k (quorem op a b)), p ∧ q ∧ k = k' ∧ b ≠ 0 ∧ InR k (quorem op a b))
    | _, _ => none
  | .ic op x y => match rd g (st.get x), rd g (st.get y) with
    | some (.int k a, p), some (.int k' b, q) => some (.v (.bool (icmp op a b)), p ∧ q ∧ k = k')
    | _, _ => none
  | .sc op x y => match rd g (st.get x), rd g (st.get y) with
    | some (.str a, p), some (.str b, q) => some (.v (.bool (scmp op a b)), p ∧ q)
    | _, _ => none
  | .cat x y => match rd g (st.get x), rd g (st.get y) with
    | some (.str a, p), some (.str b, q) => some (.v (.str (a ++ b)), p ∧ q ∧ a.length + b.length ≤ 9223372036854775807)
    | _, _ => none
  | .bc op x y => match rd g (st.get x), rd g (st.get y) with
    | some (.bool a, p), some (.bool b, q) => some (.v (.bool (bcmp op a b)), p ∧ q)
    | _, _ => none
  | .nl op k x => match st.get x with
    | .lptr _ _ => match k with
      | .ptr => some (.v (.bool (nlB op false)), True)
      | _ => none
    | y => match rd g y with
      | some (v, p) => match isNil k v with
        | some b => some (.v (.bool (nlB op b)), p)
        | none => none
      | none => none
  | .no x => match rd g (st.get x) with
    | some (.bool b, p) => some (.v (.bool (!b)), p)
    | _ => none
  | .ng x => match rd g (st.get x) with
    | some (.int k a, p) => some (.v (.int k (0 - a)), p ∧ InR k (0 - a))
    | _ => none
  | .si x i => match rd g (st.get x), rd g (st.get i) with
    | some (.str s, p), some (.int _ n, q) => some (.v (.int .u8 ((s.getD n.toNat 0).toNat)), p ∧ q ∧ 0 ≤ n ∧ n < s.length)
    | _, _ => none
  | .ln true x => match rd g (st.get x) with
    | some (.str s, p) => some (.v (.int .i64 s.length), p)
    | _ => none
  | .ln false x => match rd g (st.get x) with
    | some (.sl _ _ es, p) => some (.v (.int .i64 es.length), p)
    | _ => none
  | .ss x lo hi => match rd g (st.get x) with
    | some (.str s, p) => match bound g 0 st.get lo, bound g s.length st.get hi with
      | some (l, q), some (h, r) => some (.v (.str ((s.take h.toNat).drop l.toNat)), p ∧ q ∧ r ∧ 0 ≤ l ∧ l ≤ h ∧ h ≤ s.length)
      | _, _ => none
    | _ => none
  | .sls sz x lo hi => match rd g (st.get x) with
    | some (.sl _ sz' es, p) => match bound g 0 st.get lo, bound g es.length st.get hi with
      | some (l, q), some (h, r) => some (.v (.sl .no sz ((es.take h.toNat).drop l.toNat)), p ∧ q ∧ r ∧ 0 ≤ l ∧ l ≤ h ∧ h ≤ es.length ∧ (sz' = sz ∨ es = []))
      | _, _ => none
    | _ => none
  | .fl off n agg x => match rd g (st.get x) with
    | some (.agg cs, p) => match pickT agg n cs off with
      | some v => some (.v v, p)
      | none => none
    | _ => none
  | .fa off x => match lp g (st.get x) with
    | some (i, o, p) => some (.lptr i (o + off), p)
    | none => match rd g (st.get x) with
      | some (.ptr r o, p) => some (.v (.ptr r (o + off)), p)
      | some (.eptr sz es i o, p) => some (.v (.eptr sz es i (o + off)), p)
      | _ => none
  | .ia sz x i => match rd g (st.get x), rd g (st.get i) with
    | some (.sl _ sz' es, p), some (.int _ n, q) => some (.v (.eptr sz es n.toNat 0), p ∧ q ∧ 0 ≤ n ∧ n < es.length ∧ sz' = sz)
    | _, _ => none
  | .ld n agg x => match lp g (st.get x) with
    | some (i, off, p) => match st.loc[i]? with
      | some (some tvs) => match pickL agg n tvs off with
        | some y => some (y, p)
        | none => none
      | _ => none
    | none => match rd g (st.get x) with
      | some (.ptr r off, p) => match st.M (.b r) with
        | some (.cells cs) => match pickT agg n cs off with
          | some v => some (.v v, p)
          | none => none
        | _ => none
      | some (.eptr _ es i off, p) => match es[i]? with
        | some e => match pickT agg n e.cells off with
          | some v => some (.v v, p)
          | none => none
        | none => none
      | _ => none
  | .lk ok zero m k => match rd g (st.get k) with
    | some (.str s, q) => match rd g (st.get m) with
      | some (.map r, p) => match st.M (.b r) with
        | some (.map kvs) => some (.v (bif ok then .tup [(findS kvs s).getD zero, .bool (findS kvs s).isSome] else (findS kvs s).getD zero), p ∧ q)
        | _ => none
      | some (.nilmap, p) => some (.v (bif ok then .tup [zero, .bool false] else zero), p ∧ q)
      | _ => none
    | _ => none
  | .nc x => match st.get x with
    | .lptr i off => some (.lptr i off, True)
    | y => match rd g y with
      | some (.ptr r o, p) => some (.v (.ptr r o), p)
      | some (.eptr sz es i o, p) => some (.v (.eptr sz es i o), p)
      | some (.fn (.func f) a b, p) => some (.v (.fn (.func f) a b), p)
      | _ => none
  | .mi t x => match rd g (st.get x) with
    | some (v, p) => some (.v (.iface t v), p)
    | none => none
  | .mf fn first cap => match rdL g st.get first, rdL g st.get cap with
    | some (a, p), some (b, q) => some (.v (.fn fn a b), p ∧ q)
    | _, _ => none
  | .ex x i => match rd g (st.get x) with
    | some (.tup vs, p) => match vs[i]? with
      | some v => some (.v v, p)
      | none => none
    | _ => none
  | .cv k x => match rd g (st.get x) with
    | some (.int _ n, p) => some (.v (.int k n), p ∧ InR k n)
    | _ => none
  | .cvs x => match rd g (st.get x) with
    | some (.str s, p) => some (.v (.str s), p)
    | _ => none
  | .bd zero parts => match fillA zero g st.get parts with
    | some (cs, p) => some (.v (.agg cs), p)
    | none => none
  | .bs _ sz parts => match rdL g st.get parts with
    | some (vs, p) => some (.v (.sl .full sz vs), p ∧ (∀ v ∈ vs, v.cells.length = sz ∧ ∀ y ∈ v.cells, y.one = true))
    | none => none
  | .mn mx x y => match rd g (st.get x), rd g (st.get y) with
    | some (.int k a, p), some (.int k' b, q) => some (.v (.int k (if mx then max a b else min a b)), p ∧ q)
    | _, _ => none
  | .tas ok t zero x => match rd g (st.get x) with
    | some (.iface t' v, p) => if ok then some (.v (.tup [if t' = t then v else zero, .bool (decide (t' = t))]), p) else some (.v v, p ∧ t' = t)
    | some (.niliface, p) => if ok then some (.v (.tup [zero, .bool false]), p) else none
    | _ => none
  | _ => none

/-! What the machine does. -/
section runs
variable {P : Program} (w : World)
theorem run_int_cmp (op : BinOp) (h : op = .eql ∨ op = .neq ∨ op = .lss ∨ op = .leq ∨ op = .gtr ∨ op = .geq) (t : TypeId) (x y : Operand) (k : IntKind) (a b : Int) :
    (do eqGuard op t x y (.int k a) (.int k b); binOp op t (.int k a) (.int k b) : Sem Value).run P w = .ok (.bool (icmp op a b)) w := by
  rcases h with rfl | rfl | rfl | rfl | rfl | rfl <;> simp [eqGuard, binOp, Op.intCmp, icmp] <;> rfl
theorem run_int_arith (op : BinOp) (h : op = .add ∨ op = .sub ∨ op = .mul) (t : TypeId) (x y : Operand) (k : IntKind) (a b : Int) :
    (do eqGuard op t x y (.int k a) (.int k b); binOp op t (.int k a) (.int k b) : Sem Value).run P w = .ok (.int k (k.wrap (arith op a b))) w := by
  rcases h with rfl | rfl | rfl <;> simp [eqGuard, binOp, Op.intArith, arith]
theorem run_int_div (op : BinOp) (h : op = .quo ∨ op = .rem) (t : TypeId) (x y : Operand) (k : IntKind) (a b : Int) (hb : b ≠ 0) (hr : InR k (quorem op a b)) :
    (do eqGuard op t x y (.int k a) (.int k b); binOp op t (.int k a) (.int k b) : Sem Value).run P w = .ok (.int k (quorem op a b)) w := by
  rcases h with rfl | rfl
  · have := hr.wrap
    simp only [quorem] at this
    simp [eqGuard, binOp, Op.intDiv, quorem, hb, this]
  · simp [eqGuard, binOp, Op.intDiv, quorem, hb]
theorem bytes_eq (a b : ByteArray) : (a.toList == b.toList) = decide (a.data.toList = b.data.toList) := by
  rw [ByteArray.toList_eq, ByteArray.toList_eq]
  rw [Bool.eq_iff_iff, beq_iff_eq, decide_eq_true_iff]
theorem run_str_cmp (op : BinOp) (h : op = .eql ∨ op = .neq) (t : TypeId) (x y : Operand) (a b : ByteArray) :
    (do eqGuard op t x y (.string a) (.string b); binOp op t (.string a) (.string b) : Sem Value).run P w = .ok (.bool (scmp op a.data.toList b.data.toList)) w := by
  rcases h with rfl | rfl
  · simp only [eqGuard, binOp, Op.stringOp, scmp, bytes_eq]
    rfl
  · simp only [eqGuard, binOp, Op.stringOp, scmp, bytes_eq]
    rfl
end runs


/-! The resolved form of an operation. -/
def cXL (T : TT) : List TypeId → List Operand → Option (List Opd)
  | _, [] => some []
  | [], y :: ys => match cX T 0 y, cXL T [] ys with
    | some x, some xs => some (x :: xs)
    | _, _ => none
  | t :: ts, y :: ys => match cX T t y, cXL T ts ys with
    | some x, some xs => some (x :: xs)
    | _, _ => none
theorem cXL_is {T : TT} : ∀ {ts : List TypeId} {ys : List Operand} {xs : List Opd}, cXL T ts ys = some xs → xs.length = ys.length ∧ ∀ (i : Nat) (x : Opd), xs[i]? = some x → ∃ y, ys[i]? = some y ∧ IsOpd x y
  | ts, [], xs, h => by
    unfold cXL at h
    cases h
    exact ⟨rfl, fun i x hx => by simp at hx⟩
  | [], y :: ys, xs, h => by
    unfold cXL at h
    split at h
    · rename_i x0 xs0 h1 h2
      cases h
      obtain ⟨k1, k2⟩ := cXL_is h2
      refine ⟨by simp [k1], fun i x hx => ?_⟩
      cases i with
      | zero => simp at hx; subst hx; exact ⟨y, rfl, cX_is h1⟩
      | succ i => simpa using k2 i x (by simpa using hx)
    · cases h
  | t :: ts, y :: ys, xs, h => by
    unfold cXL at h
    split at h
    · rename_i x0 xs0 h1 h2
      cases h
      obtain ⟨k1, k2⟩ := cXL_is h2
      refine ⟨by simp [k1], fun i x hx => ?_⟩
      cases i with
      | zero => simp at hx; subst hx; exact ⟨y, rfl, cX_is h1⟩
      | succ i => simpa using k2 i x (by simpa using hx)
    · cases h

def isNilC : NK → Operand → Bool
  | .ptr, .const (.pointer none) | .slice, .const (.slice none 0 0) | .map, .const (.map none) | .fn, .const .nilFunc | .iface, .const .nilIface => true
  | _, _ => false

def isEqOp : BinOp → Bool
  | .eql | .neq => true
  | _ => false

def descOf (T : TT) (t : TypeId) : TypeDesc := ((T t).map (·.desc)).getD .invalid
def sizeT (T : TT) (t : TypeId) : Option Nat := (T t).map (·.size)
def oX (T : TT) (ty : TypeId) : Option Operand → Option (Option Opd)
  | none => some none
  | some y => (cX T ty y).map some

def place (T : TT) (fs : Array Field) (i : Nat) : Option (Nat × Nat × TypeId) := match fs[i]? with
  | some f => (sizeT T f.type).map fun n => (f.offset, n, f.type)
  | none => none

def bdParts (T : TT) (fs : Array Field) (size : Nat) : List (Nat × Operand) → Option (List (Nat × Nat × Opd))
  | [] => some []
  | (i, y) :: rest => match place T fs i, bdParts T fs size rest with
    | some (off, n, ty), some l => if off + n ≤ size then (cX T ty y).map fun x => (off, n, x) :: l else none
    | _, _ => none

/-- The parts of a slice, each in its place. -/
def bsParts (T : TT) (e : TypeId) : Nat → List (Nat × Operand) → Option (List Opd)
  | _, [] => some []
  | k, (i, y) :: rest => if i = k then match cX T e y, bsParts T e (k + 1) rest with
      | some x, some l => some (x :: l)
      | _, _ => none
    else none

def compK (T : TT) (esc : List Nat) (o : Oper) : Option CK :=
  match o.op with
  | .move x | .assign x => (cX T o.type x).map .mv
  | .pick c a b => match cX T 0 c, cX T 0 a, cX T 0 b with
    | some c, some a, some b => some (.pick c a b)
    | _, _, _ => none
  | .binOp op t x y _ =>
    match descOf T t with
    | .int _ => match cX T t x, cX T t y with
      | some x, some y => match op with
        | .add | .sub | .mul => some (.ar op x y)
        | .quo | .rem => some (.qr op x y)
        | .eql | .neq | .lss | .leq | .gtr | .geq => some (.ic op x y)
        | _ => none
      | _, _ => none
    | .string => match cX T t x, cX T t y with
      | some x, some y => match op with
        | .add => some (.cat x y)
        | .eql | .neq => some (.sc op x y)
        | _ => none
      | _, _ => none
    | .bool => match cX T t x, cX T t y with
      | some x, some y => match op with
        | .eql | .neq => some (.bc op x y)
        | _ => none
      | _, _ => none
    | .pointer _ => if isNilC .ptr y && isEqOp op then (cX T t x).map (.nl op .ptr) else none
    | .func _ _ _ => if isNilC .fn y && isEqOp op then (cX T t x).map (.nl op .fn) else none
    | .interface _ => if isNilC .iface y && isEqOp op then (cX T t x).map (.nl op .iface) else none
    | .map _ _ => if isNilC .map y && isEqOp op then (cX T t x).map (.nl op .map) else none
    | .slice _ => if isNilC .slice y && isEqOp op then (cX T t x).map (.nl op .slice) else none
    | _ => none
  | .unOp .not _ x => (cX T 0 x).map .no
  | .unOp .neg _ x => (cX T 0 x).map .ng
  | .index t x i => match descOf T t, cX T t x, cX T 0 i with
    | .string, some x, some i => some (.si x i)
    | .array len e, some x, some i => match T e with
      | some j => some (.ai len j.size (isAggD j.desc) x i)
      | none => none
    | _, _, _ => none
  | .slice t x lo hi none => match cX T t x, oX T 0 lo, oX T 0 hi with
    | some x, some lo, some hi => match descOf T t with
      | .string => some (.ss x lo hi)
      | .slice e => (sizeT T e).map fun n => .sls n x lo hi
      | _ => none
    | _, _, _ => none
  | .field t x f => match descOf T t, cX T t x with
    | .struct fs, some x => match fs[f]? with
      | some fd => match T fd.type with
        | some j => some (.fl fd.offset j.size (isAggD j.desc) x)
        | none => none
      | none => none
    | _, _ => none
  | .fieldAddr t x f => match descOf T t, cX T t x with
    | .struct fs, some x => match fs[f]? with
      | some fd => match T fd.type with
        | some j => if j.size = 0 then none else some (.fa fd.offset x)
        | none => none
      | none => none
    | _, _ => none
  | .indexAddr t x i => match descOf T t, cX T t x, cX T 0 i with
    | .slice e, some x, some i => (sizeT T e).map fun n => .ia n x i
    | _, _, _ => none
  | .load t x => match T t, cX T 0 x with
    | some j, some x => some (.ld j.size (isAggD j.desc) x)
    | _, _ => none
  | .store t p x => match T t, cX T 0 p, cX T t x with
    | some j, some p, some x => some (.sto j.size p x)
    | _, _, _ => none
  | .nilCheck x => (cX T 0 x).map .nc
  | .makeInterface t x => match descOf T t with
    | .interface _ | .invalid => none
    | _ => (cX T t x).map (.mi t)
  | .makeFunc fn first cap => match cXL T [] first.toList, cXL T [] cap.toList with
    | some a, some b => some (.mf fn a b)
    | _, _ => none
  | .extract x i => (cX T 0 x).map fun x => .ex x i
  | .convert s d x => match descOf T s, descOf T d with
    | .int _, .int k => (cX T s x).map (.cv k)
    | .string, .string => (cX T s x).map .cvs
    | _, _ => none
  | .build t parts => match T t with
    | some j => match j.desc with
      | .struct fs => if fs.toList.all (fun f => (T f.type).isSome) then (bdParts T fs j.size parts.toList).map (.bd j.zero.cells) else none
      | _ => none
    | none => none
  | .buildSlice t len parts => match descOf T t with
    | .slice e => match T e with
      | some j => if parts.size = len ∧ len * j.size ≤ 16777216 ∧ 0 < j.size then (bsParts T e 0 parts.toList).map (.bs e j.size) else none
      | none => none
    | _ => none
  | .alloc t => match T t with
    | some j => match o.dst with
      | some d => some (if esc.contains d then .alS t j.zero.cells else .al t j.zero.cells)
      | none => none
    | none => none
  | .box t x => match o.dst with
    | some d => (cX T t x).map fun x => if esc.contains d then .bxS t x else .bx t x
    | none => none
  | .makeMap t none => match descOf T t with
    | .map _ _ => some .mm
    | _ => none
  | .lookup t m k ok => match descOf T t, cX T t m, cX T 0 k with
    | .map kt et, some m, some k => match descOf T kt, T et with
      | .string, some j => some (.lk ok j.zero m k)
      | _, _ => none
    | _, _, _ => none
  | .mapUpdate t m k x | .insert t m k x => match descOf T t with
    | .map kt et => match descOf T kt, cX T t m, cX T 0 k, cX T et x with
      | .string, some m, some k, some x => some (.mu m k x)
      | _, _, _, _ => none
    | _ => none
  | .typeAssert x _ t ok => match T t, cX T 0 x with
    | some j, some x => match j.desc with
      | .interface _ => none
      | _ => some (.tas ok t j.zero x)
    | _, _ => none
  | .makeSlice t l c => match descOf T t with
    | .slice e => match T e, cX T 0 l, cX T 0 c with
      | some j, some l, some c => some (.mks e j.size j.bytes j.zero l c)
      | _, _, _ => none
    | _ => none
  | .panic x => (cX T 0 x).map .pan
  | .defer c => match c.callee with
    | .value f => match cX T 0 f, cXL T c.argTypes.toList c.args.toList with
      | some f, some xs => some (.dfr f xs)
      | _, _ => none
    | _ => none
  | .call c => match c.callee with
    | .value (.func f) => (cXL T c.argTypes.toList c.args.toList).map (.call f)
    | .value f => match cX T 0 f, cXL T c.argTypes.toList c.args.toList with
      | some f, some xs => some (.callv f xs)
      | _, _ => none
    | .builtin .len => match c.args.toList, c.argTypes.toList with
      | [x], [t] => match descOf T t with
        | .string => (cX T t x).map (.ln true)
        | .slice _ => (cX T t x).map (.ln false)
        | _ => none
      | _, _ => none
    | .builtin .append => match c.args.toList, c.argTypes.toList with
      | [s, x], [t, t'] => match descOf T t, descOf T t' with
        | .slice e, .slice _ => match T e, cX T t s, cX T t x with
          | some j, some s, some x => some (.app e j.size j.bytes s x)
          | _, _, _ => none
        | _, _ => none
      | _, _ => none
    | .builtin .min => match c.args.toList with
      | [x, y] => match cX T 0 x, cX T 0 y with
        | some x, some y => some (.mn false x y)
        | _, _ => none
      | _ => none
    | .builtin .max => match c.args.toList with
      | [x, y] => match cX T 0 x, cX T 0 y with
        | some x, some y => some (.mn true x y)
        | _, _ => none
      | _ => none
    | .builtin .recover => some .recov
    | _ => none
  | _ => none

def compG (ops : Array Oper) (o : Oper) : Option (Option (Nat × Bool)) :=
  match o.guard with
  | none => some none
  | some (j, want) => match (ops[j]?).bind (·.dst) with
    | some d => some (some (d, want))
    | none => none

def compOp (T : TT) (esc : List Nat) (ops : Array Oper) (o : Oper) : COp :=
  match compG ops o with
  | some g => { dst := o.dst, grd := g, k := (compK T esc o).getD (.other o) }
  | none => { dst := o.dst, grd := none, k := .other o }

end Go.Am
