import Derived.Test.YticifcoffgoajaaDoorLx7
import Derived.Test.YticifcoffgoajaaDoorLx8
import Derived.Laws.StructEq
set_option linter.unusedVariables false
set_option linter.unusedSimpArgs false
set_option maxRecDepth 100000
namespace Go.Am
open Go.RowKit
/-- Every operation of a code. -/
def opsC : Code → List Oper
  | .region _ ops _ => ops.toList
  | .seq a b => opsC a ++ opsC b
  | .cond _ a b => opsC a ++ opsC b
  | .block _ a => opsC a
  | .loop a => opsC a
  | .scope a => opsC a
  | .rangeFunc _ _ a b => opsC a ++ opsC b
  | _ => []
theorem compK_other {T : TT} {esc : List Nat} {o q : Oper} (k3 : compK T esc o = some (.other q)) : False := by
  cases ho : o.op with
  | call c =>
    simp only [compK, ho] at k3
    repeat' (split at k3)
    all_goals first | (cases k3; done) | (cases iaK_isIa k3; done) | (simp at k3; done)
  | binOp op t x y t' =>
    simp only [compK, ho] at k3
    repeat' (split at k3)
    all_goals first | (cases k3; done) | (cases iaK_isIa k3; done) | (simp at k3; done)
  | unOp op t x => cases op <;> simp [compK, ho] at k3
  | slice t x lo hi mx =>
    cases mx <;> simp only [compK, ho, reduceCtorEq] at k3
    repeat' (split at k3)
    all_goals first | (cases k3; done) | (cases iaK_isIa k3; done) | (simp at k3; done)
  | makeMap t r =>
    cases r <;> simp only [compK, ho, reduceCtorEq] at k3
    repeat' (split at k3)
    all_goals first | (cases k3; done)
  | box t x =>
    simp only [compK, ho] at k3
    split at k3
    · simp only [Option.map_eq_some_iff] at k3
      obtain ⟨_, _, k3⟩ := k3
      split at k3 <;> cases k3
    · cases k3
  | alloc t =>
    simp only [compK, ho] at k3
    split at k3
    · split at k3
      · simp only [Option.some.injEq] at k3
        split at k3 <;> cases k3
      · cases k3
    · cases k3
  | _ =>
    simp only [compK, ho, reduceCtorEq] at k3
    try (repeat' (split at k3))
    all_goals first | (cases k3; done) | (cases iaK_isIa k3; done) | (simp at k3; done)
section
variable [Inhabited LaidBox] {ro : Option Nat} {P : Program} {T : TT} {esc : List Nat} {Q : AExit → St → Prop} {st : St}
/-- A guarded operation without a resolved form. -/
theorem COps.oth {d : Option Nat} {d0 : Nat} {want g : Bool} {q : Oper} {cs : List COp} {x : TV} (hv : gval st d0 want = some g) (hval : g = true → OpVal P q st st x) (h : COps ro P T esc cs Q (st.put d (.opt g x))) : COps ro P T esc ({ dst := d, grd := some (d0, want), k := .other q } :: cs) Q st := by
  intro ops idxs hc
  obtain ⟨i, is, o, rfl, h1, h2, h3⟩ := hc.cons
  unfold compOp at h2
  split at h2
  · rename_i g' hg
    simp only [COp.mk.injEq] at h2
    obtain ⟨e1, e2, e3⟩ := h2
    subst e1
    subst e2
    have hq : o = q := by
      cases hk : compK T esc o with
      | none => rw [hk] at e3; simpa using e3
      | some k =>
        rw [hk] at e3
        simp only [Option.getD_some] at e3
        rw [e3] at hk
        exact (compK_other hk).elim
    subst hq
    exact AOps.guarded h1 (gval_ok hg hv) hval (h ops is h3)
  · simp at h2
end
end Go.Am
namespace Go.Proofs.LxA
open Go Go.Am Go.Proofs Go.RowKit
set_option linter.unusedSectionVars false
def isNeq (o : Oper) : Bool := match o.op with
  | .binOp .neq t _ _ _ => Nat.beq t 35
  | _ => false
def noOper : Oper := ⟨none, .move (.func 0), 0, "", #[], none⟩
noncomputable def oth8 : Oper := ((opsC (Tryd.f8.body.getD .skip)).find? isNeq).getD noOper
def neqArgs (o : Oper) : Option (TypeId × Operand × Operand) := match o.op with
  | .binOp .neq t x y _ => some (t, x, y)
  | _ => none
theorem oth8_args : neqArgs oth8 = some (35, .tmp 84, .tmp 86) := by kernel_rfl
theorem oth8_op : ∃ t, oth8.op = .binOp .neq 35 (.tmp 84) (.tmp 86) t := by
  have h := oth8_args
  unfold neqArgs at h
  split at h
  · rename_i t x y u hu
    cases h
    exact ⟨_, hu⟩
  · cases h



/-- euclid/euclidlaw24.LexerNames (3 parameters, 0 captured, 142 slots) -/
def esc8 : List Nat := []
def cc8_l0 : CC :=
  .seq (.seq (.reg false [⟨(some 26), none, .mv (.t 9)⟩, ⟨(some 27), none, .mv (.t 0)⟩, ⟨(some 28), none, .qr .rem (.t 27) (.c (.int .u8 70))⟩, ⟨(some 29), none, .cv .i64 (.t 28)⟩, ⟨(some 30), none, .ar .add (.t 29) (.c (.int .i64 1))⟩, ⟨(some 31), none, .ic .lss (.t 26) (.t 30)⟩])
    (.cond (.t 31)
     (.skip)
     (.exit 0)))
    (.seq (.block 1 (.reg false [⟨(some 34), none, .mv (.t 8)⟩, ⟨(some 35), none, .mv (.t 7)⟩, ⟨(some 36), none, .mv (.t 9)⟩, ⟨(some 37), none, .ar .mul (.t 36) (.c (.int .i64 7))⟩, ⟨(some 38), none, .mv (.t 1)⟩, ⟨(some 39), none, .cv .i64 (.t 38)⟩, ⟨(some 40), none, .ar .add (.t 37) (.t 39)⟩, ⟨(some 41), none, .qr .rem (.t 40) (.c (.int .i64 11))⟩, ⟨(some 42), none, .mv (.t 9)⟩, ⟨(some 43), none, .ar .mul (.t 42) (.c (.int .i64 7))⟩, ⟨(some 44), none, .mv (.t 1)⟩, ⟨(some 45), none, .cv .i64 (.t 44)⟩, ⟨(some 46), none, .ar .add (.t 43) (.t 45)⟩, ⟨(some 47), none, .qr .rem (.t 46) (.c (.int .i64 11))⟩, ⟨(some 48), none, .ar .add (.t 47) (.c (.int .i64 1))⟩, ⟨(some 49), none, .ss (.t 35) (some (.t 41)) (some (.t 48))⟩, ⟨(some 50), none, .cat (.t 34) (.t 49)⟩, ⟨(some 8), none, .mv (.t 50)⟩]))
    (.reg false [⟨(some 32), none, .mv (.t 9)⟩, ⟨(some 33), none, .ar .add (.t 32) (.c (.int .i64 1))⟩, ⟨(some 9), none, .mv (.t 33)⟩]))
def cc8_l1 : CC :=
  .seq (.seq (.reg false [⟨(some 89), none, .mv (.t 14)⟩, ⟨(some 90), none, .mv (.t 2)⟩, ⟨(some 91), none, .qr .rem (.t 90) (.c (.int .u8 9))⟩, ⟨(some 92), none, .cv .i64 (.t 91)⟩, ⟨(some 93), none, .ar .add (.t 92) (.c (.int .i64 1))⟩, ⟨(some 94), none, .ic .lss (.t 89) (.t 93)⟩])
    (.cond (.t 94)
     (.skip)
     (.exit 2)))
    (.seq (.block 3 (.reg false [⟨(some 97), none, .mv (.t 13)⟩, ⟨(some 98), none, .cat (.t 97) (.c (.str [55]))⟩, ⟨(some 13), none, .mv (.t 98)⟩]))
    (.reg false [⟨(some 95), none, .mv (.t 14)⟩, ⟨(some 96), none, .ar .add (.t 95) (.c (.int .i64 1))⟩, ⟨(some 14), none, .mv (.t 96)⟩]))
noncomputable def cc8 : CC :=
  .seq (.reg false [⟨(some 6), none, .mv (.c (.bool false))⟩])
  (.seq (.reg false [⟨(some 7), none, .mv (.c (.str [97, 98, 99, 88, 89, 90, 95, 48, 49, 57, 39]))⟩])
  (.seq (.reg false [⟨(some 17), none, .mv (.t 7)⟩, ⟨(some 18), none, .mv (.t 1)⟩, ⟨(some 19), none, .cv .i64 (.t 18)⟩, ⟨(some 20), none, .qr .rem (.t 19) (.c (.int .i64 6))⟩, ⟨(some 21), none, .mv (.t 1)⟩, ⟨(some 22), none, .cv .i64 (.t 21)⟩, ⟨(some 23), none, .qr .rem (.t 22) (.c (.int .i64 6))⟩, ⟨(some 24), none, .ar .add (.t 23) (.c (.int .i64 1))⟩, ⟨(some 25), none, .ss (.t 17) (some (.t 20)) (some (.t 24))⟩, ⟨(some 8), none, .mv (.t 25)⟩])
  (.seq (.seq (.reg false [⟨(some 9), none, .mv (.c (.int .i64 1))⟩])
  (.block 0 (.loop (cc8_l0))))
  (.seq (.seq (.reg false [⟨(some 51), none, .mv (.t 8)⟩, ⟨(some 52), none, .call 15 [(.t 51)]⟩])
  (.cond (.t 52)
   (.seq (.reg false [⟨(some 6), none, .mv (.c (.bool false))⟩])
   (.ret))
   (.skip)))
  (.seq (.reg false [⟨(some 54), none, .mv (.t 8)⟩, ⟨(some 55), none, .cat (.c (.str [32])) (.t 54)⟩, ⟨(some 56), none, .call 12 [(.t 55), (.c (.sl .full 1 []))]⟩, ⟨(some 53), none, .mv (.t 56)⟩, ⟨(some 57), none, .ex (.t 53) 0⟩, ⟨(some 58), none, .ex (.t 53) 1⟩, ⟨(some 59), none, .ex (.t 53) 2⟩, ⟨(some 10), none, .mv (.t 57)⟩, ⟨(some 11), none, .mv (.t 58)⟩, ⟨(some 12), none, .mv (.t 59)⟩])
  (.seq (.seq (.reg false [⟨(some 60), none, .mv (.t 8)⟩, ⟨(some 61), none, .ln true (.t 60)⟩, ⟨(some 62), none, .ic .gtr (.t 61) (.c (.int .i64 64))⟩])
  (.cond (.t 62)
   (.seq (.reg false [⟨(some 63), none, .mv (.t 12)⟩, ⟨(some 64), none, .ic .neq (.t 63) (.c (.int .i64 5))⟩, ⟨(some 65), none, .mv (.t 64)⟩, ⟨(some 66), (some (65, false)), .mv (.t 11)⟩, ⟨(some 67), (some (65, false)), .ic .neq (.t 66) (.c (.int .i64 1))⟩, ⟨(some 68), none, .pick (.t 65) (.c (.bool true)) (.t 67)⟩, ⟨(some 69), none, .mv (.t 68)⟩, ⟨(some 70), (some (69, false)), .mv (.t 10)⟩, ⟨(some 71), (some (69, false)), .ln false (.t 70)⟩, ⟨(some 72), (some (69, false)), .ic .neq (.t 71) (.c (.int .i64 0))⟩, ⟨(some 73), none, .pick (.t 69) (.c (.bool true)) (.t 72)⟩])
   (.cond (.t 73)
    (.seq (.reg false [⟨(some 6), none, .mv (.c (.bool false))⟩])
    (.ret))
    (.skip)))
   (.seq (.reg false [⟨(some 74), none, .mv (.t 12)⟩, ⟨(some 75), none, .ic .neq (.t 74) (.c (.int .i64 0))⟩, ⟨(some 76), none, .mv (.t 75)⟩, ⟨(some 77), (some (76, false)), .mv (.t 10)⟩, ⟨(some 78), (some (76, false)), .ln false (.t 77)⟩, ⟨(some 79), (some (76, false)), .ic .neq (.t 78) (.c (.int .i64 2))⟩, ⟨(some 80), none, .pick (.t 76) (.c (.bool true)) (.t 79)⟩, ⟨(some 81), none, .mv (.t 80)⟩, ⟨(some 82), (some (81, false)), .mv (.t 10)⟩, ⟨(some 83), (some (81, false)), .ia 3 (.t 82) (.c (.int .i64 0))⟩, ⟨(some 84), (some (81, false)), .ld 3 true (.t 83)⟩, ⟨(some 85), (some (81, false)), .mv (.t 8)⟩, ⟨(some 86), (some (81, false)), .bd [(.int .i64 0), (.str []), (.int .i64 0)] [(0, 1, (.c (.int .i64 0))), (1, 1, (.t 85)), (2, 1, (.c (.int .i64 1)))]⟩, ⟨(some 87), (some (81, false)), .other oth8⟩, ⟨(some 88), none, .pick (.t 81) (.c (.bool true)) (.t 87)⟩])
   (.cond (.t 88)
    (.seq (.reg false [⟨(some 6), none, .mv (.c (.bool false))⟩])
    (.ret))
    (.skip)))))
  (.seq (.reg false [⟨(some 13), none, .mv (.c (.str []))⟩])
  (.seq (.seq (.reg false [⟨(some 14), none, .mv (.c (.int .i64 0))⟩])
  (.block 2 (.loop (cc8_l1))))
  (.seq (.reg false [⟨(some 100), none, .mv (.t 13)⟩, ⟨(some 101), none, .call 12 [(.t 100), (.c (.sl .full 1 []))]⟩, ⟨(some 99), none, .mv (.t 101)⟩, ⟨(some 102), none, .ex (.t 99) 0⟩, ⟨(some 103), none, .ex (.t 99) 1⟩, ⟨(some 104), none, .ex (.t 99) 2⟩, ⟨(some 15), none, .mv (.t 102)⟩, ⟨(some 11), none, .mv (.t 103)⟩, ⟨(some 16), none, .mv (.t 104)⟩])
  (.seq (.seq (.reg false [⟨(some 105), none, .mv (.t 13)⟩, ⟨(some 106), none, .ln true (.t 105)⟩, ⟨(some 107), none, .ic .gtr (.t 106) (.c (.int .i64 6))⟩])
  (.cond (.t 107)
   (.seq (.reg false [⟨(some 108), none, .call 11 []⟩, ⟨(some 109), none, .mv (.t 108)⟩, ⟨(some 110), (some (109, true)), .mv (.t 16)⟩, ⟨(some 111), (some (109, true)), .ic .eql (.t 110) (.c (.int .i64 5))⟩, ⟨(some 112), none, .pick (.t 109) (.t 111) (.c (.bool false))⟩, ⟨(some 113), none, .mv (.t 112)⟩, ⟨(some 114), (some (113, true)), .mv (.t 11)⟩, ⟨(some 115), (some (113, true)), .ic .eql (.t 114) (.c (.int .i64 0))⟩, ⟨(some 116), none, .pick (.t 113) (.t 115) (.c (.bool false))⟩, ⟨(some 6), none, .mv (.t 116)⟩])
   (.ret))
   (.skip)))
  (.seq (.reg false [⟨(some 117), none, .call 11 []⟩, ⟨(some 118), none, .mv (.t 117)⟩, ⟨(some 119), (some (118, true)), .mv (.t 16)⟩, ⟨(some 120), (some (118, true)), .ic .eql (.t 119) (.c (.int .i64 0))⟩, ⟨(some 121), none, .pick (.t 118) (.t 120) (.c (.bool false))⟩, ⟨(some 122), none, .mv (.t 121)⟩, ⟨(some 123), (some (122, true)), .mv (.t 15)⟩, ⟨(some 124), (some (122, true)), .ln false (.t 123)⟩, ⟨(some 125), (some (122, true)), .ic .eql (.t 124) (.c (.int .i64 2))⟩, ⟨(some 126), none, .pick (.t 122) (.t 125) (.c (.bool false))⟩, ⟨(some 127), none, .mv (.t 126)⟩, ⟨(some 128), (some (127, true)), .mv (.t 15)⟩, ⟨(some 129), (some (127, true)), .ia 3 (.t 128) (.c (.int .i64 0))⟩, ⟨(some 130), (some (127, true)), .fa 0 (.t 129)⟩, ⟨(some 131), (some (127, true)), .ld 1 false (.t 130)⟩, ⟨(some 132), (some (127, true)), .ic .eql (.t 131) (.c (.int .i64 1))⟩, ⟨(some 133), none, .pick (.t 127) (.t 132) (.c (.bool false))⟩, ⟨(some 134), none, .mv (.t 133)⟩, ⟨(some 135), (some (134, true)), .mv (.t 15)⟩, ⟨(some 136), (some (134, true)), .ia 3 (.t 135) (.c (.int .i64 0))⟩, ⟨(some 137), (some (134, true)), .fa 1 (.t 136)⟩, ⟨(some 138), (some (134, true)), .ld 1 false (.t 137)⟩, ⟨(some 139), (some (134, true)), .mv (.t 13)⟩, ⟨(some 140), (some (134, true)), .sc .eql (.t 138) (.t 139)⟩, ⟨(some 141), none, .pick (.t 134) (.t 140) (.c (.bool false))⟩, ⟨(some 6), none, .mv (.t 141)⟩])
  (.ret))))))))))))
theorem comp8 : comp tt esc8 (Tryd.f8.body.getD .skip) = cc8 := by kernel_rfl
theorem has8 : Has Tryd.prog 8 := ⟨_, Tryd.func8, by kernel_rfl, by decide⟩
theorem enter8 (a0 a1 a2 : AV) {M : Mem} {R : AEnd → Mem → Prop} (h : CWp none Tryd.prog tt esc8 cc8 (Am.Fin Tryd.prog Tryd.f8 R) { tmps := (.v a0 :: .v a1 :: .v a2 :: .junk :: .junk :: .junk :: .junk :: .junk :: .junk :: .junk :: .junk :: .junk :: .junk :: .junk :: .junk :: .junk :: .junk :: .junk :: .junk :: .junk :: .junk :: .junk :: .junk :: .junk :: .junk :: .junk :: .junk :: .junk :: .junk :: .junk :: .junk :: .junk :: .junk :: .junk :: .junk :: .junk :: .junk :: .junk :: .junk :: .junk :: .junk :: .junk :: .junk :: .junk :: .junk :: .junk :: .junk :: .junk :: .junk :: .junk :: .junk :: .junk :: .junk :: .junk :: .junk :: .junk :: .junk :: .junk :: .junk :: .junk :: .junk :: .junk :: .junk :: .junk :: .junk :: .junk :: .junk :: .junk :: .junk :: .junk :: .junk :: .junk :: .junk :: .junk :: .junk :: .junk :: .junk :: .junk :: .junk :: .junk :: .junk :: .junk :: .junk :: .junk :: .junk :: .junk :: .junk :: .junk :: .junk :: .junk :: .junk :: .junk :: .junk :: .junk :: .junk :: .junk :: .junk :: .junk :: .junk :: .junk :: .junk :: .junk :: .junk :: .junk :: .junk :: .junk :: .junk :: .junk :: .junk :: .junk :: .junk :: .junk :: .junk :: .junk :: .junk :: .junk :: .junk :: .junk :: .junk :: .junk :: .junk :: .junk :: .junk :: .junk :: .junk :: .junk :: .junk :: .junk :: .junk :: .junk :: .junk :: .junk :: .junk :: .junk :: .junk :: .junk :: .junk :: .junk :: .junk :: .junk :: .junk :: .junk :: []), loc := [], rows := [], defs := [], M := M }) : ACalls Tryd.prog 8 [a0, a1, a2] M R := ACalls.of 139 cc8 Tryd.func8 (by kernel_rfl) rfl comp8 h

theorem oth8_val {st : St} {k a : Int} {s : List UInt8} {p1 p2 : Prop} (h1 : Am.rd true (st.get (.t 84)) = some (.agg [.int .i64 k, .str s, .int .i64 a], p1)) (hp1 : p1) (h2 : Am.rd true (st.get (.t 86)) = some (.agg [.int .i64 k, .str s, .int .i64 a], p2)) (hp2 : p2) :
    OpVal Tryd.prog oth8 st st (.v (.bool false)) := by
  obtain ⟨t, ho⟩ := oth8_op
  refine .pure fun B E F blk rw ac w hr => ?_
  obtain ⟨l1, e1, r1⟩ := (hr.rd (.t 84) h1 hp1).agg_inv
  obtain ⟨l2, e2, r2⟩ := (hr.rd (.t 86) h2 hp2).agg_inv
  obtain ⟨c1, l1, rfl, a1, r1⟩ := r1.cons_inv
  obtain ⟨c2, l1, rfl, a2, r1⟩ := r1.cons_inv
  obtain ⟨c3, rfl, a3⟩ := r1.one_inv
  obtain ⟨d1, l2, rfl, b1, r2⟩ := r2.cons_inv
  obtain ⟨d2, l2, rfl, b2, r2⟩ := r2.cons_inv
  obtain ⟨d3, rfl, b3⟩ := r2.one_inv
  cases a1.int_inv; cases a3.int_inv; cases b1.int_inv; cases b3.int_inv
  obtain ⟨x1, rfl, hx1⟩ := a2.str_inv
  obtain ⟨x2, rfl, hx2⟩ := b2.str_inv
  have hxx : x1 = x2 := by
    cases x1; cases x2
    congr 1
    apply Array.ext'
    rw [hx1, hx2]
  subst hxx
  refine ⟨.bool false, ?_, Rep.bool _⟩
  simp only [execOp, ho, e1, e2]
  refine run_v ?_
  have hg : Tryd.prog.eqGuardType Tryd.prog.depth 35 = false := by kernel_rfl
  have hs : Tryd.prog.stoodInHeld 35 = false := by kernel_rfl
  have hf : Tryd.prog.fieldsOf 35 = #[{ name := "Kind", type := 3, offset := 0, embedded := false, tag := "", pkgPath := "", byteOffset := 0 }, { name := "Text", type := 9, offset := 1, embedded := false, tag := "", pkgPath := "", byteOffset := 8 }, { name := "At", type := 3, offset := 2, embedded := false, tag := "", pkgPath := "", byteOffset := 24 }] := by
    simp only [Program.fieldsOf, Tryd.underlying35]
  have p3 : ∀ (xs : Array Value) (i : Nat) (v : Value), xs[i]? = some v → (part 3 xs i).run Tryd.prog w = .ok v w := by
    intro xs i v hx
    simp [part, isAgg, run_underlying Tryd.underlying3, hx]
  have p9 : ∀ (xs : Array Value) (i : Nat) (v : Value), xs[i]? = some v → (part 9 xs i).run Tryd.prog w = .ok v w := by
    intro xs i v hx
    simp [part, isAgg, run_underlying Tryd.underlying9, hx]
  have q0 := fun a b c : Value => p3 #[a, b, c] 0 a rfl
  have q1 := fun a b c : Value => p9 #[a, b, c] 1 b rfl
  have q2 := fun a b c : Value => p3 #[a, b, c] 2 c rfl
  simp only [Sem.run_bind, run_eqGuard_agg w _ _ _ _ _ _ hg, Result.andThen_ok, run_neq_struct]
  rw [run_equalIn_agg w 9999 35 _ _ (by rw [hf]; exact Tryd.underlying35) hs, hf]
  simp [Op.eqFields, q0, q1, q2, run_equalIn_int w 9998 3 .i64 .i64 _ _ Tryd.underlying3, run_equalIn_string w 9998 9 _ _ Tryd.underlying9]
end Go.Proofs.LxA
