import Derived.Test.YticifcoffgoajaaDoorLxAT
set_option linter.unusedVariables false
set_option maxRecDepth 100000
namespace Go.Proofs.LxA
open Go Go.Am Go.Proofs
set_option linter.unusedSectionVars false
variable [Inhabited LaidBox]
theorem mixed : Tryd.prog.follows .mixedOrders = true := by kernel_rfl

/-- euclid/euclidlaw24.LexerScans (2 parameters, 0 captured, 50 slots) -/
def esc3 : List Nat := []
def cc3 : CC :=
  .seq (.reg false [⟨(some 4), none, .mv (.c (.bool false))⟩])
  (.seq (.seq (.reg false [⟨(some 11), none, .mv (.t 0)⟩, ⟨(some 12), none, .ln true (.t 11)⟩, ⟨(some 13), none, .ic .gtr (.t 12) (.c (.int .i64 1000))⟩, ⟨(some 14), none, .mv (.t 13)⟩, ⟨(some 15), (some (14, false)), .mv (.t 1)⟩, ⟨(some 16), (some (14, false)), .call 10 [(.t 15)]⟩, ⟨(some 17), (some (14, false)), .no (.t 16)⟩, ⟨(some 18), none, .pick (.t 14) (.c (.bool true)) (.t 17)⟩])
  (.cond (.t 18)
   (.seq (.reg false [⟨(some 19), none, .call 11 []⟩, ⟨(some 4), none, .mv (.t 19)⟩])
   (.ret))
   (.skip)))
  (.seq (.reg false [⟨(some 21), none, .mv (.t 0)⟩, ⟨(some 22), none, .mv (.t 1)⟩, ⟨(some 23), none, .call 12 [(.t 21), (.t 22)]⟩, ⟨(some 20), none, .mv (.t 23)⟩, ⟨(some 24), none, .ex (.t 20) 0⟩, ⟨(some 25), none, .ex (.t 20) 1⟩, ⟨(some 26), none, .ex (.t 20) 2⟩, ⟨(some 5), none, .mv (.t 24)⟩, ⟨(some 6), none, .mv (.t 25)⟩, ⟨(some 7), none, .mv (.t 26)⟩])
  (.seq (.reg false [⟨(some 28), none, .mv (.t 0)⟩, ⟨(some 29), none, .mv (.t 1)⟩, ⟨(some 30), none, .call 13 [(.t 28), (.t 29)]⟩, ⟨(some 27), none, .mv (.t 30)⟩, ⟨(some 31), none, .ex (.t 27) 0⟩, ⟨(some 32), none, .ex (.t 27) 1⟩, ⟨(some 33), none, .ex (.t 27) 2⟩, ⟨(some 8), none, .mv (.t 31)⟩, ⟨(some 9), none, .mv (.t 32)⟩, ⟨(some 10), none, .mv (.t 33)⟩])
  (.seq (.reg false [⟨(some 34), none, .call 11 []⟩, ⟨(some 35), none, .mv (.t 34)⟩, ⟨(some 36), (some (35, true)), .mv (.t 5)⟩, ⟨(some 37), (some (35, true)), .mv (.t 8)⟩, ⟨(some 38), (some (35, true)), .call 14 [(.t 36), (.t 37), (.c (.bool false))]⟩, ⟨(some 39), none, .pick (.t 35) (.t 38) (.c (.bool false))⟩, ⟨(some 40), none, .mv (.t 39)⟩, ⟨(some 41), (some (40, true)), .mv (.t 6)⟩, ⟨(some 42), (some (40, true)), .mv (.t 9)⟩, ⟨(some 43), (some (40, true)), .ic .eql (.t 41) (.t 42)⟩, ⟨(some 44), none, .pick (.t 40) (.t 43) (.c (.bool false))⟩, ⟨(some 45), none, .mv (.t 44)⟩, ⟨(some 46), (some (45, true)), .mv (.t 7)⟩, ⟨(some 47), (some (45, true)), .mv (.t 10)⟩, ⟨(some 48), (some (45, true)), .ic .eql (.t 46) (.t 47)⟩, ⟨(some 49), none, .pick (.t 45) (.t 48) (.c (.bool false))⟩, ⟨(some 4), none, .mv (.t 49)⟩])
  (.ret)))))
theorem comp3 : comp tt esc3 (Tryd.f3.body.getD .skip) = cc3 := by kernel_rfl
theorem has3 : Has Tryd.prog 3 := ⟨_, Tryd.func3, by kernel_rfl, by decide⟩
theorem enter3 (a0 a1 : AV) {M : Mem} {R : AEnd → Mem → Prop} (h : CWp none Tryd.prog tt esc3 cc3 (Am.Fin Tryd.prog Tryd.f3 R) { tmps := (.v a0 :: .v a1 :: .junk :: .junk :: .junk :: .junk :: .junk :: .junk :: .junk :: .junk :: .junk :: .junk :: .junk :: .junk :: .junk :: .junk :: .junk :: .junk :: .junk :: .junk :: .junk :: .junk :: .junk :: .junk :: .junk :: .junk :: .junk :: .junk :: .junk :: .junk :: .junk :: .junk :: .junk :: .junk :: .junk :: .junk :: .junk :: .junk :: .junk :: .junk :: .junk :: .junk :: .junk :: .junk :: .junk :: .junk :: .junk :: .junk :: .junk :: .junk :: []), loc := [], rows := [], defs := [], M := M }) : ACalls Tryd.prog 3 [a0, a1] M R := ACalls.of 48 cc3 Tryd.func3 (by kernel_rfl) rfl comp3 h

/-- euclid/euclidlaw24.LexerWords (1 parameters, 0 captured, 22 slots) -/
def esc4 : List Nat := []
def cc4 : CC :=
  .seq (.reg false [⟨(some 2), none, .mv (.c (.bool false))⟩])
  (.seq (.seq (.reg false [⟨(some 3), none, .mv (.t 0)⟩, ⟨(some 4), none, .ln true (.t 3)⟩, ⟨(some 5), none, .ic .gtr (.t 4) (.c (.int .i64 100))⟩])
  (.cond (.t 5)
   (.seq (.reg false [⟨(some 6), none, .call 11 []⟩, ⟨(some 2), none, .mv (.t 6)⟩])
   (.ret))
   (.skip)))
  (.seq (.reg false [⟨(some 7), none, .call 11 []⟩, ⟨(some 8), none, .mv (.t 7)⟩, ⟨(some 9), (some (8, true)), .mv (.t 0)⟩, ⟨(some 10), (some (8, true)), .call 15 [(.t 9)]⟩, ⟨(some 11), (some (8, true)), .mv (.t 0)⟩, ⟨(some 12), (some (8, true)), .call 16 [(.t 11)]⟩, ⟨(some 13), (some (8, true)), .bc .eql (.t 10) (.t 12)⟩, ⟨(some 14), none, .pick (.t 8) (.t 13) (.c (.bool false))⟩, ⟨(some 15), none, .mv (.t 14)⟩, ⟨(some 16), (some (15, true)), .mv (.t 0)⟩, ⟨(some 17), (some (15, true)), .call 17 [(.t 16)]⟩, ⟨(some 18), (some (15, true)), .mv (.t 0)⟩, ⟨(some 19), (some (15, true)), .call 18 [(.t 18)]⟩, ⟨(some 20), (some (15, true)), .bc .eql (.t 17) (.t 19)⟩, ⟨(some 21), none, .pick (.t 15) (.t 20) (.c (.bool false))⟩, ⟨(some 2), none, .mv (.t 21)⟩])
  (.ret)))
theorem comp4 : comp tt esc4 (Tryd.f4.body.getD .skip) = cc4 := by kernel_rfl
theorem has4 : Has Tryd.prog 4 := ⟨_, Tryd.func4, by kernel_rfl, by decide⟩
theorem enter4 (a0 : AV) {M : Mem} {R : AEnd → Mem → Prop} (h : CWp none Tryd.prog tt esc4 cc4 (Am.Fin Tryd.prog Tryd.f4 R) { tmps := [.v a0, .junk, .junk, .junk, .junk, .junk, .junk, .junk, .junk, .junk, .junk, .junk, .junk, .junk, .junk, .junk, .junk, .junk, .junk, .junk, .junk, .junk], loc := [], rows := [], defs := [], M := M }) : ACalls Tryd.prog 4 [a0] M R := ACalls.of 21 cc4 Tryd.func4 (by kernel_rfl) rfl comp4 h

def lp5_0 (x0 x5 x8 x9 x10 : TV) : List TV := (x0 :: .junk :: .junk :: .junk :: .junk :: x5 :: .junk :: .junk :: x8 :: x9 :: x10 :: .junk :: .junk :: .junk :: .junk :: .junk :: .junk :: .junk :: .junk :: .junk :: .junk :: .junk :: .junk :: .junk :: .junk :: .junk :: .junk :: .junk :: .junk :: .junk :: .junk :: .junk :: .junk :: .junk :: .junk :: .junk :: .junk :: .junk :: .junk :: .junk :: .junk :: .junk :: .junk :: .junk :: .junk :: .junk :: .junk :: .junk :: .junk :: .junk :: .junk :: .junk :: .junk :: .junk :: .junk :: .junk :: .junk :: .junk :: .junk :: .junk :: .junk :: .junk :: .junk :: .junk :: .junk :: .junk :: .junk :: .junk :: .junk :: .junk :: .junk :: .junk :: .junk :: .junk :: .junk :: .junk :: .junk :: .junk :: .junk :: .junk :: .junk :: .junk :: .junk :: .junk :: .junk :: .junk :: .junk :: .junk :: .junk :: .junk :: .junk :: .junk :: .junk :: .junk :: .junk :: .junk :: .junk :: .junk :: .junk :: .junk :: .junk :: .junk :: .junk :: .junk :: .junk :: .junk :: .junk :: .junk :: .junk :: .junk :: .junk :: .junk :: .junk :: .junk :: .junk :: .junk :: .junk :: .junk :: .junk :: .junk :: .junk :: .junk :: .junk :: .junk :: .junk :: .junk :: .junk :: .junk :: .junk :: .junk :: .junk :: .junk :: .junk :: .junk :: .junk :: .junk :: .junk :: .junk :: .junk :: .junk :: .junk :: .junk :: .junk :: .junk :: .junk :: .junk :: .junk :: .junk :: .junk :: .junk :: .junk :: .junk :: .junk :: .junk :: .junk :: .junk :: .junk :: .junk :: .junk :: .junk :: .junk :: .junk :: .junk :: .junk :: .junk :: .junk :: .junk :: .junk :: .junk :: .junk :: [])

def lp5_1 (x0 x5 x8 x9 x10 x11 : TV) : List TV := (x0 :: .junk :: .junk :: .junk :: .junk :: x5 :: .junk :: .junk :: x8 :: x9 :: x10 :: x11 :: .junk :: .junk :: .junk :: .junk :: .junk :: .junk :: .junk :: .junk :: .junk :: .junk :: .junk :: .junk :: .junk :: .junk :: .junk :: .junk :: .junk :: .junk :: .junk :: .junk :: .junk :: .junk :: .junk :: .junk :: .junk :: .junk :: .junk :: .junk :: .junk :: .junk :: .junk :: .junk :: .junk :: .junk :: .junk :: .junk :: .junk :: .junk :: .junk :: .junk :: .junk :: .junk :: .junk :: .junk :: .junk :: .junk :: .junk :: .junk :: .junk :: .junk :: .junk :: .junk :: .junk :: .junk :: .junk :: .junk :: .junk :: .junk :: .junk :: .junk :: .junk :: .junk :: .junk :: .junk :: .junk :: .junk :: .junk :: .junk :: .junk :: .junk :: .junk :: .junk :: .junk :: .junk :: .junk :: .junk :: .junk :: .junk :: .junk :: .junk :: .junk :: .junk :: .junk :: .junk :: .junk :: .junk :: .junk :: .junk :: .junk :: .junk :: .junk :: .junk :: .junk :: .junk :: .junk :: .junk :: .junk :: .junk :: .junk :: .junk :: .junk :: .junk :: .junk :: .junk :: .junk :: .junk :: .junk :: .junk :: .junk :: .junk :: .junk :: .junk :: .junk :: .junk :: .junk :: .junk :: .junk :: .junk :: .junk :: .junk :: .junk :: .junk :: .junk :: .junk :: .junk :: .junk :: .junk :: .junk :: .junk :: .junk :: .junk :: .junk :: .junk :: .junk :: .junk :: .junk :: .junk :: .junk :: .junk :: .junk :: .junk :: .junk :: .junk :: .junk :: .junk :: .junk :: .junk :: .junk :: .junk :: .junk :: .junk :: .junk :: .junk :: .junk :: .junk :: .junk :: .junk :: .junk :: [])

/-- euclid/euclidlaw24.LexerCovers (2 parameters, 0 captured, 170 slots) -/
def esc5 : List Nat := []
def dl5_0 : List COp := [⟨(some 47), none, .fa 2 (.t 11)⟩, ⟨(some 48), none, .ld 1 false (.t 47)⟩, ⟨(some 49), none, .mv (.t 8)⟩, ⟨(some 50), none, .ic .lss (.t 48) (.t 49)⟩, ⟨(some 51), none, .mv (.t 50)⟩, ⟨(some 52), (some (51, false)), .fa 2 (.t 11)⟩, ⟨(some 53), (some (51, false)), .ld 1 false (.t 52)⟩, ⟨(some 54), (some (51, false)), .fa 1 (.t 11)⟩, ⟨(some 55), (some (51, false)), .ld 1 false (.t 54)⟩, ⟨(some 56), (some (51, false)), .ln true (.t 55)⟩, ⟨(some 57), (some (51, false)), .ar .add (.t 53) (.t 56)⟩, ⟨(some 58), (some (51, false)), .mv (.t 0)⟩, ⟨(some 59), (some (51, false)), .ln true (.t 58)⟩, ⟨(some 60), (some (51, false)), .ic .gtr (.t 57) (.t 59)⟩, ⟨(some 61), none, .pick (.t 51) (.c (.bool true)) (.t 60)⟩, ⟨(some 62), none, .mv (.t 61)⟩, ⟨(some 63), (some (62, false)), .mv (.t 0)⟩, ⟨(some 64), (some (62, false)), .fa 2 (.t 11)⟩, ⟨(some 65), (some (62, false)), .ld 1 false (.t 64)⟩, ⟨(some 66), (some (62, false)), .fa 2 (.t 11)⟩, ⟨(some 67), (some (62, false)), .ld 1 false (.t 66)⟩, ⟨(some 68), (some (62, false)), .fa 1 (.t 11)⟩, ⟨(some 69), (some (62, false)), .ld 1 false (.t 68)⟩, ⟨(some 70), (some (62, false)), .ln true (.t 69)⟩, ⟨(some 71), (some (62, false)), .ar .add (.t 67) (.t 70)⟩, ⟨(some 72), (some (62, false)), .ss (.t 63) (some (.t 65)) (some (.t 71))⟩, ⟨(some 73), (some (62, false)), .fa 1 (.t 11)⟩, ⟨(some 74), (some (62, false)), .ld 1 false (.t 73)⟩, ⟨(some 75), (some (62, false)), .sc .neq (.t 72) (.t 74)⟩, ⟨(some 76), none, .pick (.t 62) (.c (.bool true)) (.t 75)⟩]
def dp5_0 : List (List Nat) := [[], [0], [], [1, 2], [3], [4], [5, 4], [4], [7, 4], [8, 4], [6, 9, 4], [4], [11, 4], [10, 12, 4], [4, 13], [14, 4], [15], [15], [17, 15], [15], [19, 15], [15], [21, 15], [22, 15], [20, 23, 15], [16, 18, 24, 15], [15], [26, 15], [25, 27, 15], [15, 28]]
def dk5_0 : List (List Nat) := [[], [], [], [], [], [], [], [], [], [], [], [], [], [], [], [], [], [], [], [], [], [], [], [], [], [], [], [], [], []]
theorem dr5_0 : DrawOk dl5_0 dp5_0 dk5_0 [(0, ⟨(some 47), none, .fa 2 (.t 11)⟩, []), (1, ⟨(some 48), none, .ld 1 false (.t 47)⟩, []), (2, ⟨(some 49), none, .mv (.t 8)⟩, []), (3, ⟨(some 50), none, .ic .lss (.t 48) (.t 49)⟩, []), (4, ⟨(some 51), none, .mv (.t 50)⟩, []), (5, ⟨(some 52), (some (51, false)), .fa 2 (.t 11)⟩, []), (6, ⟨(some 53), (some (51, false)), .ld 1 false (.t 52)⟩, []), (7, ⟨(some 54), (some (51, false)), .fa 1 (.t 11)⟩, []), (8, ⟨(some 55), (some (51, false)), .ld 1 false (.t 54)⟩, []), (9, ⟨(some 56), (some (51, false)), .ln true (.t 55)⟩, []), (10, ⟨(some 57), (some (51, false)), .ar .add (.t 53) (.t 56)⟩, []), (11, ⟨(some 58), (some (51, false)), .mv (.t 0)⟩, []), (12, ⟨(some 59), (some (51, false)), .ln true (.t 58)⟩, []), (13, ⟨(some 60), (some (51, false)), .ic .gtr (.t 57) (.t 59)⟩, []), (14, ⟨(some 61), none, .pick (.t 51) (.c (.bool true)) (.t 60)⟩, []), (15, ⟨(some 62), none, .mv (.t 61)⟩, []), (16, ⟨(some 63), (some (62, false)), .mv (.t 0)⟩, []), (17, ⟨(some 64), (some (62, false)), .fa 2 (.t 11)⟩, []), (18, ⟨(some 65), (some (62, false)), .ld 1 false (.t 64)⟩, []), (19, ⟨(some 66), (some (62, false)), .fa 2 (.t 11)⟩, []), (20, ⟨(some 67), (some (62, false)), .ld 1 false (.t 66)⟩, []), (21, ⟨(some 68), (some (62, false)), .fa 1 (.t 11)⟩, []), (22, ⟨(some 69), (some (62, false)), .ld 1 false (.t 68)⟩, []), (23, ⟨(some 70), (some (62, false)), .ln true (.t 69)⟩, []), (24, ⟨(some 71), (some (62, false)), .ar .add (.t 67) (.t 70)⟩, []), (25, ⟨(some 72), (some (62, false)), .ss (.t 63) (some (.t 65)) (some (.t 71))⟩, []), (26, ⟨(some 73), (some (62, false)), .fa 1 (.t 11)⟩, []), (27, ⟨(some 74), (some (62, false)), .ld 1 false (.t 73)⟩, []), (28, ⟨(some 75), (some (62, false)), .sc .neq (.t 72) (.t 74)⟩, []), (29, ⟨(some 76), none, .pick (.t 62) (.c (.bool true)) (.t 75)⟩, [])] := ⟨⟨[0, 1, 2, 3, 4, 5, 6, 7, 8, 9, 10, 11, 12, 13, 14, 15, 16, 17, 18, 19, 20, 21, 22, 23, 24, 25, 26, 27, 28, 29], rfl, by kernel_rfl, by kernel_rfl⟩, by kernel_rfl⟩
def cc5_l1 : CC :=
  .seq (.seq (.reg false [⟨(some 95), none, .mv (.t 8)⟩, ⟨(some 96), none, .fa 2 (.t 11)⟩, ⟨(some 97), none, .ld 1 false (.t 96)⟩, ⟨(some 98), none, .ic .lss (.t 95) (.t 97)⟩])
       (.cond (.t 98)
        (.skip)
        (.exit 2)))
       (.seq (.block 3 (.seq (.reg false [⟨(some 101), none, .mv (.t 0)⟩, ⟨(some 102), none, .mv (.t 8)⟩, ⟨(some 103), none, .si (.t 101) (.t 102)⟩, ⟨(some 12), none, .mv (.t 103)⟩])
        (.seq (.seq (.reg false [⟨(some 104), none, .mv (.t 12)⟩, ⟨(some 105), none, .ic .eql (.t 104) (.c (.int .u8 10))⟩])
        (.cond (.t 105)
         (.seq (.reg false [⟨(some 9), none, .mv (.c (.bool false))⟩])
         (.exit 3))
         (.skip)))
        (.seq (.seq (.reg false [⟨(some 106), none, .mv (.t 9)⟩, ⟨(some 107), none, .no (.t 106)⟩, ⟨(some 108), none, .mv (.t 107)⟩, ⟨(some 109), (some (108, true)), .mv (.t 12)⟩, ⟨(some 110), (some (108, true)), .ic .eql (.t 109) (.c (.int .u8 45))⟩, ⟨(some 111), none, .pick (.t 108) (.t 110) (.c (.bool false))⟩, ⟨(some 112), none, .mv (.t 111)⟩, ⟨(some 113), (some (112, true)), .mv (.t 8)⟩, ⟨(some 114), (some (112, true)), .ar .add (.t 113) (.c (.int .i64 1))⟩, ⟨(some 115), (some (112, true)), .fa 2 (.t 11)⟩, ⟨(some 116), (some (112, true)), .ld 1 false (.t 115)⟩, ⟨(some 117), (some (112, true)), .ic .lss (.t 114) (.t 116)⟩, ⟨(some 118), none, .pick (.t 112) (.t 117) (.c (.bool false))⟩, ⟨(some 119), none, .mv (.t 118)⟩, ⟨(some 120), (some (119, true)), .mv (.t 0)⟩, ⟨(some 121), (some (119, true)), .mv (.t 8)⟩, ⟨(some 122), (some (119, true)), .ar .add (.t 121) (.c (.int .i64 1))⟩, ⟨(some 123), (some (119, true)), .si (.t 120) (.t 122)⟩, ⟨(some 124), (some (119, true)), .ic .eql (.t 123) (.c (.int .u8 45))⟩, ⟨(some 125), none, .pick (.t 119) (.t 124) (.c (.bool false))⟩])
        (.cond (.t 125)
         (.reg false [⟨(some 9), none, .mv (.c (.bool true))⟩])
         (.skip)))
        (.seq (.reg false [⟨(some 126), none, .mv (.t 9)⟩, ⟨(some 127), none, .no (.t 126)⟩, ⟨(some 128), none, .mv (.t 127)⟩, ⟨(some 129), (some (128, true)), .mv (.t 12)⟩, ⟨(some 130), (some (128, true)), .ic .neq (.t 129) (.c (.int .u8 32))⟩, ⟨(some 131), none, .pick (.t 128) (.t 130) (.c (.bool false))⟩, ⟨(some 132), none, .mv (.t 131)⟩, ⟨(some 133), (some (132, true)), .mv (.t 12)⟩, ⟨(some 134), (some (132, true)), .ic .neq (.t 133) (.c (.int .u8 9))⟩, ⟨(some 135), none, .pick (.t 132) (.t 134) (.c (.bool false))⟩, ⟨(some 136), none, .mv (.t 135)⟩, ⟨(some 137), (some (136, true)), .mv (.t 12)⟩, ⟨(some 138), (some (136, true)), .ic .neq (.t 137) (.c (.int .u8 13))⟩, ⟨(some 139), none, .pick (.t 136) (.t 138) (.c (.bool false))⟩])
        (.cond (.t 139)
         (.seq (.reg false [⟨(some 4), none, .mv (.c (.bool false))⟩])
         (.ret))
         (.skip)))))))
       (.reg false [⟨(some 99), none, .mv (.t 8)⟩, ⟨(some 100), none, .ar .add (.t 99) (.c (.int .i64 1))⟩, ⟨(some 8), none, .mv (.t 100)⟩]))
def cc5_l0 : CC :=
  .seq (.seq (.reg false [⟨(some 37), none, .mv (.t 10)⟩, ⟨(some 38), none, .mv (.t 5)⟩, ⟨(some 39), none, .ln false (.t 38)⟩, ⟨(some 40), none, .ic .lss (.t 37) (.t 39)⟩])
    (.cond (.t 40)
     (.skip)
     (.exit 0)))
    (.seq (.block 1 (.seq (.reg false [⟨(some 43), none, .mv (.t 5)⟩, ⟨(some 44), none, .mv (.t 10)⟩, ⟨(some 45), none, .ia 3 (.t 43) (.t 44)⟩, ⟨(some 46), none, .ld 3 true (.t 45)⟩, ⟨(some 11), none, .al 35 [(.int .i64 0), (.str []), (.int .i64 0)]⟩, ⟨none, none, .sto 3 (.t 11) (.t 46)⟩])
     (.seq (.seq (.dreg dl5_0 dp5_0)
     (.cond (.t 76)
      (.seq (.reg false [⟨(some 4), none, .mv (.c (.bool false))⟩])
      (.ret))
      (.skip)))
     (.seq (.seq (.reg false [⟨(some 77), none, .fa 0 (.t 11)⟩, ⟨(some 78), none, .ld 1 false (.t 77)⟩, ⟨(some 79), none, .ic .eql (.t 78) (.c (.int .i64 4))⟩, ⟨(some 80), none, .mv (.t 10)⟩, ⟨(some 81), none, .mv (.t 5)⟩, ⟨(some 82), none, .ln false (.t 81)⟩, ⟨(some 83), none, .ar .sub (.t 82) (.c (.int .i64 1))⟩, ⟨(some 84), none, .ic .eql (.t 80) (.t 83)⟩, ⟨(some 85), none, .bc .neq (.t 79) (.t 84)⟩, ⟨(some 86), none, .mv (.t 85)⟩, ⟨(some 87), (some (86, false)), .fa 1 (.t 11)⟩, ⟨(some 88), (some (86, false)), .ld 1 false (.t 87)⟩, ⟨(some 89), (some (86, false)), .sc .eql (.t 88) (.c (.str []))⟩, ⟨(some 90), (some (86, false)), .fa 0 (.t 11)⟩, ⟨(some 91), (some (86, false)), .ld 1 false (.t 90)⟩, ⟨(some 92), (some (86, false)), .ic .eql (.t 91) (.c (.int .i64 4))⟩, ⟨(some 93), (some (86, false)), .bc .neq (.t 89) (.t 92)⟩, ⟨(some 94), none, .pick (.t 86) (.c (.bool true)) (.t 93)⟩])
     (.cond (.t 94)
      (.seq (.reg false [⟨(some 4), none, .mv (.c (.bool false))⟩])
      (.ret))
      (.skip)))
     (.seq (.block 2 (.loop (cc5_l1)))
     (.seq (.seq (.reg false [⟨(some 140), none, .mv (.t 9)⟩, ⟨(some 141), none, .mv (.t 140)⟩, ⟨(some 142), (some (141, true)), .fa 0 (.t 11)⟩, ⟨(some 143), (some (141, true)), .ld 1 false (.t 142)⟩, ⟨(some 144), (some (141, true)), .ic .neq (.t 143) (.c (.int .i64 4))⟩, ⟨(some 145), none, .pick (.t 141) (.t 144) (.c (.bool false))⟩])
     (.cond (.t 145)
      (.seq (.reg false [⟨(some 4), none, .mv (.c (.bool false))⟩])
      (.ret))
      (.skip)))
     (.reg false [⟨(some 146), none, .fa 2 (.t 11)⟩, ⟨(some 147), none, .ld 1 false (.t 146)⟩, ⟨(some 148), none, .fa 1 (.t 11)⟩, ⟨(some 149), none, .ld 1 false (.t 148)⟩, ⟨(some 150), none, .ln true (.t 149)⟩, ⟨(some 151), none, .ar .add (.t 147) (.t 150)⟩, ⟨(some 8), none, .mv (.t 151)⟩])))))))
    (.reg false [⟨(some 41), none, .mv (.t 10)⟩, ⟨(some 42), none, .ar .add (.t 41) (.c (.int .i64 1))⟩, ⟨(some 10), none, .mv (.t 42)⟩]))
def cc5 : CC :=
  .seq (.reg false [⟨(some 4), none, .mv (.c (.bool false))⟩])
  (.seq (.seq (.reg false [⟨(some 13), none, .mv (.t 0)⟩, ⟨(some 14), none, .ln true (.t 13)⟩, ⟨(some 15), none, .ic .gtr (.t 14) (.c (.int .i64 1000))⟩, ⟨(some 16), none, .mv (.t 15)⟩, ⟨(some 17), (some (16, false)), .mv (.t 1)⟩, ⟨(some 18), (some (16, false)), .call 10 [(.t 17)]⟩, ⟨(some 19), (some (16, false)), .no (.t 18)⟩, ⟨(some 20), none, .pick (.t 16) (.c (.bool true)) (.t 19)⟩])
  (.cond (.t 20)
   (.seq (.reg false [⟨(some 21), none, .call 11 []⟩, ⟨(some 4), none, .mv (.t 21)⟩])
   (.ret))
   (.skip)))
  (.seq (.reg false [⟨(some 23), none, .mv (.t 0)⟩, ⟨(some 24), none, .mv (.t 1)⟩, ⟨(some 25), none, .call 12 [(.t 23), (.t 24)]⟩, ⟨(some 22), none, .mv (.t 25)⟩, ⟨(some 26), none, .ex (.t 22) 0⟩, ⟨(some 27), none, .ex (.t 22) 1⟩, ⟨(some 28), none, .ex (.t 22) 2⟩, ⟨(some 5), none, .mv (.t 26)⟩, ⟨(some 6), none, .mv (.t 27)⟩, ⟨(some 7), none, .mv (.t 28)⟩])
  (.seq (.seq (.reg false [⟨(some 29), none, .mv (.t 7)⟩, ⟨(some 30), none, .ic .neq (.t 29) (.c (.int .i64 0))⟩])
  (.cond (.t 30)
   (.seq (.reg false [⟨(some 31), none, .call 11 []⟩, ⟨(some 32), none, .mv (.t 31)⟩, ⟨(some 33), (some (32, true)), .mv (.t 5)⟩, ⟨(some 34), (some (32, true)), .ln false (.t 33)⟩, ⟨(some 35), (some (32, true)), .ic .eql (.t 34) (.c (.int .i64 0))⟩, ⟨(some 36), none, .pick (.t 32) (.t 35) (.c (.bool false))⟩, ⟨(some 4), none, .mv (.t 36)⟩])
   (.ret))
   (.skip)))
  (.seq (.reg false [⟨(some 8), none, .mv (.c (.int .i64 0))⟩, ⟨(some 9), none, .mv (.c (.bool false))⟩])
  (.seq (.seq (.reg false [⟨(some 10), none, .mv (.c (.int .i64 0))⟩])
  (.block 0 (.loop (cc5_l0))))
  (.seq (.reg false [⟨(some 152), none, .call 11 []⟩, ⟨(some 153), none, .mv (.t 152)⟩, ⟨(some 154), (some (153, true)), .mv (.t 5)⟩, ⟨(some 155), (some (153, true)), .ln false (.t 154)⟩, ⟨(some 156), (some (153, true)), .ic .gtr (.t 155) (.c (.int .i64 0))⟩, ⟨(some 157), none, .pick (.t 153) (.t 156) (.c (.bool false))⟩, ⟨(some 158), none, .mv (.t 157)⟩, ⟨(some 159), (some (158, true)), .mv (.t 5)⟩, ⟨(some 160), (some (158, true)), .mv (.t 5)⟩, ⟨(some 161), (some (158, true)), .ln false (.t 160)⟩, ⟨(some 162), (some (158, true)), .ar .sub (.t 161) (.c (.int .i64 1))⟩, ⟨(some 163), (some (158, true)), .ia 3 (.t 159) (.t 162)⟩, ⟨(some 164), (some (158, true)), .fa 2 (.t 163)⟩, ⟨(some 165), (some (158, true)), .ld 1 false (.t 164)⟩, ⟨(some 166), (some (158, true)), .mv (.t 0)⟩, ⟨(some 167), (some (158, true)), .ln true (.t 166)⟩, ⟨(some 168), (some (158, true)), .ic .eql (.t 165) (.t 167)⟩, ⟨(some 169), none, .pick (.t 158) (.t 168) (.c (.bool false))⟩, ⟨(some 4), none, .mv (.t 169)⟩])
  (.ret)))))))
theorem comp5 : comp tt esc5 (Tryd.f5.body.getD .skip) = cc5 := by kernel_rfl
theorem has5 : Has Tryd.prog 5 := ⟨_, Tryd.func5, by kernel_rfl, by decide⟩
theorem enter5 (a0 a1 : AV) {M : Mem} {R : AEnd → Mem → Prop} (h : CWp none Tryd.prog tt esc5 cc5 (Am.Fin Tryd.prog Tryd.f5 R) { tmps := (.v a0 :: .v a1 :: .junk :: .junk :: .junk :: .junk :: .junk :: .junk :: .junk :: .junk :: .junk :: .junk :: .junk :: .junk :: .junk :: .junk :: .junk :: .junk :: .junk :: .junk :: .junk :: .junk :: .junk :: .junk :: .junk :: .junk :: .junk :: .junk :: .junk :: .junk :: .junk :: .junk :: .junk :: .junk :: .junk :: .junk :: .junk :: .junk :: .junk :: .junk :: .junk :: .junk :: .junk :: .junk :: .junk :: .junk :: .junk :: .junk :: .junk :: .junk :: .junk :: .junk :: .junk :: .junk :: .junk :: .junk :: .junk :: .junk :: .junk :: .junk :: .junk :: .junk :: .junk :: .junk :: .junk :: .junk :: .junk :: .junk :: .junk :: .junk :: .junk :: .junk :: .junk :: .junk :: .junk :: .junk :: .junk :: .junk :: .junk :: .junk :: .junk :: .junk :: .junk :: .junk :: .junk :: .junk :: .junk :: .junk :: .junk :: .junk :: .junk :: .junk :: .junk :: .junk :: .junk :: .junk :: .junk :: .junk :: .junk :: .junk :: .junk :: .junk :: .junk :: .junk :: .junk :: .junk :: .junk :: .junk :: .junk :: .junk :: .junk :: .junk :: .junk :: .junk :: .junk :: .junk :: .junk :: .junk :: .junk :: .junk :: .junk :: .junk :: .junk :: .junk :: .junk :: .junk :: .junk :: .junk :: .junk :: .junk :: .junk :: .junk :: .junk :: .junk :: .junk :: .junk :: .junk :: .junk :: .junk :: .junk :: .junk :: .junk :: .junk :: .junk :: .junk :: .junk :: .junk :: .junk :: .junk :: .junk :: .junk :: .junk :: .junk :: .junk :: .junk :: .junk :: .junk :: .junk :: .junk :: .junk :: .junk :: .junk :: .junk :: .junk :: .junk :: .junk :: .junk :: .junk :: .junk :: .junk :: []), loc := [], rows := [], defs := [], M := M }) : ACalls Tryd.prog 5 [a0, a1] M R := ACalls.of 168 cc5 Tryd.func5 (by kernel_rfl) rfl comp5 h

def lp6_0 (x1 x5 x8 x9 : TV) : List TV := (.junk :: x1 :: .junk :: .junk :: .junk :: x5 :: .junk :: .junk :: x8 :: x9 :: .junk :: .junk :: .junk :: .junk :: .junk :: .junk :: .junk :: .junk :: .junk :: .junk :: .junk :: .junk :: .junk :: .junk :: .junk :: .junk :: .junk :: .junk :: .junk :: .junk :: .junk :: .junk :: .junk :: .junk :: .junk :: .junk :: .junk :: .junk :: .junk :: .junk :: .junk :: .junk :: .junk :: .junk :: .junk :: .junk :: .junk :: .junk :: .junk :: .junk :: .junk :: .junk :: .junk :: .junk :: .junk :: .junk :: .junk :: .junk :: .junk :: .junk :: .junk :: .junk :: .junk :: .junk :: .junk :: .junk :: [])

/-- euclid/euclidlaw24.LexerBack (2 parameters, 0 captured, 66 slots) -/
def esc6 : List Nat := []
def cc6_l0 : CC :=
  .seq (.seq (.reg false [⟨(some 32), none, .mv (.t 9)⟩, ⟨(some 33), none, .mv (.t 5)⟩, ⟨(some 34), none, .ln false (.t 33)⟩, ⟨(some 35), none, .ic .lss (.t 32) (.t 34)⟩])
    (.cond (.t 35)
     (.skip)
     (.exit 0)))
    (.seq (.block 1 (.seq (.seq (.reg false [⟨(some 38), none, .mv (.t 9)⟩, ⟨(some 39), none, .ic .gtr (.t 38) (.c (.int .i64 0))⟩])
     (.cond (.t 39)
      (.reg false [⟨(some 40), none, .mv (.t 8)⟩, ⟨(some 41), none, .cat (.t 40) (.c (.str [32]))⟩, ⟨(some 8), none, .mv (.t 41)⟩])
      (.skip)))
     (.reg false [⟨(some 42), none, .mv (.t 8)⟩, ⟨(some 43), none, .mv (.t 5)⟩, ⟨(some 44), none, .mv (.t 9)⟩, ⟨(some 45), none, .ia 3 (.t 43) (.t 44)⟩, ⟨(some 46), none, .fa 1 (.t 45)⟩, ⟨(some 47), none, .ld 1 false (.t 46)⟩, ⟨(some 48), none, .cat (.t 42) (.t 47)⟩, ⟨(some 8), none, .mv (.t 48)⟩])))
    (.reg false [⟨(some 36), none, .mv (.t 9)⟩, ⟨(some 37), none, .ar .add (.t 36) (.c (.int .i64 1))⟩, ⟨(some 9), none, .mv (.t 37)⟩]))
def cc6 : CC :=
  .seq (.reg false [⟨(some 4), none, .mv (.c (.bool false))⟩])
  (.seq (.seq (.reg false [⟨(some 13), none, .mv (.t 0)⟩, ⟨(some 14), none, .ln true (.t 13)⟩, ⟨(some 15), none, .ic .gtr (.t 14) (.c (.int .i64 1000))⟩, ⟨(some 16), none, .mv (.t 15)⟩, ⟨(some 17), (some (16, false)), .mv (.t 1)⟩, ⟨(some 18), (some (16, false)), .call 10 [(.t 17)]⟩, ⟨(some 19), (some (16, false)), .no (.t 18)⟩, ⟨(some 20), none, .pick (.t 16) (.c (.bool true)) (.t 19)⟩])
  (.cond (.t 20)
   (.seq (.reg false [⟨(some 21), none, .call 11 []⟩, ⟨(some 4), none, .mv (.t 21)⟩])
   (.ret))
   (.skip)))
  (.seq (.reg false [⟨(some 23), none, .mv (.t 0)⟩, ⟨(some 24), none, .mv (.t 1)⟩, ⟨(some 25), none, .call 12 [(.t 23), (.t 24)]⟩, ⟨(some 22), none, .mv (.t 25)⟩, ⟨(some 26), none, .ex (.t 22) 0⟩, ⟨(some 27), none, .ex (.t 22) 1⟩, ⟨(some 28), none, .ex (.t 22) 2⟩, ⟨(some 5), none, .mv (.t 26)⟩, ⟨(some 6), none, .mv (.t 27)⟩, ⟨(some 7), none, .mv (.t 28)⟩])
  (.seq (.seq (.reg false [⟨(some 29), none, .mv (.t 7)⟩, ⟨(some 30), none, .ic .neq (.t 29) (.c (.int .i64 0))⟩])
  (.cond (.t 30)
   (.seq (.reg false [⟨(some 31), none, .call 11 []⟩, ⟨(some 4), none, .mv (.t 31)⟩])
   (.ret))
   (.skip)))
  (.seq (.reg false [⟨(some 8), none, .mv (.c (.str []))⟩])
  (.seq (.seq (.reg false [⟨(some 9), none, .mv (.c (.int .i64 0))⟩])
  (.block 0 (.loop (cc6_l0))))
  (.seq (.reg false [⟨(some 50), none, .mv (.t 8)⟩, ⟨(some 51), none, .mv (.t 1)⟩, ⟨(some 52), none, .call 12 [(.t 50), (.t 51)]⟩, ⟨(some 49), none, .mv (.t 52)⟩, ⟨(some 53), none, .ex (.t 49) 0⟩, ⟨(some 54), none, .ex (.t 49) 1⟩, ⟨(some 55), none, .ex (.t 49) 2⟩, ⟨(some 10), none, .mv (.t 53)⟩, ⟨(some 11), none, .mv (.t 54)⟩, ⟨(some 12), none, .mv (.t 55)⟩])
  (.seq (.reg false [⟨(some 56), none, .call 11 []⟩, ⟨(some 57), none, .mv (.t 56)⟩, ⟨(some 58), (some (57, true)), .mv (.t 12)⟩, ⟨(some 59), (some (57, true)), .ic .eql (.t 58) (.c (.int .i64 0))⟩, ⟨(some 60), none, .pick (.t 57) (.t 59) (.c (.bool false))⟩, ⟨(some 61), none, .mv (.t 60)⟩, ⟨(some 62), (some (61, true)), .mv (.t 5)⟩, ⟨(some 63), (some (61, true)), .mv (.t 10)⟩, ⟨(some 64), (some (61, true)), .call 14 [(.t 62), (.t 63), (.c (.bool true))]⟩, ⟨(some 65), none, .pick (.t 61) (.t 64) (.c (.bool false))⟩, ⟨(some 4), none, .mv (.t 65)⟩])
  (.ret))))))))
theorem comp6 : comp tt esc6 (Tryd.f6.body.getD .skip) = cc6 := by kernel_rfl
theorem has6 : Has Tryd.prog 6 := ⟨_, Tryd.func6, by kernel_rfl, by decide⟩
theorem enter6 (a0 a1 : AV) {M : Mem} {R : AEnd → Mem → Prop} (h : CWp none Tryd.prog tt esc6 cc6 (Am.Fin Tryd.prog Tryd.f6 R) { tmps := (.v a0 :: .v a1 :: .junk :: .junk :: .junk :: .junk :: .junk :: .junk :: .junk :: .junk :: .junk :: .junk :: .junk :: .junk :: .junk :: .junk :: .junk :: .junk :: .junk :: .junk :: .junk :: .junk :: .junk :: .junk :: .junk :: .junk :: .junk :: .junk :: .junk :: .junk :: .junk :: .junk :: .junk :: .junk :: .junk :: .junk :: .junk :: .junk :: .junk :: .junk :: .junk :: .junk :: .junk :: .junk :: .junk :: .junk :: .junk :: .junk :: .junk :: .junk :: .junk :: .junk :: .junk :: .junk :: .junk :: .junk :: .junk :: .junk :: .junk :: .junk :: .junk :: .junk :: .junk :: .junk :: .junk :: .junk :: []), loc := [], rows := [], defs := [], M := M }) : ACalls Tryd.prog 6 [a0, a1] M R := ACalls.of 64 cc6 Tryd.func6 (by kernel_rfl) rfl comp6 h

/-- euclid/euclidlaw24.LexerSpaces (3 parameters, 0 captured, 90 slots) -/
def esc7 : List Nat := []
def dl7_0 : List COp := [⟨(some 64), none, .mv (.t 0)⟩, ⟨(some 65), none, .fa 2 (.t 11)⟩, ⟨(some 66), none, .ld 1 false (.t 65)⟩, ⟨(some 67), none, .ss (.t 64) none (some (.t 66))⟩, ⟨(some 68), none, .mv (.t 12)⟩, ⟨(some 69), none, .cat (.t 67) (.t 68)⟩, ⟨(some 70), none, .mv (.t 0)⟩, ⟨(some 71), none, .fa 2 (.t 11)⟩, ⟨(some 72), none, .ld 1 false (.t 71)⟩, ⟨(some 73), none, .ss (.t 70) (some (.t 72)) none⟩, ⟨(some 74), none, .cat (.t 69) (.t 73)⟩, ⟨(some 75), none, .mv (.t 7)⟩, ⟨(some 76), none, .call 12 [(.t 74), (.t 75)]⟩, ⟨(some 63), none, .mv (.t 76)⟩, ⟨(some 77), none, .ex (.t 63) 0⟩, ⟨(some 78), none, .ex (.t 63) 1⟩, ⟨(some 79), none, .ex (.t 63) 2⟩, ⟨(some 13), none, .mv (.t 77)⟩, ⟨(some 14), none, .mv (.t 78)⟩, ⟨(some 15), none, .mv (.t 79)⟩]
def dp7_0 : List (List Nat) := [[], [], [1], [0, 2], [], [3, 4], [], [], [7], [6, 8], [5, 9], [], [10, 11], [12], [13], [13], [13], [14, 12, 0, 1, 2, 3, 4, 5, 6, 7, 8, 9, 10, 11, 12, 13, 14], [15, 17, 0, 1, 2, 3, 4, 5, 6, 7, 8, 9, 10, 11, 12, 13, 14, 15, 17], [16, 18, 0, 1, 2, 3, 4, 5, 6, 7, 8, 9, 10, 11, 12, 13, 14, 15, 16, 17, 18]]
def dk7_0 : List (List Nat) := [[], [], [], [], [], [], [], [], [], [], [], [], [], [], [], [], [], [], [], []]
theorem dr7_0 : DrawOk dl7_0 dp7_0 dk7_0 [(0, ⟨(some 64), none, .mv (.t 0)⟩, []), (1, ⟨(some 65), none, .fa 2 (.t 11)⟩, []), (2, ⟨(some 66), none, .ld 1 false (.t 65)⟩, []), (3, ⟨(some 67), none, .ss (.t 64) none (some (.t 66))⟩, []), (4, ⟨(some 68), none, .mv (.t 12)⟩, []), (5, ⟨(some 69), none, .cat (.t 67) (.t 68)⟩, []), (6, ⟨(some 70), none, .mv (.t 0)⟩, []), (7, ⟨(some 71), none, .fa 2 (.t 11)⟩, []), (8, ⟨(some 72), none, .ld 1 false (.t 71)⟩, []), (9, ⟨(some 73), none, .ss (.t 70) (some (.t 72)) none⟩, []), (10, ⟨(some 74), none, .cat (.t 69) (.t 73)⟩, []), (11, ⟨(some 75), none, .mv (.t 7)⟩, []), (12, ⟨(some 76), none, .call 12 [(.t 74), (.t 75)]⟩, []), (13, ⟨(some 63), none, .mv (.t 76)⟩, []), (14, ⟨(some 77), none, .ex (.t 63) 0⟩, []), (15, ⟨(some 78), none, .ex (.t 63) 1⟩, []), (16, ⟨(some 79), none, .ex (.t 63) 2⟩, []), (17, ⟨(some 13), none, .mv (.t 77)⟩, []), (18, ⟨(some 14), none, .mv (.t 78)⟩, []), (19, ⟨(some 15), none, .mv (.t 79)⟩, [])] := ⟨⟨[0, 1, 2, 3, 4, 5, 6, 7, 8, 9, 10, 11, 12, 13, 14, 15, 16, 17, 18, 19], rfl, by kernel_rfl, by kernel_rfl⟩, by kernel_rfl⟩
def cc7 : CC :=
  .seq (.reg false [⟨(some 6), none, .mv (.c (.bool false))⟩])
  (.seq (.seq (.reg false [⟨(some 16), none, .mv (.t 0)⟩, ⟨(some 17), none, .ln true (.t 16)⟩, ⟨(some 18), none, .ic .gtr (.t 17) (.c (.int .i64 1000))⟩])
  (.cond (.t 18)
   (.seq (.reg false [⟨(some 19), none, .call 11 []⟩, ⟨(some 6), none, .mv (.t 19)⟩])
   (.ret))
   (.skip)))
  (.seq (.reg false [⟨(some 20), none, .bs 9 1 [(.c (.str [42])), (.c (.str [60, 61])), (.c (.str [105, 102]))]⟩, ⟨(some 7), none, .mv (.t 20)⟩])
  (.seq (.reg false [⟨(some 22), none, .mv (.t 0)⟩, ⟨(some 23), none, .mv (.t 7)⟩, ⟨(some 24), none, .call 12 [(.t 22), (.t 23)]⟩, ⟨(some 21), none, .mv (.t 24)⟩, ⟨(some 25), none, .ex (.t 21) 0⟩, ⟨(some 26), none, .ex (.t 21) 1⟩, ⟨(some 27), none, .ex (.t 21) 2⟩, ⟨(some 8), none, .mv (.t 25)⟩, ⟨(some 9), none, .mv (.t 26)⟩, ⟨(some 10), none, .mv (.t 27)⟩])
  (.seq (.seq (.reg false [⟨(some 28), none, .mv (.t 10)⟩, ⟨(some 29), none, .ic .neq (.t 28) (.c (.int .i64 0))⟩, ⟨(some 30), none, .mv (.t 29)⟩, ⟨(some 31), (some (30, false)), .mv (.t 8)⟩, ⟨(some 32), (some (30, false)), .ln false (.t 31)⟩, ⟨(some 33), (some (30, false)), .ic .eql (.t 32) (.c (.int .i64 0))⟩, ⟨(some 34), none, .pick (.t 30) (.c (.bool true)) (.t 33)⟩])
  (.cond (.t 34)
   (.seq (.reg false [⟨(some 35), none, .call 11 []⟩, ⟨(some 36), none, .mv (.t 35)⟩, ⟨(some 37), (some (36, true)), .mv (.t 10)⟩, ⟨(some 38), (some (36, true)), .ic .neq (.t 37) (.c (.int .i64 0))⟩, ⟨(some 39), none, .pick (.t 36) (.t 38) (.c (.bool false))⟩, ⟨(some 6), none, .mv (.t 39)⟩])
   (.ret))
   (.skip)))
  (.seq (.reg false [⟨(some 40), none, .mv (.t 8)⟩, ⟨(some 41), none, .mv (.t 1)⟩, ⟨(some 42), none, .cv .i64 (.t 41)⟩, ⟨(some 43), none, .mv (.t 8)⟩, ⟨(some 44), none, .ln false (.t 43)⟩, ⟨(some 45), none, .qr .rem (.t 42) (.t 44)⟩, ⟨(some 46), none, .ia 3 (.t 40) (.t 45)⟩, ⟨(some 47), none, .ld 3 true (.t 46)⟩, ⟨(some 11), none, .al 35 [(.int .i64 0), (.str []), (.int .i64 0)]⟩, ⟨none, none, .sto 3 (.t 11) (.t 47)⟩])
  (.seq (.seq (.reg false [⟨(some 48), none, .fa 2 (.t 11)⟩, ⟨(some 49), none, .ld 1 false (.t 48)⟩, ⟨(some 50), none, .ic .lss (.t 49) (.c (.int .i64 0))⟩, ⟨(some 51), none, .mv (.t 50)⟩, ⟨(some 52), (some (51, false)), .fa 2 (.t 11)⟩, ⟨(some 53), (some (51, false)), .ld 1 false (.t 52)⟩, ⟨(some 54), (some (51, false)), .mv (.t 0)⟩, ⟨(some 55), (some (51, false)), .ln true (.t 54)⟩, ⟨(some 56), (some (51, false)), .ic .gtr (.t 53) (.t 55)⟩, ⟨(some 57), none, .pick (.t 51) (.c (.bool true)) (.t 56)⟩])
  (.cond (.t 57)
   (.seq (.reg false [⟨(some 6), none, .mv (.c (.bool false))⟩])
   (.ret))
   (.skip)))
  (.seq (.reg false [⟨(some 58), none, .bs 9 1 [(.c (.str [32])), (.c (.str [10])), (.c (.str [9, 13])), (.c (.str [45, 45, 32, 97, 32, 34, 98, 32, 51, 10])), (.c (.str [10, 10]))]⟩, ⟨(some 59), none, .mv (.t 2)⟩, ⟨(some 60), none, .qr .rem (.t 59) (.c (.int .u8 5))⟩, ⟨(some 61), none, .ia 1 (.t 58) (.t 60)⟩, ⟨(some 62), none, .ld 1 false (.t 61)⟩, ⟨(some 12), none, .mv (.t 62)⟩])
  (.seq (.dreg dl7_0 dp7_0)
  (.seq (.reg false [⟨(some 80), none, .call 11 []⟩, ⟨(some 81), none, .mv (.t 80)⟩, ⟨(some 82), (some (81, true)), .mv (.t 15)⟩, ⟨(some 83), (some (81, true)), .ic .eql (.t 82) (.c (.int .i64 0))⟩, ⟨(some 84), none, .pick (.t 81) (.t 83) (.c (.bool false))⟩, ⟨(some 85), none, .mv (.t 84)⟩, ⟨(some 86), (some (85, true)), .mv (.t 8)⟩, ⟨(some 87), (some (85, true)), .mv (.t 13)⟩, ⟨(some 88), (some (85, true)), .call 14 [(.t 86), (.t 87), (.c (.bool true))]⟩, ⟨(some 89), none, .pick (.t 85) (.t 88) (.c (.bool false))⟩, ⟨(some 6), none, .mv (.t 89)⟩])
  (.ret))))))))))
theorem comp7 : comp tt esc7 (Tryd.f7.body.getD .skip) = cc7 := by kernel_rfl
theorem has7 : Has Tryd.prog 7 := ⟨_, Tryd.func7, by kernel_rfl, by decide⟩
theorem enter7 (a0 a1 a2 : AV) {M : Mem} {R : AEnd → Mem → Prop} (h : CWp none Tryd.prog tt esc7 cc7 (Am.Fin Tryd.prog Tryd.f7 R) { tmps := (.v a0 :: .v a1 :: .v a2 :: .junk :: .junk :: .junk :: .junk :: .junk :: .junk :: .junk :: .junk :: .junk :: .junk :: .junk :: .junk :: .junk :: .junk :: .junk :: .junk :: .junk :: .junk :: .junk :: .junk :: .junk :: .junk :: .junk :: .junk :: .junk :: .junk :: .junk :: .junk :: .junk :: .junk :: .junk :: .junk :: .junk :: .junk :: .junk :: .junk :: .junk :: .junk :: .junk :: .junk :: .junk :: .junk :: .junk :: .junk :: .junk :: .junk :: .junk :: .junk :: .junk :: .junk :: .junk :: .junk :: .junk :: .junk :: .junk :: .junk :: .junk :: .junk :: .junk :: .junk :: .junk :: .junk :: .junk :: .junk :: .junk :: .junk :: .junk :: .junk :: .junk :: .junk :: .junk :: .junk :: .junk :: .junk :: .junk :: .junk :: .junk :: .junk :: .junk :: .junk :: .junk :: .junk :: .junk :: .junk :: .junk :: .junk :: .junk :: []), loc := [], rows := [], defs := [], M := M }) : ACalls Tryd.prog 7 [a0, a1, a2] M R := ACalls.of 87 cc7 Tryd.func7 (by kernel_rfl) rfl comp7 h

def lp8_0 (x0 x1 x2 x7 x8 x9 : TV) : List TV := (x0 :: x1 :: x2 :: .junk :: .junk :: .junk :: .junk :: x7 :: x8 :: x9 :: .junk :: .junk :: .junk :: .junk :: .junk :: .junk :: .junk :: .junk :: .junk :: .junk :: .junk :: .junk :: .junk :: .junk :: .junk :: .junk :: .junk :: .junk :: .junk :: .junk :: .junk :: .junk :: .junk :: .junk :: .junk :: .junk :: .junk :: .junk :: .junk :: .junk :: .junk :: .junk :: .junk :: .junk :: .junk :: .junk :: .junk :: .junk :: .junk :: .junk :: .junk :: .junk :: .junk :: .junk :: .junk :: .junk :: .junk :: .junk :: .junk :: .junk :: .junk :: .junk :: .junk :: .junk :: .junk :: .junk :: .junk :: .junk :: .junk :: .junk :: .junk :: .junk :: .junk :: .junk :: .junk :: .junk :: .junk :: .junk :: .junk :: .junk :: .junk :: .junk :: .junk :: .junk :: .junk :: .junk :: .junk :: .junk :: .junk :: .junk :: .junk :: .junk :: .junk :: .junk :: .junk :: .junk :: .junk :: .junk :: .junk :: .junk :: .junk :: .junk :: .junk :: .junk :: .junk :: .junk :: .junk :: .junk :: .junk :: .junk :: .junk :: .junk :: .junk :: .junk :: .junk :: .junk :: .junk :: .junk :: .junk :: .junk :: .junk :: .junk :: .junk :: .junk :: .junk :: .junk :: .junk :: .junk :: .junk :: .junk :: .junk :: .junk :: .junk :: .junk :: .junk :: .junk :: .junk :: .junk :: .junk :: .junk :: .junk :: .junk :: [])

def lp8_1 (x2 x13 x14 : TV) : List TV := (.junk :: .junk :: x2 :: .junk :: .junk :: .junk :: .junk :: .junk :: .junk :: .junk :: .junk :: .junk :: .junk :: x13 :: x14 :: .junk :: .junk :: .junk :: .junk :: .junk :: .junk :: .junk :: .junk :: .junk :: .junk :: .junk :: .junk :: .junk :: .junk :: .junk :: .junk :: .junk :: .junk :: .junk :: .junk :: .junk :: .junk :: .junk :: .junk :: .junk :: .junk :: .junk :: .junk :: .junk :: .junk :: .junk :: .junk :: .junk :: .junk :: .junk :: .junk :: .junk :: .junk :: .junk :: .junk :: .junk :: .junk :: .junk :: .junk :: .junk :: .junk :: .junk :: .junk :: .junk :: .junk :: .junk :: .junk :: .junk :: .junk :: .junk :: .junk :: .junk :: .junk :: .junk :: .junk :: .junk :: .junk :: .junk :: .junk :: .junk :: .junk :: .junk :: .junk :: .junk :: .junk :: .junk :: .junk :: .junk :: .junk :: .junk :: .junk :: .junk :: .junk :: .junk :: .junk :: .junk :: .junk :: .junk :: .junk :: .junk :: .junk :: .junk :: .junk :: .junk :: .junk :: .junk :: .junk :: .junk :: .junk :: .junk :: .junk :: .junk :: .junk :: .junk :: .junk :: .junk :: .junk :: .junk :: .junk :: .junk :: .junk :: .junk :: .junk :: .junk :: .junk :: .junk :: .junk :: .junk :: .junk :: .junk :: .junk :: .junk :: .junk :: .junk :: .junk :: .junk :: .junk :: .junk :: .junk :: .junk :: .junk :: .junk :: [])


/-- euclid/euclidlaw24.LexerPrefixes (2 parameters, 0 captured, 59 slots) -/
def esc9 : List Nat := []
def cc9 : CC :=
  .seq (.reg false [⟨(some 4), none, .mv (.c (.bool false))⟩])
  (.seq (.seq (.reg false [⟨(some 11), none, .mv (.t 0)⟩, ⟨(some 12), none, .ln true (.t 11)⟩, ⟨(some 13), none, .ic .gtr (.t 12) (.c (.int .i64 1000))⟩, ⟨(some 14), none, .mv (.t 13)⟩, ⟨(some 15), (some (14, false)), .mv (.t 1)⟩, ⟨(some 16), (some (14, false)), .ln true (.t 15)⟩, ⟨(some 17), (some (14, false)), .ic .gtr (.t 16) (.c (.int .i64 300))⟩, ⟨(some 18), none, .pick (.t 14) (.c (.bool true)) (.t 17)⟩])
  (.cond (.t 18)
   (.seq (.reg false [⟨(some 19), none, .call 11 []⟩, ⟨(some 4), none, .mv (.t 19)⟩])
   (.ret))
   (.skip)))
  (.seq (.reg false [⟨(some 21), none, .mv (.t 0)⟩, ⟨(some 22), none, .call 12 [(.t 21), (.c (.sl .full 1 []))]⟩, ⟨(some 20), none, .mv (.t 22)⟩, ⟨(some 23), none, .ex (.t 20) 0⟩, ⟨(some 24), none, .ex (.t 20) 1⟩, ⟨(some 25), none, .ex (.t 20) 2⟩, ⟨(some 5), none, .mv (.t 23)⟩, ⟨(some 6), none, .mv (.t 24)⟩, ⟨(some 7), none, .mv (.t 25)⟩])
  (.seq (.seq (.reg false [⟨(some 26), none, .mv (.t 7)⟩, ⟨(some 27), none, .ic .eql (.t 26) (.c (.int .i64 0))⟩])
  (.cond (.t 27)
   (.seq (.reg false [⟨(some 28), none, .call 11 []⟩, ⟨(some 4), none, .mv (.t 28)⟩])
   (.ret))
   (.skip)))
  (.seq (.reg false [⟨(some 30), none, .mv (.t 0)⟩, ⟨(some 31), none, .cat (.t 30) (.c (.str [10]))⟩, ⟨(some 32), none, .mv (.t 1)⟩, ⟨(some 33), none, .cat (.t 31) (.t 32)⟩, ⟨(some 34), none, .call 12 [(.t 33), (.c (.sl .full 1 []))]⟩, ⟨(some 29), none, .mv (.t 34)⟩, ⟨(some 35), none, .ex (.t 29) 0⟩, ⟨(some 36), none, .ex (.t 29) 1⟩, ⟨(some 37), none, .ex (.t 29) 2⟩, ⟨(some 8), none, .mv (.t 35)⟩, ⟨(some 9), none, .mv (.t 36)⟩, ⟨(some 10), none, .mv (.t 37)⟩])
  (.seq (.reg false [⟨(some 38), none, .call 11 []⟩, ⟨(some 39), none, .mv (.t 38)⟩, ⟨(some 40), (some (39, true)), .mv (.t 7)⟩, ⟨(some 41), (some (39, true)), .mv (.t 10)⟩, ⟨(some 42), (some (39, true)), .ic .eql (.t 40) (.t 41)⟩, ⟨(some 43), none, .pick (.t 39) (.t 42) (.c (.bool false))⟩, ⟨(some 44), none, .mv (.t 43)⟩, ⟨(some 45), (some (44, true)), .mv (.t 6)⟩, ⟨(some 46), (some (44, true)), .mv (.t 9)⟩, ⟨(some 47), (some (44, true)), .ic .eql (.t 45) (.t 46)⟩, ⟨(some 48), none, .pick (.t 44) (.t 47) (.c (.bool false))⟩, ⟨(some 49), none, .mv (.t 48)⟩, ⟨(some 50), (some (49, true)), .mv (.t 6)⟩, ⟨(some 51), (some (49, true)), .ic .geq (.t 50) (.c (.int .i64 0))⟩, ⟨(some 52), none, .pick (.t 49) (.t 51) (.c (.bool false))⟩, ⟨(some 53), none, .mv (.t 52)⟩, ⟨(some 54), (some (53, true)), .mv (.t 6)⟩, ⟨(some 55), (some (53, true)), .mv (.t 0)⟩, ⟨(some 56), (some (53, true)), .ln true (.t 55)⟩, ⟨(some 57), (some (53, true)), .ic .lss (.t 54) (.t 56)⟩, ⟨(some 58), none, .pick (.t 53) (.t 57) (.c (.bool false))⟩, ⟨(some 4), none, .mv (.t 58)⟩])
  (.ret))))))
theorem comp9 : comp tt esc9 (Tryd.f9.body.getD .skip) = cc9 := by kernel_rfl
theorem has9 : Has Tryd.prog 9 := ⟨_, Tryd.func9, by kernel_rfl, by decide⟩
theorem enter9 (a0 a1 : AV) {M : Mem} {R : AEnd → Mem → Prop} (h : CWp none Tryd.prog tt esc9 cc9 (Am.Fin Tryd.prog Tryd.f9 R) { tmps := (.v a0 :: .v a1 :: .junk :: .junk :: .junk :: .junk :: .junk :: .junk :: .junk :: .junk :: .junk :: .junk :: .junk :: .junk :: .junk :: .junk :: .junk :: .junk :: .junk :: .junk :: .junk :: .junk :: .junk :: .junk :: .junk :: .junk :: .junk :: .junk :: .junk :: .junk :: .junk :: .junk :: .junk :: .junk :: .junk :: .junk :: .junk :: .junk :: .junk :: .junk :: .junk :: .junk :: .junk :: .junk :: .junk :: .junk :: .junk :: .junk :: .junk :: .junk :: .junk :: .junk :: .junk :: .junk :: .junk :: .junk :: .junk :: .junk :: .junk :: []), loc := [], rows := [], defs := [], M := M }) : ACalls Tryd.prog 9 [a0, a1] M R := ACalls.of 57 cc9 Tryd.func9 (by kernel_rfl) rfl comp9 h

def lp10_0 (x0 x3 : TV) : List TV := [x0, .junk, .junk, x3, .junk, .junk, .junk, .junk, .junk, .junk, .junk, .junk, .junk, .junk, .junk, .junk, .junk, .junk, .junk, .junk, .junk, .junk, .junk]

/-- euclid/euclidlaw24.few (1 parameters, 0 captured, 23 slots) -/
def esc10 : List Nat := []
def cc10_l0 : CC :=
  .seq (.seq (.reg false [⟨(some 4), none, .mv (.t 3)⟩, ⟨(some 5), none, .mv (.t 0)⟩, ⟨(some 6), none, .ln false (.t 5)⟩, ⟨(some 7), none, .ic .lss (.t 4) (.t 6)⟩, ⟨(some 8), none, .mv (.t 7)⟩, ⟨(some 9), (some (8, true)), .mv (.t 3)⟩, ⟨(some 10), (some (8, true)), .ic .lss (.t 9) (.c (.int .i64 12))⟩, ⟨(some 11), none, .pick (.t 8) (.t 10) (.c (.bool false))⟩])
    (.cond (.t 11)
     (.skip)
     (.exit 0)))
    (.seq (.block 1 (.seq (.reg false [⟨(some 14), none, .mv (.t 0)⟩, ⟨(some 15), none, .mv (.t 3)⟩, ⟨(some 16), none, .ia 1 (.t 14) (.t 15)⟩, ⟨(some 17), none, .ld 1 false (.t 16)⟩, ⟨(some 18), none, .ln true (.t 17)⟩, ⟨(some 19), none, .ic .gtr (.t 18) (.c (.int .i64 20))⟩])
     (.cond (.t 19)
      (.seq (.reg false [⟨(some 2), none, .mv (.c (.bool false))⟩])
      (.ret))
      (.skip))))
    (.reg false [⟨(some 12), none, .mv (.t 3)⟩, ⟨(some 13), none, .ar .add (.t 12) (.c (.int .i64 1))⟩, ⟨(some 3), none, .mv (.t 13)⟩]))
def cc10 : CC :=
  .seq (.reg false [⟨(some 2), none, .mv (.c (.bool false))⟩])
  (.seq (.seq (.reg false [⟨(some 3), none, .mv (.c (.int .i64 0))⟩])
  (.block 0 (.loop (cc10_l0))))
  (.seq (.reg false [⟨(some 20), none, .mv (.t 0)⟩, ⟨(some 21), none, .ln false (.t 20)⟩, ⟨(some 22), none, .ic .leq (.t 21) (.c (.int .i64 10))⟩, ⟨(some 2), none, .mv (.t 22)⟩])
  (.ret)))
theorem comp10 : comp tt esc10 (Tryd.f10.body.getD .skip) = cc10 := by kernel_rfl
theorem has10 : Has Tryd.prog 10 := ⟨_, Tryd.func10, by kernel_rfl, by decide⟩
theorem enter10 (a0 : AV) {M : Mem} {R : AEnd → Mem → Prop} (h : CWp none Tryd.prog tt esc10 cc10 (Am.Fin Tryd.prog Tryd.f10 R) { tmps := [.v a0, .junk, .junk, .junk, .junk, .junk, .junk, .junk, .junk, .junk, .junk, .junk, .junk, .junk, .junk, .junk, .junk, .junk, .junk, .junk, .junk, .junk, .junk], loc := [], rows := [], defs := [], M := M }) : ACalls Tryd.prog 10 [a0] M R := ACalls.of 22 cc10 Tryd.func10 (by kernel_rfl) rfl comp10 h

def lp11_0 (x1 x4 x5 : TV) : List TV := (.junk :: x1 :: .junk :: .junk :: x4 :: x5 :: .junk :: .junk :: .junk :: .junk :: .junk :: .junk :: .junk :: .junk :: .junk :: .junk :: .junk :: .junk :: .junk :: .junk :: .junk :: .junk :: .junk :: .junk :: .junk :: .junk :: .junk :: .junk :: .junk :: .junk :: .junk :: .junk :: .junk :: .junk :: .junk :: .junk :: .junk :: .junk :: .junk :: .junk :: .junk :: .junk :: .junk :: .junk :: .junk :: .junk :: .junk :: .junk :: .junk :: .junk :: .junk :: .junk :: .junk :: .junk :: .junk :: .junk :: .junk :: .junk :: .junk :: .junk :: .junk :: .junk :: .junk :: .junk :: .junk :: .junk :: .junk :: .junk :: .junk :: .junk :: .junk :: .junk :: .junk :: .junk :: .junk :: .junk :: .junk :: .junk :: .junk :: .junk :: .junk :: .junk :: .junk :: .junk :: .junk :: .junk :: .junk :: .junk :: .junk :: .junk :: .junk :: .junk :: .junk :: [])

/-- euclid/euclidlaw24.awake (0 parameters, 0 captured, 93 slots) -/
def esc11 : List Nat := []
def dl11_0 : List COp := [⟨(some 43), none, .mv (.t 1)⟩, ⟨(some 44), none, .mv (.t 5)⟩, ⟨(some 45), none, .ia 3 (.t 43) (.t 44)⟩, ⟨(some 46), none, .fa 1 (.t 45)⟩, ⟨(some 47), none, .ld 1 false (.t 46)⟩, ⟨(some 48), none, .mv (.t 4)⟩, ⟨(some 49), none, .mv (.t 5)⟩, ⟨(some 50), none, .ia 1 (.t 48) (.t 49)⟩, ⟨(some 51), none, .ld 1 false (.t 50)⟩, ⟨(some 52), none, .sc .neq (.t 47) (.t 51)⟩]
def dp11_0 : List (List Nat) := [[], [], [0, 1], [2], [3], [], [], [5, 6], [7], [4, 8]]
def dk11_0 : List (List Nat) := [[], [], [], [], [], [], [], [], [], []]
theorem dr11_0 : DrawOk dl11_0 dp11_0 dk11_0 [(0, ⟨(some 43), none, .mv (.t 1)⟩, []), (1, ⟨(some 44), none, .mv (.t 5)⟩, []), (2, ⟨(some 45), none, .ia 3 (.t 43) (.t 44)⟩, []), (3, ⟨(some 46), none, .fa 1 (.t 45)⟩, []), (4, ⟨(some 47), none, .ld 1 false (.t 46)⟩, []), (5, ⟨(some 48), none, .mv (.t 4)⟩, []), (6, ⟨(some 49), none, .mv (.t 5)⟩, []), (7, ⟨(some 50), none, .ia 1 (.t 48) (.t 49)⟩, []), (8, ⟨(some 51), none, .ld 1 false (.t 50)⟩, []), (9, ⟨(some 52), none, .sc .neq (.t 47) (.t 51)⟩, [])] := ⟨⟨[0, 1, 2, 3, 4, 5, 6, 7, 8, 9], rfl, by kernel_rfl, by kernel_rfl⟩, by kernel_rfl⟩
def cc11_l0 : CC :=
  .seq (.seq (.reg false [⟨(some 37), none, .mv (.t 5)⟩, ⟨(some 38), none, .mv (.t 1)⟩, ⟨(some 39), none, .ln false (.t 38)⟩, ⟨(some 40), none, .ic .lss (.t 37) (.t 39)⟩])
    (.cond (.t 40)
     (.skip)
     (.exit 0)))
    (.seq (.block 1 (.seq (.dreg dl11_0 dp11_0)
     (.cond (.t 52)
      (.seq (.reg false [⟨(some 0), none, .mv (.c (.bool false))⟩])
      (.ret))
      (.skip))))
    (.reg false [⟨(some 41), none, .mv (.t 5)⟩, ⟨(some 42), none, .ar .add (.t 41) (.c (.int .i64 1))⟩, ⟨(some 5), none, .mv (.t 42)⟩]))
def cc11 : CC :=
  .seq (.reg false [⟨(some 0), none, .mv (.c (.bool false))⟩])
  (.seq (.reg false [⟨(some 16), none, .call 12 [(.c (.str [102, 46, 123, 117, 125, 32, 120, 46, 49, 32, 45, 62, 32, 121, 32, 45, 45, 32, 122])), (.c (.sl .full 1 []))]⟩, ⟨(some 15), none, .mv (.t 16)⟩, ⟨(some 17), none, .ex (.t 15) 0⟩, ⟨(some 18), none, .ex (.t 15) 1⟩, ⟨(some 19), none, .ex (.t 15) 2⟩, ⟨(some 1), none, .mv (.t 17)⟩, ⟨(some 2), none, .mv (.t 18)⟩, ⟨(some 3), none, .mv (.t 19)⟩])
  (.seq (.reg false [⟨(some 20), none, .bs 9 1 [(.c (.str [102])), (.c (.str [46, 123])), (.c (.str [117])), (.c (.str [125])), (.c (.str [120])), (.c (.str [46, 49])), (.c (.str [45, 62])), (.c (.str [121])), (.c (.str []))]⟩, ⟨(some 4), none, .mv (.t 20)⟩])
  (.seq (.seq (.reg false [⟨(some 21), none, .mv (.t 3)⟩, ⟨(some 22), none, .ic .neq (.t 21) (.c (.int .i64 0))⟩, ⟨(some 23), none, .mv (.t 22)⟩, ⟨(some 24), (some (23, false)), .mv (.t 1)⟩, ⟨(some 25), (some (23, false)), .ln false (.t 24)⟩, ⟨(some 26), (some (23, false)), .mv (.t 4)⟩, ⟨(some 27), (some (23, false)), .ln false (.t 26)⟩, ⟨(some 28), (some (23, false)), .ic .neq (.t 25) (.t 27)⟩, ⟨(some 29), none, .pick (.t 23) (.c (.bool true)) (.t 28)⟩, ⟨(some 30), none, .mv (.t 29)⟩, ⟨(some 31), (some (30, false)), .mv (.t 1)⟩, ⟨(some 32), (some (30, false)), .ia 3 (.t 31) (.c (.int .i64 8))⟩, ⟨(some 33), (some (30, false)), .fa 2 (.t 32)⟩, ⟨(some 34), (some (30, false)), .ld 1 false (.t 33)⟩, ⟨(some 35), (some (30, false)), .ic .neq (.t 34) (.c (.int .i64 19))⟩, ⟨(some 36), none, .pick (.t 30) (.c (.bool true)) (.t 35)⟩])
  (.cond (.t 36)
   (.seq (.reg false [⟨(some 0), none, .mv (.c (.bool false))⟩])
   (.ret))
   (.skip)))
  (.seq (.seq (.reg false [⟨(some 5), none, .mv (.c (.int .i64 0))⟩])
  (.block 0 (.loop (cc11_l0))))
  (.seq (.reg false [⟨(some 54), none, .bs 9 1 [(.c (.str [43, 43]))]⟩, ⟨(some 55), none, .call 12 [(.c (.str [97, 43, 43, 98])), (.t 54)]⟩, ⟨(some 53), none, .mv (.t 55)⟩, ⟨(some 56), none, .ex (.t 53) 0⟩, ⟨(some 57), none, .ex (.t 53) 1⟩, ⟨(some 58), none, .ex (.t 53) 2⟩, ⟨(some 6), none, .mv (.t 56)⟩, ⟨(some 7), none, .mv (.t 57)⟩, ⟨(some 8), none, .mv (.t 58)⟩])
  (.seq (.reg false [⟨(some 60), none, .call 12 [(.c (.str [97, 43, 43, 98])), (.c (.sl .full 1 []))]⟩, ⟨(some 59), none, .mv (.t 60)⟩, ⟨(some 61), none, .ex (.t 59) 0⟩, ⟨(some 62), none, .ex (.t 59) 1⟩, ⟨(some 63), none, .ex (.t 59) 2⟩, ⟨(some 9), none, .mv (.t 61)⟩, ⟨(some 10), none, .mv (.t 62)⟩, ⟨(some 11), none, .mv (.t 63)⟩])
  (.seq (.reg false [⟨(some 65), none, .call 12 [(.c (.str [49, 50, 97])), (.c (.sl .full 1 []))]⟩, ⟨(some 64), none, .mv (.t 65)⟩, ⟨(some 66), none, .ex (.t 64) 0⟩, ⟨(some 67), none, .ex (.t 64) 1⟩, ⟨(some 68), none, .ex (.t 64) 2⟩, ⟨(some 12), none, .mv (.t 66)⟩, ⟨(some 13), none, .mv (.t 67)⟩, ⟨(some 14), none, .mv (.t 68)⟩])
  (.seq (.reg false [⟨(some 69), none, .mv (.t 8)⟩, ⟨(some 70), none, .ic .eql (.t 69) (.c (.int .i64 0))⟩, ⟨(some 71), none, .mv (.t 70)⟩, ⟨(some 72), (some (71, true)), .mv (.t 6)⟩, ⟨(some 73), (some (71, true)), .ln false (.t 72)⟩, ⟨(some 74), (some (71, true)), .ic .eql (.t 73) (.c (.int .i64 4))⟩, ⟨(some 75), none, .pick (.t 71) (.t 74) (.c (.bool false))⟩, ⟨(some 76), none, .mv (.t 75)⟩, ⟨(some 77), (some (76, true)), .mv (.t 11)⟩, ⟨(some 78), (some (76, true)), .ic .eql (.t 77) (.c (.int .i64 0))⟩, ⟨(some 79), none, .pick (.t 76) (.t 78) (.c (.bool false))⟩, ⟨(some 80), none, .mv (.t 79)⟩, ⟨(some 81), (some (80, true)), .mv (.t 9)⟩, ⟨(some 82), (some (80, true)), .ln false (.t 81)⟩, ⟨(some 83), (some (80, true)), .ic .eql (.t 82) (.c (.int .i64 5))⟩, ⟨(some 84), none, .pick (.t 80) (.t 83) (.c (.bool false))⟩, ⟨(some 85), none, .mv (.t 84)⟩, ⟨(some 86), (some (85, true)), .mv (.t 13)⟩, ⟨(some 87), (some (85, true)), .ic .eql (.t 86) (.c (.int .i64 2))⟩, ⟨(some 88), none, .pick (.t 85) (.t 87) (.c (.bool false))⟩, ⟨(some 89), none, .mv (.t 88)⟩, ⟨(some 90), (some (89, true)), .mv (.t 14)⟩, ⟨(some 91), (some (89, true)), .ic .eql (.t 90) (.c (.int .i64 4))⟩, ⟨(some 92), none, .pick (.t 89) (.t 91) (.c (.bool false))⟩, ⟨(some 0), none, .mv (.t 92)⟩])
  (.ret)))))))))
theorem comp11 : comp tt esc11 (Tryd.f11.body.getD .skip) = cc11 := by kernel_rfl
theorem has11 : Has Tryd.prog 11 := ⟨_, Tryd.func11, by kernel_rfl, by decide⟩
theorem enter11 {M : Mem} {R : AEnd → Mem → Prop} (h : CWp none Tryd.prog tt esc11 cc11 (Am.Fin Tryd.prog Tryd.f11 R) { tmps := (.junk :: .junk :: .junk :: .junk :: .junk :: .junk :: .junk :: .junk :: .junk :: .junk :: .junk :: .junk :: .junk :: .junk :: .junk :: .junk :: .junk :: .junk :: .junk :: .junk :: .junk :: .junk :: .junk :: .junk :: .junk :: .junk :: .junk :: .junk :: .junk :: .junk :: .junk :: .junk :: .junk :: .junk :: .junk :: .junk :: .junk :: .junk :: .junk :: .junk :: .junk :: .junk :: .junk :: .junk :: .junk :: .junk :: .junk :: .junk :: .junk :: .junk :: .junk :: .junk :: .junk :: .junk :: .junk :: .junk :: .junk :: .junk :: .junk :: .junk :: .junk :: .junk :: .junk :: .junk :: .junk :: .junk :: .junk :: .junk :: .junk :: .junk :: .junk :: .junk :: .junk :: .junk :: .junk :: .junk :: .junk :: .junk :: .junk :: .junk :: .junk :: .junk :: .junk :: .junk :: .junk :: .junk :: .junk :: .junk :: .junk :: .junk :: .junk :: .junk :: .junk :: []), loc := [], rows := [], defs := [], M := M }) : ACalls Tryd.prog 11 [] M R := ACalls.of 93 cc11 Tryd.func11 (by kernel_rfl) rfl comp11 h

def lp12_0 (x0 x1 x7 x25 x26 x27 : TV) : List TV := (x0 :: x1 :: .junk :: .junk :: .junk :: .junk :: .junk :: x7 :: .junk :: .junk :: .junk :: .junk :: .junk :: .junk :: .junk :: .junk :: .junk :: .junk :: .junk :: .junk :: .junk :: .junk :: .junk :: .junk :: .junk :: x25 :: x26 :: x27 :: .junk :: .junk :: .junk :: .junk :: .junk :: .junk :: .junk :: .junk :: .junk :: .junk :: .junk :: .junk :: .junk :: .junk :: .junk :: .junk :: .junk :: .junk :: .junk :: .junk :: .junk :: .junk :: .junk :: .junk :: .junk :: .junk :: .junk :: .junk :: .junk :: .junk :: .junk :: .junk :: .junk :: .junk :: .junk :: .junk :: .junk :: .junk :: .junk :: .junk :: .junk :: .junk :: .junk :: .junk :: .junk :: .junk :: .junk :: .junk :: .junk :: .junk :: .junk :: .junk :: .junk :: .junk :: .junk :: .junk :: .junk :: .junk :: .junk :: .junk :: .junk :: .junk :: .junk :: .junk :: .junk :: .junk :: .junk :: .junk :: .junk :: .junk :: .junk :: .junk :: .junk :: .junk :: .junk :: .junk :: .junk :: .junk :: .junk :: .junk :: .junk :: .junk :: .junk :: .junk :: .junk :: .junk :: .junk :: .junk :: .junk :: .junk :: .junk :: .junk :: .junk :: .junk :: .junk :: .junk :: .junk :: .junk :: .junk :: .junk :: [])

def lp12_1 (x0 x7 x42 x43 x44 : TV) : List TV := (x0 :: .junk :: .junk :: .junk :: .junk :: .junk :: .junk :: x7 :: .junk :: .junk :: .junk :: .junk :: .junk :: .junk :: .junk :: .junk :: .junk :: .junk :: .junk :: .junk :: .junk :: .junk :: .junk :: .junk :: .junk :: .junk :: .junk :: .junk :: .junk :: .junk :: .junk :: .junk :: .junk :: .junk :: .junk :: .junk :: .junk :: .junk :: .junk :: .junk :: .junk :: .junk :: x42 :: x43 :: x44 :: .junk :: .junk :: .junk :: .junk :: .junk :: .junk :: .junk :: .junk :: .junk :: .junk :: .junk :: .junk :: .junk :: .junk :: .junk :: .junk :: .junk :: .junk :: .junk :: .junk :: .junk :: .junk :: .junk :: .junk :: .junk :: .junk :: .junk :: .junk :: .junk :: .junk :: .junk :: .junk :: .junk :: .junk :: .junk :: .junk :: .junk :: .junk :: .junk :: .junk :: .junk :: .junk :: .junk :: .junk :: .junk :: .junk :: .junk :: .junk :: .junk :: .junk :: .junk :: .junk :: .junk :: .junk :: .junk :: .junk :: .junk :: .junk :: .junk :: .junk :: .junk :: .junk :: .junk :: .junk :: .junk :: .junk :: .junk :: .junk :: .junk :: .junk :: .junk :: .junk :: .junk :: .junk :: .junk :: .junk :: .junk :: .junk :: .junk :: .junk :: .junk :: .junk :: .junk :: [])

def lp12_2 (x0 x7 x42 x43 x44 x48 x49 x50 : TV) : List TV := (x0 :: .junk :: .junk :: .junk :: .junk :: .junk :: .junk :: x7 :: .junk :: .junk :: .junk :: .junk :: .junk :: .junk :: .junk :: .junk :: .junk :: .junk :: .junk :: .junk :: .junk :: .junk :: .junk :: .junk :: .junk :: .junk :: .junk :: .junk :: .junk :: .junk :: .junk :: .junk :: .junk :: .junk :: .junk :: .junk :: .junk :: .junk :: .junk :: .junk :: .junk :: .junk :: x42 :: x43 :: x44 :: .junk :: .junk :: .junk :: x48 :: x49 :: x50 :: .junk :: .junk :: .junk :: .junk :: .junk :: .junk :: .junk :: .junk :: .junk :: .junk :: .junk :: .junk :: .junk :: .junk :: .junk :: .junk :: .junk :: .junk :: .junk :: .junk :: .junk :: .junk :: .junk :: .junk :: .junk :: .junk :: .junk :: .junk :: .junk :: .junk :: .junk :: .junk :: .junk :: .junk :: .junk :: .junk :: .junk :: .junk :: .junk :: .junk :: .junk :: .junk :: .junk :: .junk :: .junk :: .junk :: .junk :: .junk :: .junk :: .junk :: .junk :: .junk :: .junk :: .junk :: .junk :: .junk :: .junk :: .junk :: .junk :: .junk :: .junk :: .junk :: .junk :: .junk :: .junk :: .junk :: .junk :: .junk :: .junk :: .junk :: .junk :: .junk :: .junk :: .junk :: .junk :: .junk :: .junk :: [])

def lp12_3 (x0 x7 x14 x15 : TV) : List TV := (x0 :: .junk :: .junk :: .junk :: .junk :: .junk :: .junk :: x7 :: .junk :: .junk :: .junk :: .junk :: .junk :: .junk :: x14 :: x15 :: .junk :: .junk :: .junk :: .junk :: .junk :: .junk :: .junk :: .junk :: .junk :: .junk :: .junk :: .junk :: .junk :: .junk :: .junk :: .junk :: .junk :: .junk :: .junk :: .junk :: .junk :: .junk :: .junk :: .junk :: .junk :: .junk :: .junk :: .junk :: .junk :: .junk :: .junk :: .junk :: .junk :: .junk :: .junk :: .junk :: .junk :: .junk :: .junk :: .junk :: .junk :: .junk :: .junk :: .junk :: .junk :: .junk :: .junk :: .junk :: .junk :: .junk :: .junk :: .junk :: .junk :: .junk :: .junk :: .junk :: .junk :: .junk :: .junk :: .junk :: .junk :: .junk :: .junk :: .junk :: .junk :: .junk :: .junk :: .junk :: .junk :: .junk :: .junk :: .junk :: .junk :: .junk :: .junk :: .junk :: .junk :: .junk :: .junk :: .junk :: .junk :: .junk :: .junk :: .junk :: .junk :: .junk :: .junk :: .junk :: .junk :: .junk :: .junk :: .junk :: .junk :: .junk :: .junk :: .junk :: .junk :: .junk :: .junk :: .junk :: .junk :: .junk :: .junk :: .junk :: .junk :: .junk :: .junk :: .junk :: .junk :: .junk :: .junk :: .junk :: [])

/-- euclid/lexer.Scan (2 parameters, 0 captured, 128 slots) -/
def esc12 : List Nat := [24]
def dl12_0 : List COp := [⟨(some 102), none, .mv (.t 15)⟩, ⟨(some 103), none, .mv (.t 16)⟩, ⟨(some 104), none, .mv (.t 0)⟩, ⟨(some 105), none, .mv (.t 7)⟩, ⟨(some 106), none, .nc (.t 105)⟩, ⟨(some 107), none, .fa 1 (.t 106)⟩, ⟨(some 108), none, .ld 1 false (.t 107)⟩, ⟨(some 109), none, .mv (.t 17)⟩, ⟨(some 110), none, .ss (.t 104) (some (.t 108)) (some (.t 109))⟩, ⟨(some 111), none, .mv (.t 7)⟩, ⟨(some 112), none, .nc (.t 111)⟩, ⟨(some 113), none, .fa 1 (.t 112)⟩, ⟨(some 114), none, .ld 1 false (.t 113)⟩, ⟨(some 115), none, .bd [(.int .i64 0), (.str []), (.int .i64 0)] [(0, 1, (.t 103)), (1, 1, (.t 110)), (2, 1, (.t 114))]⟩, ⟨(some 116), none, .bs 35 3 [(.t 115)]⟩, ⟨(some 117), none, .app 35 3 32 (.t 102) (.t 116)⟩, ⟨(some 15), none, .mv (.t 117)⟩]
def dp12_0 : List (List Nat) := [[], [], [], [], [3], [4], [5], [], [2, 6, 7], [], [9], [10], [11], [1, 8, 12], [13], [0, 14], [15, 15, 0, 1, 2, 3, 4, 5, 6, 7, 8, 9, 10, 11, 12, 13, 14, 15]]
def dk12_0 : List (List Nat) := [[], [], [], [], [], [], [], [], [], [], [], [], [], [], [], [], []]
theorem dr12_0 : DrawOk dl12_0 dp12_0 dk12_0 [(0, ⟨(some 102), none, .mv (.t 15)⟩, []), (1, ⟨(some 103), none, .mv (.t 16)⟩, []), (2, ⟨(some 104), none, .mv (.t 0)⟩, []), (3, ⟨(some 105), none, .mv (.t 7)⟩, []), (4, ⟨(some 106), none, .nc (.t 105)⟩, []), (5, ⟨(some 107), none, .fa 1 (.t 106)⟩, []), (6, ⟨(some 108), none, .ld 1 false (.t 107)⟩, []), (7, ⟨(some 109), none, .mv (.t 17)⟩, []), (8, ⟨(some 110), none, .ss (.t 104) (some (.t 108)) (some (.t 109))⟩, []), (9, ⟨(some 111), none, .mv (.t 7)⟩, []), (10, ⟨(some 112), none, .nc (.t 111)⟩, []), (11, ⟨(some 113), none, .fa 1 (.t 112)⟩, []), (12, ⟨(some 114), none, .ld 1 false (.t 113)⟩, []), (13, ⟨(some 115), none, .bd [(.int .i64 0), (.str []), (.int .i64 0)] [(0, 1, (.t 103)), (1, 1, (.t 110)), (2, 1, (.t 114))]⟩, []), (14, ⟨(some 116), none, .bs 35 3 [(.t 115)]⟩, []), (15, ⟨(some 117), none, .app 35 3 32 (.t 102) (.t 116)⟩, []), (16, ⟨(some 15), none, .mv (.t 117)⟩, [])] := ⟨⟨[0, 1, 2, 3, 4, 5, 6, 7, 8, 9, 10, 11, 12, 13, 14, 15, 16], rfl, by kernel_rfl, by kernel_rfl⟩, by kernel_rfl⟩
def cc12_l0 : CC :=
  .seq (.reg false [⟨(some 28), none, .ic .lss (.t 27) (.t 26)⟩])
    (.seq (.cond (.t 28)
     (.skip)
     (.exit 0))
    (.seq (.block 1 (.seq (.reg false [⟨(some 29), none, .ia 1 (.t 25) (.t 27)⟩, ⟨(some 30), none, .ld 1 false (.t 29)⟩, ⟨(some 9), none, .mv (.t 30)⟩])
     (.seq (.seq (.reg false [⟨(some 31), none, .mv (.t 9)⟩, ⟨(some 32), none, .call 17 [(.t 31)]⟩, ⟨(some 33), none, .no (.t 32)⟩])
     (.cond (.t 33)
      (.seq (.reg false [⟨(some 4), none, .mv (.c (.sl .full 3 []))⟩, ⟨(some 5), none, .mv (.c (.int .i64 0))⟩, ⟨(some 6), none, .mv (.c (.int .i64 1))⟩])
      (.ret))
      (.skip)))
     (.reg false [⟨(some 34), none, .mv (.t 7)⟩, ⟨(some 35), none, .nc (.t 34)⟩, ⟨(some 36), none, .fa 3 (.t 35)⟩, ⟨(some 37), none, .ld 1 false (.t 36)⟩, ⟨(some 38), none, .mv (.t 9)⟩, ⟨none, none, .mu (.t 37) (.t 38) (.c (.bool true))⟩]))))
    (.reg false [⟨(some 39), none, .ar .add (.t 27) (.c (.int .i64 1))⟩, ⟨(some 27), none, .mv (.t 39)⟩])))
def cc12_l2 : CC :=
  .seq (.reg false [⟨(some 51), none, .ic .lss (.t 50) (.t 49)⟩])
       (.seq (.cond (.t 51)
        (.skip)
        (.exit 4))
       (.seq (.block 5 (.seq (.reg false [⟨(some 52), none, .ia 1 (.t 48) (.t 50)⟩, ⟨(some 53), none, .ld 1 false (.t 52)⟩, ⟨(some 13), none, .mv (.t 53)⟩])
        (.reg false [⟨(some 54), none, .mv (.t 7)⟩, ⟨(some 55), none, .nc (.t 54)⟩, ⟨(some 56), none, .fa 4 (.t 55)⟩, ⟨(some 57), none, .ld 1 false (.t 56)⟩, ⟨(some 58), none, .mv (.t 13)⟩, ⟨none, none, .mu (.t 57) (.t 58) (.c (.bool true))⟩])))
       (.reg false [⟨(some 59), none, .ar .add (.t 50) (.c (.int .i64 1))⟩, ⟨(some 50), none, .mv (.t 59)⟩])))
def cc12_l1 : CC :=
  .seq (.reg false [⟨(some 45), none, .ic .lss (.t 44) (.t 43)⟩])
    (.seq (.cond (.t 45)
     (.skip)
     (.exit 2))
    (.seq (.block 3 (.seq (.reg false [⟨(some 46), none, .ia 1 (.t 42) (.t 44)⟩, ⟨(some 47), none, .ld 1 false (.t 46)⟩, ⟨(some 11), none, .mv (.t 47)⟩])
     (.seq (.reg false [⟨(some 48), none, .mv (.t 11)⟩, ⟨(some 49), none, .ln false (.t 48)⟩, ⟨(some 50), none, .mv (.c (.int .i64 0))⟩])
     (.block 4 (.loop (cc12_l2))))))
    (.reg false [⟨(some 60), none, .ar .add (.t 44) (.c (.int .i64 1))⟩, ⟨(some 44), none, .mv (.t 60)⟩])))
def cc12_l3 : CC :=
  .seq (.seq (.reg false [⟨(some 75), none, .mv (.t 7)⟩, ⟨(some 76), none, .nc (.t 75)⟩, ⟨(some 77), none, .fa 1 (.t 76)⟩, ⟨(some 78), none, .ld 1 false (.t 77)⟩, ⟨(some 79), none, .mv (.t 0)⟩, ⟨(some 80), none, .ln true (.t 79)⟩, ⟨(some 81), none, .ic .lss (.t 78) (.t 80)⟩])
    (.cond (.t 81)
     (.skip)
     (.exit 6)))
    (.seq (.block 7 (.seq (.reg false [⟨(some 85), none, .mv (.t 0)⟩, ⟨(some 86), none, .mv (.t 7)⟩, ⟨(some 87), none, .nc (.t 86)⟩, ⟨(some 88), none, .fa 1 (.t 87)⟩, ⟨(some 89), none, .ld 1 false (.t 88)⟩, ⟨(some 90), none, .si (.t 85) (.t 89)⟩, ⟨(some 91), none, .call 26 [(.t 90)]⟩, ⟨(some 92), none, .iaa 4 1 (.t 14) (.t 91)⟩, ⟨(some 93), none, .ld 1 false (.t 92)⟩, ⟨(some 94), none, .callv (.t 93) []⟩, ⟨(some 84), none, .mv (.t 94)⟩, ⟨(some 95), none, .ex (.t 84) 0⟩, ⟨(some 96), none, .ex (.t 84) 1⟩, ⟨(some 97), none, .ex (.t 84) 2⟩, ⟨(some 16), none, .mv (.t 95)⟩, ⟨(some 17), none, .mv (.t 96)⟩, ⟨(some 18), none, .mv (.t 97)⟩])
     (.seq (.seq (.reg false [⟨(some 98), none, .mv (.t 18)⟩, ⟨(some 99), none, .ic .neq (.t 98) (.c (.int .i64 0))⟩])
     (.cond (.t 99)
      (.seq (.reg false [⟨(some 100), none, .mv (.t 17)⟩, ⟨(some 101), none, .mv (.t 18)⟩, ⟨(some 4), none, .mv (.c (.sl .full 3 []))⟩, ⟨(some 5), none, .mv (.t 100)⟩, ⟨(some 6), none, .mv (.t 101)⟩])
      (.ret))
      (.skip)))
     (.seq (.dreg dl12_0 dp12_0)
     (.reg false [⟨(some 118), none, .mv (.t 7)⟩, ⟨(some 119), none, .mv (.t 17)⟩, ⟨(some 120), none, .nc (.t 118)⟩, ⟨(some 121), none, .fa 1 (.t 120)⟩, ⟨none, none, .sto 1 (.t 121) (.t 119)⟩])))))
    (.reg false [⟨(some 82), none, .mv (.t 7)⟩, ⟨(some 83), none, .call 25 [(.t 82)]⟩]))
def cc12 : CC :=
  .seq (.reg false [⟨(some 4), none, .mv (.c (.sl .full 3 []))⟩, ⟨(some 5), none, .mv (.c (.int .i64 0))⟩, ⟨(some 6), none, .mv (.c (.int .i64 0))⟩])
  (.seq (.reg false [⟨(some 19), none, .mv (.t 0)⟩, ⟨(some 20), none, .call 19 []⟩, ⟨(some 21), none, .mm⟩, ⟨(some 22), none, .mm⟩, ⟨(some 23), none, .bd [(.str []), (.int .i64 0), .nilmap, .nilmap, .nilmap] [(0, 1, (.t 19)), (2, 1, (.t 20)), (3, 1, (.t 21)), (4, 1, (.t 22))]⟩, ⟨(some 24), none, .bxS 43 (.t 23)⟩, ⟨(some 7), none, .mv (.t 24)⟩])
  (.seq (.seq (.reg false [⟨(some 25), none, .mv (.t 1)⟩, ⟨(some 26), none, .ln false (.t 25)⟩, ⟨(some 27), none, .mv (.c (.int .i64 0))⟩])
  (.block 0 (.loop (cc12_l0))))
  (.seq (.seq (.reg false [⟨(some 40), none, .call 20 []⟩, ⟨(some 41), none, .mv (.t 1)⟩, ⟨(some 42), none, .bs 22 1 [(.t 40), (.t 41)]⟩, ⟨(some 43), none, .ln false (.t 42)⟩, ⟨(some 44), none, .mv (.c (.int .i64 0))⟩])
  (.block 2 (.loop (cc12_l1))))
  (.seq (.seq (.reg false [⟨(some 61), none, .mv (.t 0)⟩, ⟨(some 62), none, .ln true (.t 61)⟩, ⟨(some 63), none, .ic .gtr (.t 62) (.c (.int .i64 65536))⟩])
  (.cond (.t 63)
   (.seq (.reg false [⟨(some 4), none, .mv (.c (.sl .full 3 []))⟩, ⟨(some 5), none, .mv (.c (.int .i64 0))⟩, ⟨(some 6), none, .mv (.c (.int .i64 5))⟩])
   (.ret))
   (.skip)))
  (.seq (.reg false [⟨(some 64), none, .mv (.t 7)⟩, ⟨(some 65), none, .mf (.func 21) [(.t 64)] []⟩, ⟨(some 66), none, .mv (.t 7)⟩, ⟨(some 67), none, .mf (.func 22) [(.t 66)] []⟩, ⟨(some 68), none, .mv (.t 7)⟩, ⟨(some 69), none, .mf (.func 23) [(.t 68)] []⟩, ⟨(some 70), none, .mv (.t 7)⟩, ⟨(some 71), none, .mf (.func 24) [(.t 70)] []⟩, ⟨(some 72), none, .bd [.nilfn, .nilfn, .nilfn, .nilfn] [(0, 1, (.t 65)), (1, 1, (.t 67)), (2, 1, (.t 69)), (3, 1, (.t 71))]⟩, ⟨(some 14), none, .al 47 [.nilfn, .nilfn, .nilfn, .nilfn]⟩, ⟨none, none, .sto 4 (.t 14) (.t 72)⟩])
  (.seq (.reg false [⟨(some 15), none, .mv (.c (.sl .full 3 []))⟩])
  (.seq (.seq (.reg false [⟨(some 73), none, .mv (.t 7)⟩, ⟨(some 74), none, .call 25 [(.t 73)]⟩])
  (.block 6 (.loop (cc12_l3))))
  (.seq (.reg false [⟨(some 122), none, .mv (.t 15)⟩, ⟨(some 123), none, .mv (.t 0)⟩, ⟨(some 124), none, .ln true (.t 123)⟩, ⟨(some 125), none, .bd [(.int .i64 0), (.str []), (.int .i64 0)] [(0, 1, (.c (.int .i64 4))), (2, 1, (.t 124))]⟩, ⟨(some 126), none, .bs 35 3 [(.t 125)]⟩, ⟨(some 127), none, .app 35 3 32 (.t 122) (.t 126)⟩, ⟨(some 4), none, .mv (.t 127)⟩, ⟨(some 5), none, .mv (.c (.int .i64 0))⟩, ⟨(some 6), none, .mv (.c (.int .i64 0))⟩])
  (.ret)))))))))
theorem comp12 : comp tt esc12 (Tryd.f12.body.getD .skip) = cc12 := by kernel_rfl
theorem has12 : Has Tryd.prog 12 := ⟨_, Tryd.func12, by kernel_rfl, by decide⟩
theorem enter12 (a0 a1 : AV) {M : Mem} {R : AEnd → Mem → Prop} (h : CWp none Tryd.prog tt esc12 cc12 (Am.Fin Tryd.prog Tryd.f12 R) { tmps := (.v a0 :: .v a1 :: .junk :: .junk :: .junk :: .junk :: .junk :: .junk :: .junk :: .junk :: .junk :: .junk :: .junk :: .junk :: .junk :: .junk :: .junk :: .junk :: .junk :: .junk :: .junk :: .junk :: .junk :: .junk :: .junk :: .junk :: .junk :: .junk :: .junk :: .junk :: .junk :: .junk :: .junk :: .junk :: .junk :: .junk :: .junk :: .junk :: .junk :: .junk :: .junk :: .junk :: .junk :: .junk :: .junk :: .junk :: .junk :: .junk :: .junk :: .junk :: .junk :: .junk :: .junk :: .junk :: .junk :: .junk :: .junk :: .junk :: .junk :: .junk :: .junk :: .junk :: .junk :: .junk :: .junk :: .junk :: .junk :: .junk :: .junk :: .junk :: .junk :: .junk :: .junk :: .junk :: .junk :: .junk :: .junk :: .junk :: .junk :: .junk :: .junk :: .junk :: .junk :: .junk :: .junk :: .junk :: .junk :: .junk :: .junk :: .junk :: .junk :: .junk :: .junk :: .junk :: .junk :: .junk :: .junk :: .junk :: .junk :: .junk :: .junk :: .junk :: .junk :: .junk :: .junk :: .junk :: .junk :: .junk :: .junk :: .junk :: .junk :: .junk :: .junk :: .junk :: .junk :: .junk :: .junk :: .junk :: .junk :: .junk :: .junk :: .junk :: .junk :: .junk :: .junk :: .junk :: .junk :: .junk :: []), loc := [], rows := [], defs := [], M := M }) : ACalls Tryd.prog 12 [a0, a1] M R := ACalls.of 126 cc12 Tryd.func12 (by kernel_rfl) rfl comp12 h

def lp13_0 (x0 x1 x7 : TV) : List TV := (x0 :: x1 :: .junk :: .junk :: .junk :: .junk :: .junk :: x7 :: .junk :: .junk :: .junk :: .junk :: .junk :: .junk :: .junk :: .junk :: .junk :: .junk :: .junk :: .junk :: .junk :: .junk :: .junk :: .junk :: .junk :: .junk :: .junk :: .junk :: .junk :: .junk :: .junk :: .junk :: .junk :: .junk :: .junk :: .junk :: .junk :: .junk :: .junk :: .junk :: .junk :: .junk :: .junk :: .junk :: .junk :: .junk :: .junk :: .junk :: .junk :: .junk :: .junk :: .junk :: .junk :: .junk :: .junk :: .junk :: .junk :: .junk :: .junk :: .junk :: .junk :: .junk :: .junk :: .junk :: .junk :: .junk :: [])

def lp13_1 (x0 x1 x8 x9 : TV) : List TV := (x0 :: x1 :: .junk :: .junk :: .junk :: .junk :: .junk :: .junk :: x8 :: x9 :: .junk :: .junk :: .junk :: .junk :: .junk :: .junk :: .junk :: .junk :: .junk :: .junk :: .junk :: .junk :: .junk :: .junk :: .junk :: .junk :: .junk :: .junk :: .junk :: .junk :: .junk :: .junk :: .junk :: .junk :: .junk :: .junk :: .junk :: .junk :: .junk :: .junk :: .junk :: .junk :: .junk :: .junk :: .junk :: .junk :: .junk :: .junk :: .junk :: .junk :: .junk :: .junk :: .junk :: .junk :: .junk :: .junk :: .junk :: .junk :: .junk :: .junk :: .junk :: .junk :: .junk :: .junk :: .junk :: .junk :: [])

/-- euclid/euclidref24.Scan (2 parameters, 0 captured, 66 slots) -/
def esc13 : List Nat := []
def cc13_l0 : CC :=
  .seq (.seq (.reg false [⟨(some 13), none, .mv (.t 7)⟩, ⟨(some 14), none, .mv (.t 1)⟩, ⟨(some 15), none, .ln false (.t 14)⟩, ⟨(some 16), none, .ic .lss (.t 13) (.t 15)⟩])
    (.cond (.t 16)
     (.skip)
     (.exit 0)))
    (.seq (.block 1 (.seq (.reg false [⟨(some 19), none, .mv (.t 1)⟩, ⟨(some 20), none, .mv (.t 7)⟩, ⟨(some 21), none, .ia 1 (.t 19) (.t 20)⟩, ⟨(some 22), none, .ld 1 false (.t 21)⟩, ⟨(some 23), none, .call 18 [(.t 22)]⟩, ⟨(some 24), none, .no (.t 23)⟩])
     (.cond (.t 24)
      (.seq (.reg false [⟨(some 4), none, .mv (.c (.sl .full 3 []))⟩, ⟨(some 5), none, .mv (.c (.int .i64 0))⟩, ⟨(some 6), none, .mv (.c (.int .i64 1))⟩])
      (.ret))
      (.skip))))
    (.reg false [⟨(some 17), none, .mv (.t 7)⟩, ⟨(some 18), none, .ar .add (.t 17) (.c (.int .i64 1))⟩, ⟨(some 7), none, .mv (.t 18)⟩]))
def cc13_l1 : CC :=
  .seq (.seq (.reg false [⟨(some 30), none, .mv (.t 9)⟩, ⟨(some 31), none, .mv (.t 0)⟩, ⟨(some 32), none, .ln true (.t 31)⟩, ⟨(some 33), none, .ic .lss (.t 30) (.t 32)⟩])
    (.cond (.t 33)
     (.skip)
     (.exit 2)))
    (.seq (.block 3 (.seq (.reg false [⟨(some 38), none, .mv (.t 0)⟩, ⟨(some 39), none, .mv (.t 9)⟩, ⟨(some 40), none, .mv (.t 1)⟩, ⟨(some 41), none, .call 28 [(.t 38), (.t 39), (.t 40)]⟩, ⟨(some 37), none, .mv (.t 41)⟩, ⟨(some 42), none, .ex (.t 37) 0⟩, ⟨(some 43), none, .ex (.t 37) 1⟩, ⟨(some 44), none, .ex (.t 37) 2⟩, ⟨(some 10), none, .mv (.t 42)⟩, ⟨(some 11), none, .mv (.t 43)⟩, ⟨(some 12), none, .mv (.t 44)⟩])
     (.seq (.seq (.reg false [⟨(some 45), none, .mv (.t 12)⟩, ⟨(some 46), none, .ic .neq (.t 45) (.c (.int .i64 0))⟩])
     (.cond (.t 46)
      (.seq (.reg false [⟨(some 47), none, .mv (.t 11)⟩, ⟨(some 48), none, .mv (.t 12)⟩, ⟨(some 4), none, .mv (.c (.sl .full 3 []))⟩, ⟨(some 5), none, .mv (.t 47)⟩, ⟨(some 6), none, .mv (.t 48)⟩])
      (.ret))
      (.skip)))
     (.seq (.reg false [⟨(some 49), none, .mv (.t 8)⟩, ⟨(some 50), none, .mv (.t 10)⟩, ⟨(some 51), none, .mv (.t 0)⟩, ⟨(some 52), none, .mv (.t 9)⟩, ⟨(some 53), none, .mv (.t 11)⟩, ⟨(some 54), none, .ss (.t 51) (some (.t 52)) (some (.t 53))⟩, ⟨(some 55), none, .mv (.t 9)⟩, ⟨(some 56), none, .bd [(.int .i64 0), (.str []), (.int .i64 0)] [(0, 1, (.t 50)), (1, 1, (.t 54)), (2, 1, (.t 55))]⟩, ⟨(some 57), none, .bs 35 3 [(.t 56)]⟩, ⟨(some 58), none, .app 35 3 32 (.t 49) (.t 57)⟩, ⟨(some 8), none, .mv (.t 58)⟩])
     (.reg false [⟨(some 59), none, .mv (.t 11)⟩, ⟨(some 9), none, .mv (.t 59)⟩])))))
    (.reg false [⟨(some 34), none, .mv (.t 0)⟩, ⟨(some 35), none, .mv (.t 9)⟩, ⟨(some 36), none, .call 27 [(.t 34), (.t 35)]⟩, ⟨(some 9), none, .mv (.t 36)⟩]))
def cc13 : CC :=
  .seq (.reg false [⟨(some 4), none, .mv (.c (.sl .full 3 []))⟩, ⟨(some 5), none, .mv (.c (.int .i64 0))⟩, ⟨(some 6), none, .mv (.c (.int .i64 0))⟩])
  (.seq (.seq (.reg false [⟨(some 7), none, .mv (.c (.int .i64 0))⟩])
  (.block 0 (.loop (cc13_l0))))
  (.seq (.seq (.reg false [⟨(some 25), none, .mv (.t 0)⟩, ⟨(some 26), none, .ln true (.t 25)⟩, ⟨(some 27), none, .ic .gtr (.t 26) (.c (.int .i64 65536))⟩])
  (.cond (.t 27)
   (.seq (.reg false [⟨(some 4), none, .mv (.c (.sl .full 3 []))⟩, ⟨(some 5), none, .mv (.c (.int .i64 0))⟩, ⟨(some 6), none, .mv (.c (.int .i64 5))⟩])
   (.ret))
   (.skip)))
  (.seq (.reg false [⟨(some 8), none, .mv (.c (.sl .full 3 []))⟩])
  (.seq (.seq (.reg false [⟨(some 28), none, .mv (.t 0)⟩, ⟨(some 29), none, .call 27 [(.t 28), (.c (.int .i64 0))]⟩, ⟨(some 9), none, .mv (.t 29)⟩])
  (.block 2 (.loop (cc13_l1))))
  (.seq (.reg false [⟨(some 60), none, .mv (.t 8)⟩, ⟨(some 61), none, .mv (.t 0)⟩, ⟨(some 62), none, .ln true (.t 61)⟩, ⟨(some 63), none, .bd [(.int .i64 0), (.str []), (.int .i64 0)] [(0, 1, (.c (.int .i64 4))), (2, 1, (.t 62))]⟩, ⟨(some 64), none, .bs 35 3 [(.t 63)]⟩, ⟨(some 65), none, .app 35 3 32 (.t 60) (.t 64)⟩, ⟨(some 4), none, .mv (.t 65)⟩, ⟨(some 5), none, .mv (.c (.int .i64 0))⟩, ⟨(some 6), none, .mv (.c (.int .i64 0))⟩])
  (.ret))))))
theorem comp13 : comp tt esc13 (Tryd.f13.body.getD .skip) = cc13 := by kernel_rfl
theorem has13 : Has Tryd.prog 13 := ⟨_, Tryd.func13, by kernel_rfl, by decide⟩
theorem enter13 (a0 a1 : AV) {M : Mem} {R : AEnd → Mem → Prop} (h : CWp none Tryd.prog tt esc13 cc13 (Am.Fin Tryd.prog Tryd.f13 R) { tmps := (.v a0 :: .v a1 :: .junk :: .junk :: .junk :: .junk :: .junk :: .junk :: .junk :: .junk :: .junk :: .junk :: .junk :: .junk :: .junk :: .junk :: .junk :: .junk :: .junk :: .junk :: .junk :: .junk :: .junk :: .junk :: .junk :: .junk :: .junk :: .junk :: .junk :: .junk :: .junk :: .junk :: .junk :: .junk :: .junk :: .junk :: .junk :: .junk :: .junk :: .junk :: .junk :: .junk :: .junk :: .junk :: .junk :: .junk :: .junk :: .junk :: .junk :: .junk :: .junk :: .junk :: .junk :: .junk :: .junk :: .junk :: .junk :: .junk :: .junk :: .junk :: .junk :: .junk :: .junk :: .junk :: .junk :: .junk :: []), loc := [], rows := [], defs := [], M := M }) : ACalls Tryd.prog 13 [a0, a1] M R := ACalls.of 64 cc13 Tryd.func13 (by kernel_rfl) rfl comp13 h

def lp14_0 (x0 x1 x2 x7 : TV) : List TV := (x0 :: x1 :: x2 :: .junk :: .junk :: .junk :: .junk :: x7 :: .junk :: .junk :: .junk :: .junk :: .junk :: .junk :: .junk :: .junk :: .junk :: .junk :: .junk :: .junk :: .junk :: .junk :: .junk :: .junk :: .junk :: .junk :: .junk :: .junk :: .junk :: .junk :: .junk :: .junk :: .junk :: .junk :: .junk :: .junk :: .junk :: .junk :: .junk :: .junk :: .junk :: .junk :: .junk :: .junk :: .junk :: .junk :: .junk :: .junk :: .junk :: .junk :: .junk :: .junk :: .junk :: .junk :: .junk :: .junk :: .junk :: .junk :: .junk :: .junk :: [])

/-- euclid/euclidref24.Same (3 parameters, 0 captured, 60 slots) -/
def esc14 : List Nat := []
def dl14_0 : List COp := (⟨(some 19), none, .mv (.t 0)⟩ :: ⟨(some 20), none, .mv (.t 7)⟩ :: ⟨(some 21), none, .ia 3 (.t 19) (.t 20)⟩ :: ⟨(some 22), none, .fa 0 (.t 21)⟩ :: ⟨(some 23), none, .ld 1 false (.t 22)⟩ :: ⟨(some 24), none, .mv (.t 1)⟩ :: ⟨(some 25), none, .mv (.t 7)⟩ :: ⟨(some 26), none, .ia 3 (.t 24) (.t 25)⟩ :: ⟨(some 27), none, .fa 0 (.t 26)⟩ :: ⟨(some 28), none, .ld 1 false (.t 27)⟩ :: ⟨(some 29), none, .ic .neq (.t 23) (.t 28)⟩ :: ⟨(some 30), none, .mv (.t 29)⟩ :: ⟨(some 31), (some (30, false)), .mv (.t 0)⟩ :: ⟨(some 32), (some (30, false)), .mv (.t 7)⟩ :: ⟨(some 33), (some (30, false)), .ia 3 (.t 31) (.t 32)⟩ :: ⟨(some 34), (some (30, false)), .fa 1 (.t 33)⟩ :: ⟨(some 35), (some (30, false)), .ld 1 false (.t 34)⟩ :: ⟨(some 36), (some (30, false)), .mv (.t 1)⟩ :: ⟨(some 37), (some (30, false)), .mv (.t 7)⟩ :: ⟨(some 38), (some (30, false)), .ia 3 (.t 36) (.t 37)⟩ :: ⟨(some 39), (some (30, false)), .fa 1 (.t 38)⟩ :: ⟨(some 40), (some (30, false)), .ld 1 false (.t 39)⟩ :: ⟨(some 41), (some (30, false)), .sc .neq (.t 35) (.t 40)⟩ :: ⟨(some 42), none, .pick (.t 30) (.c (.bool true)) (.t 41)⟩ :: ⟨(some 43), none, .mv (.t 42)⟩ :: ⟨(some 44), (some (43, false)), .mv (.t 2)⟩ :: ⟨(some 45), (some (43, false)), .no (.t 44)⟩ :: ⟨(some 46), (some (43, false)), .mv (.t 45)⟩ :: ⟨(some 47), (some (46, true)), .mv (.t 0)⟩ :: ⟨(some 48), (some (46, true)), .mv (.t 7)⟩ :: ⟨(some 49), (some (46, true)), .ia 3 (.t 47) (.t 48)⟩ :: ⟨(some 50), (some (46, true)), .fa 2 (.t 49)⟩ :: ⟨(some 51), (some (46, true)), .ld 1 false (.t 50)⟩ :: ⟨(some 52), (some (46, true)), .mv (.t 1)⟩ :: ⟨(some 53), (some (46, true)), .mv (.t 7)⟩ :: ⟨(some 54), (some (46, true)), .ia 3 (.t 52) (.t 53)⟩ :: ⟨(some 55), (some (46, true)), .fa 2 (.t 54)⟩ :: ⟨(some 56), (some (46, true)), .ld 1 false (.t 55)⟩ :: ⟨(some 57), (some (46, true)), .ic .neq (.t 51) (.t 56)⟩ :: ⟨(some 58), (some (43, false)), .pick (.t 46) (.t 57) (.c (.bool false))⟩ :: ⟨(some 59), none, .pick (.t 43) (.c (.bool true)) (.t 58)⟩ :: [])
def dp14_0 : List (List Nat) := [[], [], [0, 1], [2], [3], [], [], [5, 6], [7], [8], [4, 9], [10], [11], [11], [12, 13, 11], [14, 11], [15, 11], [11], [11], [17, 18, 11], [19, 11], [20, 11], [16, 21, 11], [11, 22], [23, 11], [24], [25, 24], [26, 24, 24], [27], [27], [28, 29, 27], [30, 27], [31, 27], [27], [27], [33, 34, 27], [35, 27], [36, 27], [32, 37, 27], [27, 38, 24], [24, 39]]
def dk14_0 : List (List Nat) := [[], [], [], [], [], [], [], [], [], [], [], [], [], [], [], [], [], [], [], [], [], [], [], [], [], [], [], [], [], [], [], [], [], [], [], [], [], [], [], [], []]
theorem dr14_0 : DrawOk dl14_0 dp14_0 dk14_0 ((0, ⟨(some 19), none, .mv (.t 0)⟩, []) :: (1, ⟨(some 20), none, .mv (.t 7)⟩, []) :: (2, ⟨(some 21), none, .ia 3 (.t 19) (.t 20)⟩, []) :: (3, ⟨(some 22), none, .fa 0 (.t 21)⟩, []) :: (4, ⟨(some 23), none, .ld 1 false (.t 22)⟩, []) :: (5, ⟨(some 24), none, .mv (.t 1)⟩, []) :: (6, ⟨(some 25), none, .mv (.t 7)⟩, []) :: (7, ⟨(some 26), none, .ia 3 (.t 24) (.t 25)⟩, []) :: (8, ⟨(some 27), none, .fa 0 (.t 26)⟩, []) :: (9, ⟨(some 28), none, .ld 1 false (.t 27)⟩, []) :: (10, ⟨(some 29), none, .ic .neq (.t 23) (.t 28)⟩, []) :: (11, ⟨(some 30), none, .mv (.t 29)⟩, []) :: (12, ⟨(some 31), (some (30, false)), .mv (.t 0)⟩, []) :: (13, ⟨(some 32), (some (30, false)), .mv (.t 7)⟩, []) :: (14, ⟨(some 33), (some (30, false)), .ia 3 (.t 31) (.t 32)⟩, []) :: (15, ⟨(some 34), (some (30, false)), .fa 1 (.t 33)⟩, []) :: (16, ⟨(some 35), (some (30, false)), .ld 1 false (.t 34)⟩, []) :: (17, ⟨(some 36), (some (30, false)), .mv (.t 1)⟩, []) :: (18, ⟨(some 37), (some (30, false)), .mv (.t 7)⟩, []) :: (19, ⟨(some 38), (some (30, false)), .ia 3 (.t 36) (.t 37)⟩, []) :: (20, ⟨(some 39), (some (30, false)), .fa 1 (.t 38)⟩, []) :: (21, ⟨(some 40), (some (30, false)), .ld 1 false (.t 39)⟩, []) :: (22, ⟨(some 41), (some (30, false)), .sc .neq (.t 35) (.t 40)⟩, []) :: (23, ⟨(some 42), none, .pick (.t 30) (.c (.bool true)) (.t 41)⟩, []) :: (24, ⟨(some 43), none, .mv (.t 42)⟩, []) :: (25, ⟨(some 44), (some (43, false)), .mv (.t 2)⟩, []) :: (26, ⟨(some 45), (some (43, false)), .no (.t 44)⟩, []) :: (27, ⟨(some 46), (some (43, false)), .mv (.t 45)⟩, []) :: (28, ⟨(some 47), (some (46, true)), .mv (.t 0)⟩, []) :: (29, ⟨(some 48), (some (46, true)), .mv (.t 7)⟩, []) :: (30, ⟨(some 49), (some (46, true)), .ia 3 (.t 47) (.t 48)⟩, []) :: (31, ⟨(some 50), (some (46, true)), .fa 2 (.t 49)⟩, []) :: (32, ⟨(some 51), (some (46, true)), .ld 1 false (.t 50)⟩, []) :: (33, ⟨(some 52), (some (46, true)), .mv (.t 1)⟩, []) :: (34, ⟨(some 53), (some (46, true)), .mv (.t 7)⟩, []) :: (35, ⟨(some 54), (some (46, true)), .ia 3 (.t 52) (.t 53)⟩, []) :: (36, ⟨(some 55), (some (46, true)), .fa 2 (.t 54)⟩, []) :: (37, ⟨(some 56), (some (46, true)), .ld 1 false (.t 55)⟩, []) :: (38, ⟨(some 57), (some (46, true)), .ic .neq (.t 51) (.t 56)⟩, []) :: (39, ⟨(some 58), (some (43, false)), .pick (.t 46) (.t 57) (.c (.bool false))⟩, []) :: (40, ⟨(some 59), none, .pick (.t 43) (.c (.bool true)) (.t 58)⟩, []) :: []) := ⟨⟨[0, 1, 2, 3, 4, 5, 6, 7, 8, 9, 10, 11, 12, 13, 14, 15, 16, 17, 18, 19, 20, 21, 22, 23, 24, 25, 26, 27, 28, 29, 30, 31, 32, 33, 34, 35, 36, 37, 38, 39, 40], rfl, by kernel_rfl, by kernel_rfl⟩, by kernel_rfl⟩
def cc14_l0 : CC :=
  .seq (.seq (.reg false [⟨(some 13), none, .mv (.t 7)⟩, ⟨(some 14), none, .mv (.t 0)⟩, ⟨(some 15), none, .ln false (.t 14)⟩, ⟨(some 16), none, .ic .lss (.t 13) (.t 15)⟩])
    (.cond (.t 16)
     (.skip)
     (.exit 0)))
    (.seq (.block 1 (.seq (.dreg dl14_0 dp14_0)
     (.cond (.t 59)
      (.seq (.reg false [⟨(some 6), none, .mv (.c (.bool false))⟩])
      (.ret))
      (.skip))))
    (.reg false [⟨(some 17), none, .mv (.t 7)⟩, ⟨(some 18), none, .ar .add (.t 17) (.c (.int .i64 1))⟩, ⟨(some 7), none, .mv (.t 18)⟩]))
def cc14 : CC :=
  .seq (.reg false [⟨(some 6), none, .mv (.c (.bool false))⟩])
  (.seq (.seq (.reg false [⟨(some 8), none, .mv (.t 0)⟩, ⟨(some 9), none, .ln false (.t 8)⟩, ⟨(some 10), none, .mv (.t 1)⟩, ⟨(some 11), none, .ln false (.t 10)⟩, ⟨(some 12), none, .ic .neq (.t 9) (.t 11)⟩])
  (.cond (.t 12)
   (.seq (.reg false [⟨(some 6), none, .mv (.c (.bool false))⟩])
   (.ret))
   (.skip)))
  (.seq (.seq (.reg false [⟨(some 7), none, .mv (.c (.int .i64 0))⟩])
  (.block 0 (.loop (cc14_l0))))
  (.seq (.reg false [⟨(some 6), none, .mv (.c (.bool true))⟩])
  (.ret))))
theorem comp14 : comp tt esc14 (Tryd.f14.body.getD .skip) = cc14 := by kernel_rfl
theorem has14 : Has Tryd.prog 14 := ⟨_, Tryd.func14, by kernel_rfl, by decide⟩
theorem enter14 (a0 a1 a2 : AV) {M : Mem} {R : AEnd → Mem → Prop} (h : CWp none Tryd.prog tt esc14 cc14 (Am.Fin Tryd.prog Tryd.f14 R) { tmps := (.v a0 :: .v a1 :: .v a2 :: .junk :: .junk :: .junk :: .junk :: .junk :: .junk :: .junk :: .junk :: .junk :: .junk :: .junk :: .junk :: .junk :: .junk :: .junk :: .junk :: .junk :: .junk :: .junk :: .junk :: .junk :: .junk :: .junk :: .junk :: .junk :: .junk :: .junk :: .junk :: .junk :: .junk :: .junk :: .junk :: .junk :: .junk :: .junk :: .junk :: .junk :: .junk :: .junk :: .junk :: .junk :: .junk :: .junk :: .junk :: .junk :: .junk :: .junk :: .junk :: .junk :: .junk :: .junk :: .junk :: .junk :: .junk :: .junk :: .junk :: .junk :: []), loc := [], rows := [], defs := [], M := M }) : ACalls Tryd.prog 14 [a0, a1, a2] M R := ACalls.of 57 cc14 Tryd.func14 (by kernel_rfl) rfl comp14 h

/-- euclid/lexer.Keyword (1 parameters, 0 captured, 6 slots) -/
def esc15 : List Nat := []
def cc15 : CC :=
  .seq (.reg false [⟨(some 2), none, .mv (.c (.bool false))⟩])
  (.seq (.reg false [⟨(some 3), none, .call 19 []⟩, ⟨(some 4), none, .mv (.t 0)⟩, ⟨(some 5), none, .lk false (.bool false) (.t 3) (.t 4)⟩, ⟨(some 2), none, .mv (.t 5)⟩])
  (.ret))
theorem comp15 : comp tt esc15 (Tryd.f15.body.getD .skip) = cc15 := by kernel_rfl
theorem has15 : Has Tryd.prog 15 := ⟨_, Tryd.func15, by kernel_rfl, by decide⟩
theorem enter15 (a0 : AV) {M : Mem} {R : AEnd → Mem → Prop} (h : CWp none Tryd.prog tt esc15 cc15 (Am.Fin Tryd.prog Tryd.f15 R) { tmps := [.v a0, .junk, .junk, .junk, .junk, .junk], loc := [], rows := [], defs := [], M := M }) : ACalls Tryd.prog 15 [a0] M R := ACalls.of 5 cc15 Tryd.func15 (by kernel_rfl) rfl comp15 h

def lp16_0 (x0 x3 x4 : TV) : List TV := [x0, .junk, .junk, x3, x4, .junk, .junk, .junk, .junk, .junk, .junk, .junk, .junk, .junk, .junk, .junk, .junk, .junk]

/-- euclid/euclidref24.Keyword (1 parameters, 0 captured, 18 slots) -/
def esc16 : List Nat := []
def cc16_l0 : CC :=
  .seq (.seq (.reg false [⟨(some 6), none, .mv (.t 4)⟩, ⟨(some 7), none, .mv (.t 3)⟩, ⟨(some 8), none, .ln false (.t 7)⟩, ⟨(some 9), none, .ic .lss (.t 6) (.t 8)⟩])
    (.cond (.t 9)
     (.skip)
     (.exit 0)))
    (.seq (.block 1 (.seq (.reg false [⟨(some 12), none, .mv (.t 3)⟩, ⟨(some 13), none, .mv (.t 4)⟩, ⟨(some 14), none, .ia 1 (.t 12) (.t 13)⟩, ⟨(some 15), none, .ld 1 false (.t 14)⟩, ⟨(some 16), none, .mv (.t 0)⟩, ⟨(some 17), none, .sc .eql (.t 15) (.t 16)⟩])
     (.cond (.t 17)
      (.seq (.reg false [⟨(some 2), none, .mv (.c (.bool true))⟩])
      (.ret))
      (.skip))))
    (.reg false [⟨(some 10), none, .mv (.t 4)⟩, ⟨(some 11), none, .ar .add (.t 10) (.c (.int .i64 1))⟩, ⟨(some 4), none, .mv (.t 11)⟩]))
def cc16 : CC :=
  .seq (.reg false [⟨(some 2), none, .mv (.c (.bool false))⟩])
  (.seq (.reg false [⟨(some 5), none, .bs 9 1 [(.c (.str [102, 117, 110])), (.c (.str [108, 101, 116])), (.c (.str [105, 110])), (.c (.str [83, 105, 103, 109, 97])), (.c (.str [80, 114, 111, 112])), (.c (.str [84, 121, 112, 101])), (.c (.str [98, 121])), (.c (.str [97, 120, 105, 111, 109])), (.c (.str [100, 101, 102])), (.c (.str [116, 104, 101, 111, 114, 101, 109])), (.c (.str [105, 110, 100, 117, 99, 116, 105, 118, 101])), (.c (.str [102, 117, 110, 99, 116, 105, 111, 110])), (.c (.str [97, 110, 100])), (.c (.str [101, 110, 100])), (.c (.str [99, 108, 97, 115, 115])), (.c (.str [105, 110, 115, 116, 97, 110, 99, 101])), (.c (.str [110, 111, 116, 97, 116, 105, 111, 110])), (.c (.str [110, 97, 109, 101, 115, 112, 97, 99, 101])), (.c (.str [111, 112, 101, 110])), (.c (.str [99, 104, 101, 99, 107])), (.c (.str [101, 118, 97, 108])), (.c (.str [105, 109, 112, 111, 114, 116]))]⟩, ⟨(some 3), none, .mv (.t 5)⟩])
  (.seq (.seq (.reg false [⟨(some 4), none, .mv (.c (.int .i64 0))⟩])
  (.block 0 (.loop (cc16_l0))))
  (.seq (.reg false [⟨(some 2), none, .mv (.c (.bool false))⟩])
  (.ret))))
theorem comp16 : comp tt esc16 (Tryd.f16.body.getD .skip) = cc16 := by kernel_rfl
theorem has16 : Has Tryd.prog 16 := ⟨_, Tryd.func16, by kernel_rfl, by decide⟩
theorem enter16 (a0 : AV) {M : Mem} {R : AEnd → Mem → Prop} (h : CWp none Tryd.prog tt esc16 cc16 (Am.Fin Tryd.prog Tryd.f16 R) { tmps := [.v a0, .junk, .junk, .junk, .junk, .junk, .junk, .junk, .junk, .junk, .junk, .junk, .junk, .junk, .junk, .junk, .junk, .junk], loc := [], rows := [], defs := [], M := M }) : ACalls Tryd.prog 16 [a0] M R := ACalls.of 17 cc16 Tryd.func16 (by kernel_rfl) rfl comp16 h

def lp17_0 (x0 x14 x15 : TV) : List TV := (x0 :: .junk :: .junk :: .junk :: .junk :: .junk :: .junk :: .junk :: .junk :: .junk :: .junk :: .junk :: .junk :: .junk :: x14 :: x15 :: .junk :: .junk :: .junk :: .junk :: .junk :: .junk :: .junk :: .junk :: .junk :: .junk :: .junk :: .junk :: .junk :: .junk :: .junk :: .junk :: .junk :: .junk :: .junk :: .junk :: .junk :: .junk :: .junk :: .junk :: .junk :: .junk :: .junk :: .junk :: .junk :: .junk :: .junk :: .junk :: .junk :: .junk :: .junk :: .junk :: .junk :: .junk :: .junk :: .junk :: .junk :: .junk :: .junk :: .junk :: .junk :: .junk :: .junk :: [])

def lp17_1 (x0 x32 x33 : TV) : List TV := (x0 :: .junk :: .junk :: .junk :: .junk :: .junk :: .junk :: .junk :: .junk :: .junk :: .junk :: .junk :: .junk :: .junk :: .junk :: .junk :: .junk :: .junk :: .junk :: .junk :: .junk :: .junk :: .junk :: .junk :: .junk :: .junk :: .junk :: .junk :: .junk :: .junk :: .junk :: .junk :: x32 :: x33 :: .junk :: .junk :: .junk :: .junk :: .junk :: .junk :: .junk :: .junk :: .junk :: .junk :: .junk :: .junk :: .junk :: .junk :: .junk :: .junk :: .junk :: .junk :: .junk :: .junk :: .junk :: .junk :: .junk :: .junk :: .junk :: .junk :: .junk :: .junk :: .junk :: [])

def lp17_2 (x0 x51 x52 x53 : TV) : List TV := (x0 :: .junk :: .junk :: .junk :: .junk :: .junk :: .junk :: .junk :: .junk :: .junk :: .junk :: .junk :: .junk :: .junk :: .junk :: .junk :: .junk :: .junk :: .junk :: .junk :: .junk :: .junk :: .junk :: .junk :: .junk :: .junk :: .junk :: .junk :: .junk :: .junk :: .junk :: .junk :: .junk :: .junk :: .junk :: .junk :: .junk :: .junk :: .junk :: .junk :: .junk :: .junk :: .junk :: .junk :: .junk :: .junk :: .junk :: .junk :: .junk :: .junk :: .junk :: x51 :: x52 :: x53 :: .junk :: .junk :: .junk :: .junk :: .junk :: .junk :: .junk :: .junk :: .junk :: [])

/-- euclid/lexer.Symbol (1 parameters, 0 captured, 63 slots) -/
def esc17 : List Nat := []
def cc17_l0 : CC :=
  .seq (.reg false [⟨(some 16), none, .ic .lss (.t 15) (.t 14)⟩])
     (.seq (.cond (.t 16)
      (.skip)
      (.exit 0))
     (.seq (.block 1 (.seq (.reg false [⟨(some 17), none, .mv (.t 15)⟩, ⟨(some 3), none, .mv (.t 17)⟩])
      (.seq (.reg false [⟨(some 18), none, .mv (.t 0)⟩, ⟨(some 19), none, .mv (.t 3)⟩, ⟨(some 20), none, .si (.t 18) (.t 19)⟩, ⟨(some 21), none, .call 29 [(.t 20)]⟩, ⟨(some 22), none, .no (.t 21)⟩])
      (.cond (.t 22)
       (.seq (.reg false [⟨(some 2), none, .mv (.c (.bool false))⟩])
       (.ret))
       (.skip)))))
     (.reg false [⟨(some 23), none, .ar .add (.t 15) (.c (.int .i64 1))⟩, ⟨(some 15), none, .mv (.t 23)⟩])))
def cc17_l1 : CC :=
  .seq (.reg false [⟨(some 34), none, .ic .lss (.t 33) (.t 32)⟩])
    (.seq (.cond (.t 34)
     (.skip)
     (.exit 2))
    (.seq (.block 3 (.seq (.reg false [⟨(some 35), none, .mv (.t 33)⟩, ⟨(some 4), none, .mv (.t 35)⟩])
     (.seq (.reg false [⟨(some 36), none, .mv (.t 0)⟩, ⟨(some 37), none, .mv (.t 4)⟩, ⟨(some 38), none, .mv (.t 4)⟩, ⟨(some 39), none, .ar .add (.t 38) (.c (.int .i64 1))⟩, ⟨(some 40), none, .ss (.t 36) (some (.t 37)) (some (.t 39))⟩, ⟨(some 41), none, .call 30 [(.c (.str [33, 35, 36, 37, 38, 42, 43, 45, 47, 58, 60, 61, 62, 63, 64, 92, 94, 124, 126])), (.t 40)]⟩, ⟨(some 42), none, .no (.t 41)⟩])
     (.cond (.t 42)
      (.seq (.reg false [⟨(some 2), none, .mv (.c (.bool false))⟩])
      (.ret))
      (.skip)))))
    (.reg false [⟨(some 43), none, .ar .add (.t 33) (.c (.int .i64 1))⟩, ⟨(some 33), none, .mv (.t 43)⟩])))
def cc17_l2 : CC :=
  .seq (.reg false [⟨(some 54), none, .ic .lss (.t 53) (.t 52)⟩])
    (.seq (.cond (.t 54)
     (.skip)
     (.exit 4))
    (.seq (.block 5 (.seq (.reg false [⟨(some 55), none, .ia 1 (.t 51) (.t 53)⟩, ⟨(some 56), none, .ld 1 false (.t 55)⟩, ⟨(some 6), none, .mv (.t 56)⟩])
     (.seq (.reg false [⟨(some 57), none, .mv (.t 6)⟩, ⟨(some 58), none, .mv (.t 0)⟩, ⟨(some 59), none, .sc .eql (.t 57) (.t 58)⟩])
     (.cond (.t 59)
      (.seq (.reg false [⟨(some 60), none, .mv (.t 0)⟩, ⟨(some 61), none, .sc .eql (.t 60) (.c (.str [43]))⟩, ⟨(some 2), none, .mv (.t 61)⟩])
      (.ret))
      (.skip)))))
    (.reg false [⟨(some 62), none, .ar .add (.t 53) (.c (.int .i64 1))⟩, ⟨(some 53), none, .mv (.t 62)⟩])))
def cc17 : CC :=
  .seq (.reg false [⟨(some 2), none, .mv (.c (.bool false))⟩])
  (.seq (.seq (.reg false [⟨(some 7), none, .mv (.t 0)⟩, ⟨(some 8), none, .sc .eql (.t 7) (.c (.str []))⟩])
  (.cond (.t 8)
   (.seq (.reg false [⟨(some 2), none, .mv (.c (.bool false))⟩])
   (.ret))
   (.skip)))
  (.seq (.seq (.reg false [⟨(some 9), none, .mv (.t 0)⟩, ⟨(some 10), none, .si (.t 9) (.c (.int .i64 0))⟩, ⟨(some 11), none, .call 26 [(.t 10)]⟩, ⟨(some 12), none, .ic .eql (.t 11) (.c (.int .i64 1))⟩])
  (.cond (.t 12)
   (.seq (.seq (.reg false [⟨(some 13), none, .mv (.t 0)⟩, ⟨(some 14), none, .ln true (.t 13)⟩, ⟨(some 15), none, .mv (.c (.int .i64 0))⟩])
   (.block 0 (.loop (cc17_l0))))
   (.seq (.reg false [⟨(some 24), none, .mv (.t 0)⟩, ⟨(some 25), none, .sc .neq (.t 24) (.c (.str [95]))⟩, ⟨(some 26), none, .mv (.t 25)⟩, ⟨(some 27), (some (26, true)), .mv (.t 0)⟩, ⟨(some 28), (some (26, true)), .call 15 [(.t 27)]⟩, ⟨(some 29), (some (26, true)), .no (.t 28)⟩, ⟨(some 30), none, .pick (.t 26) (.t 29) (.c (.bool false))⟩, ⟨(some 2), none, .mv (.t 30)⟩])
   (.ret)))
   (.skip)))
  (.seq (.seq (.reg false [⟨(some 31), none, .mv (.t 0)⟩, ⟨(some 32), none, .ln true (.t 31)⟩, ⟨(some 33), none, .mv (.c (.int .i64 0))⟩])
  (.block 2 (.loop (cc17_l1))))
  (.seq (.seq (.reg false [⟨(some 44), none, .mv (.t 0)⟩, ⟨(some 45), none, .ln true (.t 44)⟩, ⟨(some 46), none, .ic .gtr (.t 45) (.c (.int .i64 8))⟩, ⟨(some 47), none, .mv (.t 46)⟩, ⟨(some 48), (some (47, false)), .mv (.t 0)⟩, ⟨(some 49), (some (47, false)), .call 30 [(.t 48), (.c (.str [45, 45]))]⟩, ⟨(some 50), none, .pick (.t 47) (.c (.bool true)) (.t 49)⟩])
  (.cond (.t 50)
   (.seq (.reg false [⟨(some 2), none, .mv (.c (.bool false))⟩])
   (.ret))
   (.skip)))
  (.seq (.seq (.reg false [⟨(some 51), none, .call 20 []⟩, ⟨(some 52), none, .ln false (.t 51)⟩, ⟨(some 53), none, .mv (.c (.int .i64 0))⟩])
  (.block 4 (.loop (cc17_l2))))
  (.seq (.reg false [⟨(some 2), none, .mv (.c (.bool true))⟩])
  (.ret)))))))
theorem comp17 : comp tt esc17 (Tryd.f17.body.getD .skip) = cc17 := by kernel_rfl
theorem has17 : Has Tryd.prog 17 := ⟨_, Tryd.func17, by kernel_rfl, by decide⟩
theorem enter17 (a0 : AV) {M : Mem} {R : AEnd → Mem → Prop} (h : CWp none Tryd.prog tt esc17 cc17 (Am.Fin Tryd.prog Tryd.f17 R) { tmps := (.v a0 :: .junk :: .junk :: .junk :: .junk :: .junk :: .junk :: .junk :: .junk :: .junk :: .junk :: .junk :: .junk :: .junk :: .junk :: .junk :: .junk :: .junk :: .junk :: .junk :: .junk :: .junk :: .junk :: .junk :: .junk :: .junk :: .junk :: .junk :: .junk :: .junk :: .junk :: .junk :: .junk :: .junk :: .junk :: .junk :: .junk :: .junk :: .junk :: .junk :: .junk :: .junk :: .junk :: .junk :: .junk :: .junk :: .junk :: .junk :: .junk :: .junk :: .junk :: .junk :: .junk :: .junk :: .junk :: .junk :: .junk :: .junk :: .junk :: .junk :: .junk :: .junk :: .junk :: []), loc := [], rows := [], defs := [], M := M }) : ACalls Tryd.prog 17 [a0] M R := ACalls.of 62 cc17 Tryd.func17 (by kernel_rfl) rfl comp17 h

def lp18_0 (x0 x3 : TV) : List TV := (x0 :: .junk :: .junk :: x3 :: .junk :: .junk :: .junk :: .junk :: .junk :: .junk :: .junk :: .junk :: .junk :: .junk :: .junk :: .junk :: .junk :: .junk :: .junk :: .junk :: .junk :: .junk :: .junk :: .junk :: .junk :: .junk :: .junk :: .junk :: .junk :: .junk :: .junk :: .junk :: .junk :: .junk :: .junk :: .junk :: .junk :: .junk :: .junk :: .junk :: .junk :: .junk :: .junk :: .junk :: .junk :: .junk :: .junk :: .junk :: .junk :: .junk :: .junk :: .junk :: .junk :: .junk :: .junk :: .junk :: .junk :: .junk :: .junk :: .junk :: .junk :: .junk :: .junk :: .junk :: .junk :: .junk :: .junk :: .junk :: .junk :: .junk :: .junk :: .junk :: .junk :: [])

def lp18_1 (x0 x4 x5 : TV) : List TV := (x0 :: .junk :: .junk :: .junk :: x4 :: x5 :: .junk :: .junk :: .junk :: .junk :: .junk :: .junk :: .junk :: .junk :: .junk :: .junk :: .junk :: .junk :: .junk :: .junk :: .junk :: .junk :: .junk :: .junk :: .junk :: .junk :: .junk :: .junk :: .junk :: .junk :: .junk :: .junk :: .junk :: .junk :: .junk :: .junk :: .junk :: .junk :: .junk :: .junk :: .junk :: .junk :: .junk :: .junk :: .junk :: .junk :: .junk :: .junk :: .junk :: .junk :: .junk :: .junk :: .junk :: .junk :: .junk :: .junk :: .junk :: .junk :: .junk :: .junk :: .junk :: .junk :: .junk :: .junk :: .junk :: .junk :: .junk :: .junk :: .junk :: .junk :: .junk :: .junk :: .junk :: [])

/-- euclid/euclidref24.Symbol (1 parameters, 0 captured, 73 slots) -/
def esc18 : List Nat := []
def cc18_l0 : CC :=
  .seq (.seq (.reg false [⟨(some 25), none, .mv (.t 3)⟩, ⟨(some 26), none, .mv (.t 0)⟩, ⟨(some 27), none, .ln true (.t 26)⟩, ⟨(some 28), none, .ic .lss (.t 25) (.t 27)⟩])
    (.cond (.t 28)
     (.skip)
     (.exit 0)))
    (.seq (.block 1 (.seq (.reg false [⟨(some 31), none, .mv (.t 0)⟩, ⟨(some 32), none, .mv (.t 3)⟩, ⟨(some 33), none, .si (.t 31) (.t 32)⟩, ⟨(some 34), none, .call 33 [(.t 33)]⟩, ⟨(some 35), none, .no (.t 34)⟩, ⟨(some 36), none, .mv (.t 35)⟩, ⟨(some 37), (some (36, false)), .mv (.t 3)⟩, ⟨(some 38), (some (36, false)), .ic .gtr (.t 37) (.c (.int .i64 0))⟩, ⟨(some 39), (some (36, false)), .mv (.t 38)⟩, ⟨(some 40), (some (39, true)), .mv (.t 0)⟩, ⟨(some 41), (some (39, true)), .mv (.t 3)⟩, ⟨(some 42), (some (39, true)), .si (.t 40) (.t 41)⟩, ⟨(some 43), (some (39, true)), .ic .eql (.t 42) (.c (.int .u8 45))⟩, ⟨(some 44), (some (36, false)), .pick (.t 39) (.t 43) (.c (.bool false))⟩, ⟨(some 45), (some (36, false)), .mv (.t 44)⟩, ⟨(some 46), (some (45, true)), .mv (.t 0)⟩, ⟨(some 47), (some (45, true)), .mv (.t 3)⟩, ⟨(some 48), (some (45, true)), .ar .sub (.t 47) (.c (.int .i64 1))⟩, ⟨(some 49), (some (45, true)), .si (.t 46) (.t 48)⟩, ⟨(some 50), (some (45, true)), .ic .eql (.t 49) (.c (.int .u8 45))⟩, ⟨(some 51), (some (36, false)), .pick (.t 45) (.t 50) (.c (.bool false))⟩, ⟨(some 52), none, .pick (.t 36) (.c (.bool true)) (.t 51)⟩])
     (.cond (.t 52)
      (.seq (.reg false [⟨(some 2), none, .mv (.c (.bool false))⟩])
      (.ret))
      (.skip))))
    (.reg false [⟨(some 29), none, .mv (.t 3)⟩, ⟨(some 30), none, .ar .add (.t 29) (.c (.int .i64 1))⟩, ⟨(some 3), none, .mv (.t 30)⟩]))
def cc18_l1 : CC :=
  .seq (.seq (.reg false [⟨(some 54), none, .mv (.t 5)⟩, ⟨(some 55), none, .mv (.t 4)⟩, ⟨(some 56), none, .ln false (.t 55)⟩, ⟨(some 57), none, .ic .lss (.t 54) (.t 56)⟩])
    (.cond (.t 57)
     (.skip)
     (.exit 2)))
    (.seq (.block 3 (.seq (.reg false [⟨(some 60), none, .mv (.t 4)⟩, ⟨(some 61), none, .mv (.t 5)⟩, ⟨(some 62), none, .ia 1 (.t 60) (.t 61)⟩, ⟨(some 63), none, .ld 1 false (.t 62)⟩, ⟨(some 64), none, .mv (.t 0)⟩, ⟨(some 65), none, .sc .eql (.t 63) (.t 64)⟩, ⟨(some 66), none, .mv (.t 65)⟩, ⟨(some 67), (some (66, true)), .mv (.t 0)⟩, ⟨(some 68), (some (66, true)), .sc .neq (.t 67) (.c (.str [43]))⟩, ⟨(some 69), none, .pick (.t 66) (.t 68) (.c (.bool false))⟩])
     (.cond (.t 69)
      (.seq (.reg false [⟨(some 2), none, .mv (.c (.bool false))⟩])
      (.ret))
      (.skip))))
    (.reg false [⟨(some 58), none, .mv (.t 5)⟩, ⟨(some 59), none, .ar .add (.t 58) (.c (.int .i64 1))⟩, ⟨(some 5), none, .mv (.t 59)⟩]))
def cc18 : CC :=
  .seq (.reg false [⟨(some 2), none, .mv (.c (.bool false))⟩])
  (.seq (.seq (.reg false [⟨(some 6), none, .mv (.t 0)⟩, ⟨(some 7), none, .sc .eql (.t 6) (.c (.str []))⟩])
  (.cond (.t 7)
   (.seq (.reg false [⟨(some 2), none, .mv (.c (.bool false))⟩])
   (.ret))
   (.skip)))
  (.seq (.seq (.reg false [⟨(some 8), none, .mv (.t 0)⟩, ⟨(some 9), none, .si (.t 8) (.c (.int .i64 0))⟩, ⟨(some 10), none, .call 31 [(.t 9)]⟩])
  (.cond (.t 10)
   (.seq (.reg false [⟨(some 11), none, .mv (.t 0)⟩, ⟨(some 12), none, .call 32 [(.t 11), (.c (.int .i64 0))]⟩, ⟨(some 13), none, .mv (.t 0)⟩, ⟨(some 14), none, .ln true (.t 13)⟩, ⟨(some 15), none, .ic .eql (.t 12) (.t 14)⟩, ⟨(some 16), none, .mv (.t 15)⟩, ⟨(some 17), (some (16, true)), .mv (.t 0)⟩, ⟨(some 18), (some (16, true)), .sc .neq (.t 17) (.c (.str [95]))⟩, ⟨(some 19), none, .pick (.t 16) (.t 18) (.c (.bool false))⟩, ⟨(some 20), none, .mv (.t 19)⟩, ⟨(some 21), (some (20, true)), .mv (.t 0)⟩, ⟨(some 22), (some (20, true)), .call 16 [(.t 21)]⟩, ⟨(some 23), (some (20, true)), .no (.t 22)⟩, ⟨(some 24), none, .pick (.t 20) (.t 23) (.c (.bool false))⟩, ⟨(some 2), none, .mv (.t 24)⟩])
   (.ret))
   (.skip)))
  (.seq (.seq (.reg false [⟨(some 3), none, .mv (.c (.int .i64 0))⟩])
  (.block 0 (.loop (cc18_l0))))
  (.seq (.reg false [⟨(some 53), none, .call 34 []⟩, ⟨(some 4), none, .mv (.t 53)⟩])
  (.seq (.seq (.reg false [⟨(some 5), none, .mv (.c (.int .i64 0))⟩])
  (.block 2 (.loop (cc18_l1))))
  (.seq (.reg false [⟨(some 70), none, .mv (.t 0)⟩, ⟨(some 71), none, .ln true (.t 70)⟩, ⟨(some 72), none, .ic .leq (.t 71) (.c (.int .i64 8))⟩, ⟨(some 2), none, .mv (.t 72)⟩])
  (.ret)))))))
theorem comp18 : comp tt esc18 (Tryd.f18.body.getD .skip) = cc18 := by kernel_rfl
theorem has18 : Has Tryd.prog 18 := ⟨_, Tryd.func18, by kernel_rfl, by decide⟩
theorem enter18 (a0 : AV) {M : Mem} {R : AEnd → Mem → Prop} (h : CWp none Tryd.prog tt esc18 cc18 (Am.Fin Tryd.prog Tryd.f18 R) { tmps := (.v a0 :: .junk :: .junk :: .junk :: .junk :: .junk :: .junk :: .junk :: .junk :: .junk :: .junk :: .junk :: .junk :: .junk :: .junk :: .junk :: .junk :: .junk :: .junk :: .junk :: .junk :: .junk :: .junk :: .junk :: .junk :: .junk :: .junk :: .junk :: .junk :: .junk :: .junk :: .junk :: .junk :: .junk :: .junk :: .junk :: .junk :: .junk :: .junk :: .junk :: .junk :: .junk :: .junk :: .junk :: .junk :: .junk :: .junk :: .junk :: .junk :: .junk :: .junk :: .junk :: .junk :: .junk :: .junk :: .junk :: .junk :: .junk :: .junk :: .junk :: .junk :: .junk :: .junk :: .junk :: .junk :: .junk :: .junk :: .junk :: .junk :: .junk :: .junk :: .junk :: .junk :: []), loc := [], rows := [], defs := [], M := M }) : ACalls Tryd.prog 18 [a0] M R := ACalls.of 72 cc18 Tryd.func18 (by kernel_rfl) rfl comp18 h

/-- euclid/lexer.keywords (0 parameters, 0 captured, 9 slots) -/
def esc19 : List Nat := [1]
def cc19_a0 : CC :=
  .reg false [⟨(some 2), none, .mv (.t 5)⟩]
def cc19_b0 : CC :=
  .block 1 (.reg false [⟨(some 6), none, .ld 1 false (.t 1)⟩, ⟨(some 7), none, .mv (.t 2)⟩, ⟨none, none, .mu (.t 6) (.t 7) (.c (.bool true))⟩])
def cc19 : CC :=
  .seq (.reg false [⟨(some 0), none, .mv (.c .nilmap)⟩])
  (.seq (.reg false [⟨(some 3), none, .mm⟩, ⟨(some 1), none, .alS 40 [.nilmap]⟩, ⟨none, none, .sto 1 (.t 1) (.t 3)⟩])
  (.seq (.seq (.reg false [⟨(some 4), none, .call 35 [(.c (.str (102 :: 117 :: 110 :: 32 :: 108 :: 101 :: 116 :: 32 :: 105 :: 110 :: 32 :: 83 :: 105 :: 103 :: 109 :: 97 :: 32 :: 80 :: 114 :: 111 :: 112 :: 32 :: 84 :: 121 :: 112 :: 101 :: 32 :: 98 :: 121 :: 32 :: 97 :: 120 :: 105 :: 111 :: 109 :: 32 :: 100 :: 101 :: 102 :: 32 :: 116 :: 104 :: 101 :: 111 :: 114 :: 101 :: 109 :: 32 :: 105 :: 110 :: 100 :: 117 :: 99 :: 116 :: 105 :: 118 :: 101 :: 32 :: 102 :: 117 :: 110 :: 99 :: 116 :: 105 :: 111 :: 110 :: 32 :: 97 :: 110 :: 100 :: 32 :: 101 :: 110 :: 100 :: 32 :: 99 :: 108 :: 97 :: 115 :: 115 :: 32 :: 105 :: 110 :: 115 :: 116 :: 97 :: 110 :: 99 :: 101 :: 32 :: 110 :: 111 :: 116 :: 97 :: 116 :: 105 :: 111 :: 110 :: 32 :: 110 :: 97 :: 109 :: 101 :: 115 :: 112 :: 97 :: 99 :: 101 :: 32 :: 111 :: 112 :: 101 :: 110 :: 32 :: 99 :: 104 :: 101 :: 99 :: 107 :: 32 :: 101 :: 118 :: 97 :: 108 :: 32 :: 105 :: 109 :: 112 :: 111 :: 114 :: 116 :: [])))]⟩])
  (.block 0 (.rangeF (.t 4) #[5] (cc19_a0) (cc19_b0))))
  (.seq (.reg false [⟨(some 8), none, .ld 1 false (.t 1)⟩, ⟨(some 0), none, .mv (.t 8)⟩])
  (.ret))))
theorem comp19 : comp tt esc19 (Tryd.f19.body.getD .skip) = cc19 := by kernel_rfl
theorem has19 : Has Tryd.prog 19 := ⟨_, Tryd.func19, by kernel_rfl, by decide⟩
theorem enter19 {M : Mem} {R : AEnd → Mem → Prop} (h : CWp none Tryd.prog tt esc19 cc19 (Am.FinM Tryd.prog Tryd.f19 R) { tmps := [.junk, .junk, .junk, .junk, .junk, .junk, .junk, .junk, .junk], loc := [], rows := [], defs := [], M := M }) : ACalls Tryd.prog 19 [] M R := ACalls.ofM 9 cc19 Tryd.func19 (by kernel_rfl) rfl comp19 h

/-- euclid/lexer.fixed (0 parameters, 0 captured, 2 slots) -/
def esc20 : List Nat := []
def cc20 : CC :=
  .seq (.reg false [⟨(some 0), none, .mv (.c (.sl .full 1 []))⟩])
  (.seq (.reg false [⟨(some 1), none, .call 36 [(.c (.str (40 :: 32 :: 41 :: 32 :: 40 :: 41 :: 32 :: 123 :: 32 :: 125 :: 32 :: 91 :: 32 :: 93 :: 32 :: 44 :: 32 :: 59 :: 32 :: 58 :: 32 :: 58 :: 61 :: 32 :: 45 :: 62 :: 32 :: 61 :: 62 :: 32 :: 124 :: 32 :: 64 :: 32 :: 43 :: 32 :: 95 :: 32 :: 46 :: 123 :: 32 :: 46 :: 49 :: 32 :: 46 :: 50 :: 32 :: 60 :: 124 :: 62 :: [])))]⟩, ⟨(some 0), none, .mv (.t 1)⟩])
  (.ret))
theorem comp20 : comp tt esc20 (Tryd.f20.body.getD .skip) = cc20 := by kernel_rfl
theorem has20 : Has Tryd.prog 20 := ⟨_, Tryd.func20, by kernel_rfl, by decide⟩
theorem enter20 {M : Mem} {R : AEnd → Mem → Prop} (h : CWp none Tryd.prog tt esc20 cc20 (Am.Fin Tryd.prog Tryd.f20 R) { tmps := [.junk, .junk], loc := [], rows := [], defs := [], M := M }) : ACalls Tryd.prog 20 [] M R := ACalls.of 2 cc20 Tryd.func20 (by kernel_rfl) rfl comp20 h

def lp21_0 (x0 x5 : TV) : List TV := (x0 :: .junk :: .junk :: .junk :: .junk :: x5 :: .junk :: .junk :: .junk :: .junk :: .junk :: .junk :: .junk :: .junk :: .junk :: .junk :: .junk :: .junk :: .junk :: .junk :: .junk :: .junk :: .junk :: .junk :: .junk :: .junk :: .junk :: .junk :: .junk :: .junk :: .junk :: .junk :: .junk :: .junk :: .junk :: .junk :: .junk :: .junk :: .junk :: .junk :: .junk :: .junk :: .junk :: .junk :: .junk :: .junk :: .junk :: .junk :: .junk :: .junk :: .junk :: [])

/-- (*euclid/lexer.scanner).symbol (1 parameters, 0 captured, 51 slots) -/
def esc21 : List Nat := []
def dl21_0 : List COp := [⟨(some 6), none, .mv (.t 0)⟩, ⟨(some 7), none, .nc (.t 6)⟩, ⟨(some 8), none, .fa 0 (.t 7)⟩, ⟨(some 9), none, .ld 1 false (.t 8)⟩, ⟨(some 10), none, .ln true (.t 9)⟩, ⟨(some 11), none, .mv (.t 0)⟩, ⟨(some 12), none, .nc (.t 11)⟩, ⟨(some 13), none, .fa 1 (.t 12)⟩, ⟨(some 14), none, .ld 1 false (.t 13)⟩, ⟨(some 15), none, .ar .sub (.t 10) (.t 14)⟩, ⟨(some 16), none, .mn false (.c (.int .i64 8)) (.t 15)⟩, ⟨(some 5), none, .mv (.t 16)⟩]
def dp21_0 : List (List Nat) := [[], [0], [1], [2], [3], [], [5], [6], [7], [4, 8], [9], [10, 0, 1, 2, 3, 4, 5, 6, 7, 8, 9, 10]]
def dk21_0 : List (List Nat) := [[], [], [], [], [], [], [], [], [], [], [], []]
theorem dr21_0 : DrawOk dl21_0 dp21_0 dk21_0 [(0, ⟨(some 6), none, .mv (.t 0)⟩, []), (1, ⟨(some 7), none, .nc (.t 6)⟩, []), (2, ⟨(some 8), none, .fa 0 (.t 7)⟩, []), (3, ⟨(some 9), none, .ld 1 false (.t 8)⟩, []), (4, ⟨(some 10), none, .ln true (.t 9)⟩, []), (5, ⟨(some 11), none, .mv (.t 0)⟩, []), (6, ⟨(some 12), none, .nc (.t 11)⟩, []), (7, ⟨(some 13), none, .fa 1 (.t 12)⟩, []), (8, ⟨(some 14), none, .ld 1 false (.t 13)⟩, []), (9, ⟨(some 15), none, .ar .sub (.t 10) (.t 14)⟩, []), (10, ⟨(some 16), none, .mn false (.c (.int .i64 8)) (.t 15)⟩, []), (11, ⟨(some 5), none, .mv (.t 16)⟩, [])] := ⟨⟨[0, 1, 2, 3, 4, 5, 6, 7, 8, 9, 10, 11], rfl, by kernel_rfl, by kernel_rfl⟩, by kernel_rfl⟩
def dl21_1 : List COp := [⟨(some 21), none, .mv (.t 0)⟩, ⟨(some 22), none, .nc (.t 21)⟩, ⟨(some 23), none, .fa 4 (.t 22)⟩, ⟨(some 24), none, .ld 1 false (.t 23)⟩, ⟨(some 25), none, .mv (.t 0)⟩, ⟨(some 26), none, .nc (.t 25)⟩, ⟨(some 27), none, .fa 0 (.t 26)⟩, ⟨(some 28), none, .ld 1 false (.t 27)⟩, ⟨(some 29), none, .mv (.t 0)⟩, ⟨(some 30), none, .nc (.t 29)⟩, ⟨(some 31), none, .fa 1 (.t 30)⟩, ⟨(some 32), none, .ld 1 false (.t 31)⟩, ⟨(some 33), none, .mv (.t 0)⟩, ⟨(some 34), none, .nc (.t 33)⟩, ⟨(some 35), none, .fa 1 (.t 34)⟩, ⟨(some 36), none, .ld 1 false (.t 35)⟩, ⟨(some 37), none, .mv (.t 5)⟩, ⟨(some 38), none, .ar .add (.t 36) (.t 37)⟩, ⟨(some 39), none, .ss (.t 28) (some (.t 32)) (some (.t 38))⟩, ⟨(some 40), none, .lk false (.bool false) (.t 24) (.t 39)⟩]
def dp21_1 : List (List Nat) := [[], [0], [1], [2], [], [4], [5], [6], [], [8], [9], [10], [], [12], [13], [14], [], [15, 16], [7, 11, 17], [3, 18]]
def dk21_1 : List (List Nat) := [[], [], [], [], [], [], [], [], [], [], [], [], [], [], [], [], [], [], [], []]
theorem dr21_1 : DrawOk dl21_1 dp21_1 dk21_1 [(0, ⟨(some 21), none, .mv (.t 0)⟩, []), (1, ⟨(some 22), none, .nc (.t 21)⟩, []), (2, ⟨(some 23), none, .fa 4 (.t 22)⟩, []), (3, ⟨(some 24), none, .ld 1 false (.t 23)⟩, []), (4, ⟨(some 25), none, .mv (.t 0)⟩, []), (5, ⟨(some 26), none, .nc (.t 25)⟩, []), (6, ⟨(some 27), none, .fa 0 (.t 26)⟩, []), (7, ⟨(some 28), none, .ld 1 false (.t 27)⟩, []), (8, ⟨(some 29), none, .mv (.t 0)⟩, []), (9, ⟨(some 30), none, .nc (.t 29)⟩, []), (10, ⟨(some 31), none, .fa 1 (.t 30)⟩, []), (11, ⟨(some 32), none, .ld 1 false (.t 31)⟩, []), (12, ⟨(some 33), none, .mv (.t 0)⟩, []), (13, ⟨(some 34), none, .nc (.t 33)⟩, []), (14, ⟨(some 35), none, .fa 1 (.t 34)⟩, []), (15, ⟨(some 36), none, .ld 1 false (.t 35)⟩, []), (16, ⟨(some 37), none, .mv (.t 5)⟩, []), (17, ⟨(some 38), none, .ar .add (.t 36) (.t 37)⟩, []), (18, ⟨(some 39), none, .ss (.t 28) (some (.t 32)) (some (.t 38))⟩, []), (19, ⟨(some 40), none, .lk false (.bool false) (.t 24) (.t 39)⟩, [])] := ⟨⟨[0, 1, 2, 3, 4, 5, 6, 7, 8, 9, 10, 11, 12, 13, 14, 15, 16, 17, 18, 19], rfl, by kernel_rfl, by kernel_rfl⟩, by kernel_rfl⟩
def dl21_2 : List COp := [⟨(some 41), none, .mv (.t 0)⟩, ⟨(some 42), none, .nc (.t 41)⟩, ⟨(some 43), none, .fa 1 (.t 42)⟩, ⟨(some 44), none, .ld 1 false (.t 43)⟩, ⟨(some 45), none, .mv (.t 5)⟩, ⟨(some 46), none, .ar .add (.t 44) (.t 45)⟩, ⟨(some 2), none, .mv (.c (.int .i64 2))⟩, ⟨(some 3), none, .mv (.t 46)⟩, ⟨(some 4), none, .mv (.c (.int .i64 0))⟩]
def dp21_2 : List (List Nat) := [[], [0], [1], [2], [], [3, 4], [], [5, 6, 0, 1, 2, 3, 4, 5, 6], [7, 0, 1, 2, 3, 4, 5, 6, 7]]
def dk21_2 : List (List Nat) := [[], [], [], [], [], [], [], [], []]
theorem dr21_2 : DrawOk dl21_2 dp21_2 dk21_2 [(0, ⟨(some 41), none, .mv (.t 0)⟩, []), (1, ⟨(some 42), none, .nc (.t 41)⟩, []), (2, ⟨(some 43), none, .fa 1 (.t 42)⟩, []), (3, ⟨(some 44), none, .ld 1 false (.t 43)⟩, []), (4, ⟨(some 45), none, .mv (.t 5)⟩, []), (5, ⟨(some 46), none, .ar .add (.t 44) (.t 45)⟩, []), (6, ⟨(some 2), none, .mv (.c (.int .i64 2))⟩, []), (7, ⟨(some 3), none, .mv (.t 46)⟩, []), (8, ⟨(some 4), none, .mv (.c (.int .i64 0))⟩, [])] := ⟨⟨[0, 1, 2, 3, 4, 5, 6, 7, 8], rfl, by kernel_rfl, by kernel_rfl⟩, by kernel_rfl⟩
def dl21_3 : List COp := [⟨(some 47), none, .mv (.t 0)⟩, ⟨(some 48), none, .nc (.t 47)⟩, ⟨(some 49), none, .fa 1 (.t 48)⟩, ⟨(some 50), none, .ld 1 false (.t 49)⟩, ⟨(some 2), none, .mv (.c (.int .i64 0))⟩, ⟨(some 3), none, .mv (.t 50)⟩, ⟨(some 4), none, .mv (.c (.int .i64 4))⟩]
def dp21_3 : List (List Nat) := [[], [0], [1], [2], [], [3, 4, 0, 1, 2, 3, 4], [5, 0, 1, 2, 3, 4, 5]]
def dk21_3 : List (List Nat) := [[], [], [], [], [], [], []]
theorem dr21_3 : DrawOk dl21_3 dp21_3 dk21_3 [(0, ⟨(some 47), none, .mv (.t 0)⟩, []), (1, ⟨(some 48), none, .nc (.t 47)⟩, []), (2, ⟨(some 49), none, .fa 1 (.t 48)⟩, []), (3, ⟨(some 50), none, .ld 1 false (.t 49)⟩, []), (4, ⟨(some 2), none, .mv (.c (.int .i64 0))⟩, []), (5, ⟨(some 3), none, .mv (.t 50)⟩, []), (6, ⟨(some 4), none, .mv (.c (.int .i64 4))⟩, [])] := ⟨⟨[0, 1, 2, 3, 4, 5, 6], rfl, by kernel_rfl, by kernel_rfl⟩, by kernel_rfl⟩
def cc21_l0 : CC :=
  .seq (.seq (.reg false [⟨(some 17), none, .mv (.t 5)⟩, ⟨(some 18), none, .ic .gtr (.t 17) (.c (.int .i64 0))⟩])
    (.cond (.t 18)
     (.skip)
     (.exit 0)))
    (.seq (.block 1 (.seq (.dreg dl21_1 dp21_1)
     (.cond (.t 40)
      (.seq (.dreg dl21_2 dp21_2)
      (.ret))
      (.skip))))
    (.reg false [⟨(some 19), none, .mv (.t 5)⟩, ⟨(some 20), none, .ar .sub (.t 19) (.c (.int .i64 1))⟩, ⟨(some 5), none, .mv (.t 20)⟩]))
def cc21 : CC :=
  .seq (.reg false [⟨(some 2), none, .mv (.c (.int .i64 0))⟩, ⟨(some 3), none, .mv (.c (.int .i64 0))⟩, ⟨(some 4), none, .mv (.c (.int .i64 0))⟩])
  (.seq (.seq (.dreg dl21_0 dp21_0)
  (.block 0 (.loop (cc21_l0))))
  (.seq (.dreg dl21_3 dp21_3)
  (.ret)))
theorem comp21 : comp tt esc21 (Tryd.f21.body.getD .skip) = cc21 := by kernel_rfl
theorem has21 : Has Tryd.prog 21 := ⟨_, Tryd.func21, by kernel_rfl, by decide⟩
theorem enter21 (a0 : AV) {M : Mem} {R : AEnd → Mem → Prop} (h : CWp none Tryd.prog tt esc21 cc21 (Am.Fin Tryd.prog Tryd.f21 R) { tmps := (.v a0 :: .junk :: .junk :: .junk :: .junk :: .junk :: .junk :: .junk :: .junk :: .junk :: .junk :: .junk :: .junk :: .junk :: .junk :: .junk :: .junk :: .junk :: .junk :: .junk :: .junk :: .junk :: .junk :: .junk :: .junk :: .junk :: .junk :: .junk :: .junk :: .junk :: .junk :: .junk :: .junk :: .junk :: .junk :: .junk :: .junk :: .junk :: .junk :: .junk :: .junk :: .junk :: .junk :: .junk :: .junk :: .junk :: .junk :: .junk :: .junk :: .junk :: .junk :: []), loc := [], rows := [], defs := [], M := M }) : ACalls Tryd.prog 21 [a0] M R := ACalls.of 50 cc21 Tryd.func21 (by kernel_rfl) rfl comp21 h

def lp22_0 (x0 x5 : TV) : List TV := (x0 :: .junk :: .junk :: .junk :: .junk :: x5 :: .junk :: .junk :: .junk :: .junk :: .junk :: .junk :: .junk :: .junk :: .junk :: .junk :: .junk :: .junk :: .junk :: .junk :: .junk :: .junk :: .junk :: .junk :: .junk :: .junk :: .junk :: .junk :: .junk :: .junk :: .junk :: .junk :: .junk :: .junk :: .junk :: .junk :: .junk :: .junk :: .junk :: .junk :: .junk :: .junk :: .junk :: .junk :: .junk :: .junk :: .junk :: .junk :: .junk :: .junk :: .junk :: .junk :: .junk :: .junk :: .junk :: .junk :: .junk :: .junk :: .junk :: .junk :: .junk :: .junk :: .junk :: .junk :: .junk :: .junk :: .junk :: .junk :: .junk :: .junk :: .junk :: .junk :: .junk :: .junk :: .junk :: .junk :: .junk :: .junk :: .junk :: .junk :: .junk :: .junk :: .junk :: .junk :: .junk :: .junk :: .junk :: .junk :: .junk :: .junk :: .junk :: .junk :: .junk :: .junk :: .junk :: .junk :: .junk :: .junk :: [])

def lp22_1 (x0 x5 : TV) : List TV := (x0 :: .junk :: .junk :: .junk :: .junk :: x5 :: .junk :: .junk :: .junk :: .junk :: .junk :: .junk :: .junk :: .junk :: .junk :: .junk :: .junk :: .junk :: .junk :: .junk :: .junk :: .junk :: .junk :: .junk :: .junk :: .junk :: .junk :: .junk :: .junk :: .junk :: .junk :: .junk :: .junk :: .junk :: .junk :: .junk :: .junk :: .junk :: .junk :: .junk :: .junk :: .junk :: .junk :: .junk :: .junk :: .junk :: .junk :: .junk :: .junk :: .junk :: .junk :: .junk :: .junk :: .junk :: .junk :: .junk :: .junk :: .junk :: .junk :: .junk :: .junk :: .junk :: .junk :: .junk :: .junk :: .junk :: .junk :: .junk :: .junk :: .junk :: .junk :: .junk :: .junk :: .junk :: .junk :: .junk :: .junk :: .junk :: .junk :: .junk :: .junk :: .junk :: .junk :: .junk :: .junk :: .junk :: .junk :: .junk :: .junk :: .junk :: .junk :: .junk :: .junk :: .junk :: .junk :: .junk :: .junk :: .junk :: [])

/-- (*euclid/lexer.scanner).word (1 parameters, 0 captured, 98 slots) -/
def esc22 : List Nat := []
def dl22_0 : List COp := [⟨(some 59), none, .mv (.t 0)⟩, ⟨(some 60), none, .nc (.t 59)⟩, ⟨(some 61), none, .fa 0 (.t 60)⟩, ⟨(some 62), none, .ld 1 false (.t 61)⟩, ⟨(some 63), none, .mv (.t 0)⟩, ⟨(some 64), none, .nc (.t 63)⟩, ⟨(some 65), none, .fa 1 (.t 64)⟩, ⟨(some 66), none, .ld 1 false (.t 65)⟩, ⟨(some 67), none, .mv (.t 5)⟩, ⟨(some 68), none, .ss (.t 62) (some (.t 66)) (some (.t 67))⟩, ⟨(some 6), none, .mv (.t 68)⟩]
def dp22_0 : List (List Nat) := [[], [0], [1], [2], [], [4], [5], [6], [], [3, 7, 8], [9, 0, 1, 2, 3, 4, 5, 6, 7, 8, 9]]
def dk22_0 : List (List Nat) := [[], [], [], [], [], [], [], [], [], [], []]
theorem dr22_0 : DrawOk dl22_0 dp22_0 dk22_0 [(0, ⟨(some 59), none, .mv (.t 0)⟩, []), (1, ⟨(some 60), none, .nc (.t 59)⟩, []), (2, ⟨(some 61), none, .fa 0 (.t 60)⟩, []), (3, ⟨(some 62), none, .ld 1 false (.t 61)⟩, []), (4, ⟨(some 63), none, .mv (.t 0)⟩, []), (5, ⟨(some 64), none, .nc (.t 63)⟩, []), (6, ⟨(some 65), none, .fa 1 (.t 64)⟩, []), (7, ⟨(some 66), none, .ld 1 false (.t 65)⟩, []), (8, ⟨(some 67), none, .mv (.t 5)⟩, []), (9, ⟨(some 68), none, .ss (.t 62) (some (.t 66)) (some (.t 67))⟩, []), (10, ⟨(some 6), none, .mv (.t 68)⟩, [])] := ⟨⟨[0, 1, 2, 3, 4, 5, 6, 7, 8, 9, 10], rfl, by kernel_rfl, by kernel_rfl⟩, by kernel_rfl⟩
def dl22_1 : List COp := [⟨(some 73), none, .mv (.t 0)⟩, ⟨(some 74), none, .nc (.t 73)⟩, ⟨(some 75), none, .fa 1 (.t 74)⟩, ⟨(some 76), none, .ld 1 false (.t 75)⟩, ⟨(some 2), none, .mv (.c (.int .i64 0))⟩, ⟨(some 3), none, .mv (.t 76)⟩, ⟨(some 4), none, .mv (.c (.int .i64 5))⟩]
def dp22_1 : List (List Nat) := [[], [0], [1], [2], [], [3, 4, 0, 1, 2, 3, 4], [5, 0, 1, 2, 3, 4, 5]]
def dk22_1 : List (List Nat) := [[], [], [], [], [], [], []]
theorem dr22_1 : DrawOk dl22_1 dp22_1 dk22_1 [(0, ⟨(some 73), none, .mv (.t 0)⟩, []), (1, ⟨(some 74), none, .nc (.t 73)⟩, []), (2, ⟨(some 75), none, .fa 1 (.t 74)⟩, []), (3, ⟨(some 76), none, .ld 1 false (.t 75)⟩, []), (4, ⟨(some 2), none, .mv (.c (.int .i64 0))⟩, []), (5, ⟨(some 3), none, .mv (.t 76)⟩, []), (6, ⟨(some 4), none, .mv (.c (.int .i64 5))⟩, [])] := ⟨⟨[0, 1, 2, 3, 4, 5, 6], rfl, by kernel_rfl, by kernel_rfl⟩, by kernel_rfl⟩
def cc22_l1 : CC :=
  .seq (.seq (.reg false [⟨(some 11), none, .mv (.t 5)⟩, ⟨(some 12), none, .mv (.t 0)⟩, ⟨(some 13), none, .nc (.t 12)⟩, ⟨(some 14), none, .fa 0 (.t 13)⟩, ⟨(some 15), none, .ld 1 false (.t 14)⟩, ⟨(some 16), none, .ln true (.t 15)⟩, ⟨(some 17), none, .ic .lss (.t 11) (.t 16)⟩, ⟨(some 18), none, .mv (.t 17)⟩, ⟨(some 19), (some (18, true)), .mv (.t 0)⟩, ⟨(some 20), (some (18, true)), .nc (.t 19)⟩, ⟨(some 21), (some (18, true)), .fa 0 (.t 20)⟩, ⟨(some 22), (some (18, true)), .ld 1 false (.t 21)⟩, ⟨(some 23), (some (18, true)), .mv (.t 5)⟩, ⟨(some 24), (some (18, true)), .si (.t 22) (.t 23)⟩, ⟨(some 25), (some (18, true)), .call 29 [(.t 24)]⟩, ⟨(some 26), none, .pick (.t 18) (.t 25) (.c (.bool false))⟩])
       (.cond (.t 26)
        (.skip)
        (.exit 2)))
       (.block 3 (.reg false [⟨(some 27), none, .mv (.t 5)⟩, ⟨(some 28), none, .ar .add (.t 27) (.c (.int .i64 1))⟩, ⟨(some 5), none, .mv (.t 28)⟩]))
def cc22_l0 : CC :=
  .block 1 (.seq (.block 2 (.loop (cc22_l1)))
     (.seq (.seq (.reg false [⟨(some 29), none, .mv (.t 5)⟩, ⟨(some 30), none, .ar .add (.t 29) (.c (.int .i64 1))⟩, ⟨(some 31), none, .mv (.t 0)⟩, ⟨(some 32), none, .nc (.t 31)⟩, ⟨(some 33), none, .fa 0 (.t 32)⟩, ⟨(some 34), none, .ld 1 false (.t 33)⟩, ⟨(some 35), none, .ln true (.t 34)⟩, ⟨(some 36), none, .ic .geq (.t 30) (.t 35)⟩, ⟨(some 37), none, .mv (.t 36)⟩, ⟨(some 38), (some (37, false)), .mv (.t 0)⟩, ⟨(some 39), (some (37, false)), .nc (.t 38)⟩, ⟨(some 40), (some (37, false)), .fa 0 (.t 39)⟩, ⟨(some 41), (some (37, false)), .ld 1 false (.t 40)⟩, ⟨(some 42), (some (37, false)), .mv (.t 5)⟩, ⟨(some 43), (some (37, false)), .si (.t 41) (.t 42)⟩, ⟨(some 44), (some (37, false)), .ic .neq (.t 43) (.c (.int .u8 46))⟩, ⟨(some 45), none, .pick (.t 37) (.c (.bool true)) (.t 44)⟩, ⟨(some 46), none, .mv (.t 45)⟩, ⟨(some 47), (some (46, false)), .mv (.t 0)⟩, ⟨(some 48), (some (46, false)), .nc (.t 47)⟩, ⟨(some 49), (some (46, false)), .fa 0 (.t 48)⟩, ⟨(some 50), (some (46, false)), .ld 1 false (.t 49)⟩, ⟨(some 51), (some (46, false)), .mv (.t 5)⟩, ⟨(some 52), (some (46, false)), .ar .add (.t 51) (.c (.int .i64 1))⟩, ⟨(some 53), (some (46, false)), .si (.t 50) (.t 52)⟩, ⟨(some 54), (some (46, false)), .call 26 [(.t 53)]⟩, ⟨(some 55), (some (46, false)), .ic .neq (.t 54) (.c (.int .i64 1))⟩, ⟨(some 56), none, .pick (.t 46) (.c (.bool true)) (.t 55)⟩])
     (.cond (.t 56)
      (.exit 0)
      (.skip)))
     (.reg false [⟨(some 57), none, .mv (.t 5)⟩, ⟨(some 58), none, .ar .add (.t 57) (.c (.int .i64 1))⟩, ⟨(some 5), none, .mv (.t 58)⟩])))
def cc22 : CC :=
  .seq (.reg false [⟨(some 2), none, .mv (.c (.int .i64 0))⟩, ⟨(some 3), none, .mv (.c (.int .i64 0))⟩, ⟨(some 4), none, .mv (.c (.int .i64 0))⟩])
  (.seq (.reg false [⟨(some 7), none, .mv (.t 0)⟩, ⟨(some 8), none, .nc (.t 7)⟩, ⟨(some 9), none, .fa 1 (.t 8)⟩, ⟨(some 10), none, .ld 1 false (.t 9)⟩, ⟨(some 5), none, .mv (.t 10)⟩])
  (.seq (.block 0 (.loop (cc22_l0)))
  (.seq (.dreg dl22_0 dp22_0)
  (.seq (.block 4 (.seq (.reg false [⟨(some 70), none, .mv (.t 6)⟩, ⟨(some 71), none, .ln true (.t 70)⟩, ⟨(some 72), none, .ic .gtr (.t 71) (.c (.int .i64 64))⟩, ⟨(some 69), none, .mv (.t 72)⟩])
   (.cond (.t 69)
    (.seq (.dreg dl22_1 dp22_1)
    (.ret))
    (.seq (.reg false [⟨(some 78), none, .mv (.t 6)⟩, ⟨(some 79), none, .sc .eql (.t 78) (.c (.str [95]))⟩, ⟨(some 80), none, .mv (.t 79)⟩, ⟨(some 81), (some (80, false)), .mv (.t 0)⟩, ⟨(some 82), (some (80, false)), .nc (.t 81)⟩, ⟨(some 83), (some (80, false)), .fa 3 (.t 82)⟩, ⟨(some 84), (some (80, false)), .ld 1 false (.t 83)⟩, ⟨(some 85), (some (80, false)), .mv (.t 6)⟩, ⟨(some 86), (some (80, false)), .lk false (.bool false) (.t 84) (.t 85)⟩, ⟨(some 87), none, .pick (.t 80) (.c (.bool true)) (.t 86)⟩, ⟨(some 77), none, .mv (.t 87)⟩])
    (.cond (.t 77)
     (.seq (.reg false [⟨(some 88), none, .mv (.t 5)⟩, ⟨(some 2), none, .mv (.c (.int .i64 2))⟩, ⟨(some 3), none, .mv (.t 88)⟩, ⟨(some 4), none, .mv (.c (.int .i64 0))⟩])
     (.ret))
     (.seq (.reg false [⟨(some 90), none, .mv (.t 0)⟩, ⟨(some 91), none, .nc (.t 90)⟩, ⟨(some 92), none, .fa 2 (.t 91)⟩, ⟨(some 93), none, .ld 1 false (.t 92)⟩, ⟨(some 94), none, .mv (.t 6)⟩, ⟨(some 95), none, .lk false (.bool false) (.t 93) (.t 94)⟩, ⟨(some 89), none, .mv (.t 95)⟩])
     (.cond (.t 89)
      (.seq (.reg false [⟨(some 96), none, .mv (.t 5)⟩, ⟨(some 2), none, .mv (.c (.int .i64 3))⟩, ⟨(some 3), none, .mv (.t 96)⟩, ⟨(some 4), none, .mv (.c (.int .i64 0))⟩])
      (.ret))
      (.skip))))))))
  (.seq (.reg false [⟨(some 97), none, .mv (.t 5)⟩, ⟨(some 2), none, .mv (.c (.int .i64 0))⟩, ⟨(some 3), none, .mv (.t 97)⟩, ⟨(some 4), none, .mv (.c (.int .i64 0))⟩])
  (.ret))))))
theorem comp22 : comp tt esc22 (Tryd.f22.body.getD .skip) = cc22 := by kernel_rfl
theorem has22 : Has Tryd.prog 22 := ⟨_, Tryd.func22, by kernel_rfl, by decide⟩
theorem enter22 (a0 : AV) {M : Mem} {R : AEnd → Mem → Prop} (h : CWp none Tryd.prog tt esc22 cc22 (Am.Fin Tryd.prog Tryd.f22 R) { tmps := (.v a0 :: .junk :: .junk :: .junk :: .junk :: .junk :: .junk :: .junk :: .junk :: .junk :: .junk :: .junk :: .junk :: .junk :: .junk :: .junk :: .junk :: .junk :: .junk :: .junk :: .junk :: .junk :: .junk :: .junk :: .junk :: .junk :: .junk :: .junk :: .junk :: .junk :: .junk :: .junk :: .junk :: .junk :: .junk :: .junk :: .junk :: .junk :: .junk :: .junk :: .junk :: .junk :: .junk :: .junk :: .junk :: .junk :: .junk :: .junk :: .junk :: .junk :: .junk :: .junk :: .junk :: .junk :: .junk :: .junk :: .junk :: .junk :: .junk :: .junk :: .junk :: .junk :: .junk :: .junk :: .junk :: .junk :: .junk :: .junk :: .junk :: .junk :: .junk :: .junk :: .junk :: .junk :: .junk :: .junk :: .junk :: .junk :: .junk :: .junk :: .junk :: .junk :: .junk :: .junk :: .junk :: .junk :: .junk :: .junk :: .junk :: .junk :: .junk :: .junk :: .junk :: .junk :: .junk :: .junk :: .junk :: .junk :: []), loc := [], rows := [], defs := [], M := M }) : ACalls Tryd.prog 22 [a0] M R := ACalls.of 97 cc22 Tryd.func22 (by kernel_rfl) rfl comp22 h

def lp23_0 (x0 x5 : TV) : List TV := (x0 :: .junk :: .junk :: .junk :: .junk :: x5 :: .junk :: .junk :: .junk :: .junk :: .junk :: .junk :: .junk :: .junk :: .junk :: .junk :: .junk :: .junk :: .junk :: .junk :: .junk :: .junk :: .junk :: .junk :: .junk :: .junk :: .junk :: .junk :: .junk :: .junk :: .junk :: .junk :: .junk :: .junk :: .junk :: .junk :: .junk :: .junk :: .junk :: .junk :: .junk :: .junk :: .junk :: .junk :: .junk :: .junk :: .junk :: .junk :: .junk :: .junk :: .junk :: .junk :: .junk :: .junk :: .junk :: .junk :: .junk :: .junk :: .junk :: .junk :: .junk :: .junk :: .junk :: .junk :: .junk :: .junk :: .junk :: .junk :: .junk :: .junk :: .junk :: .junk :: .junk :: .junk :: .junk :: .junk :: .junk :: .junk :: .junk :: .junk :: .junk :: .junk :: .junk :: .junk :: [])

/-- (*euclid/lexer.scanner).number (1 parameters, 0 captured, 84 slots) -/
def esc23 : List Nat := []
def dl23_0 : List COp := [⟨(some 37), none, .mv (.t 0)⟩, ⟨(some 38), none, .nc (.t 37)⟩, ⟨(some 39), none, .fa 1 (.t 38)⟩, ⟨(some 40), none, .ld 1 false (.t 39)⟩, ⟨(some 2), none, .mv (.c (.int .i64 0))⟩, ⟨(some 3), none, .mv (.t 40)⟩, ⟨(some 4), none, .mv (.c (.int .i64 5))⟩]
def dp23_0 : List (List Nat) := [[], [0], [1], [2], [], [3, 4, 0, 1, 2, 3, 4], [5, 0, 1, 2, 3, 4, 5]]
def dk23_0 : List (List Nat) := [[], [], [], [], [], [], []]
theorem dr23_0 : DrawOk dl23_0 dp23_0 dk23_0 [(0, ⟨(some 37), none, .mv (.t 0)⟩, []), (1, ⟨(some 38), none, .nc (.t 37)⟩, []), (2, ⟨(some 39), none, .fa 1 (.t 38)⟩, []), (3, ⟨(some 40), none, .ld 1 false (.t 39)⟩, []), (4, ⟨(some 2), none, .mv (.c (.int .i64 0))⟩, []), (5, ⟨(some 3), none, .mv (.t 40)⟩, []), (6, ⟨(some 4), none, .mv (.c (.int .i64 5))⟩, [])] := ⟨⟨[0, 1, 2, 3, 4, 5, 6], rfl, by kernel_rfl, by kernel_rfl⟩, by kernel_rfl⟩
def dl23_1 : List COp := [⟨(some 42), none, .mv (.t 5)⟩, ⟨(some 43), none, .mv (.t 0)⟩, ⟨(some 44), none, .nc (.t 43)⟩, ⟨(some 45), none, .fa 1 (.t 44)⟩, ⟨(some 46), none, .ld 1 false (.t 45)⟩, ⟨(some 47), none, .ar .sub (.t 42) (.t 46)⟩, ⟨(some 48), none, .ic .gtr (.t 47) (.c (.int .i64 1))⟩, ⟨(some 49), none, .mv (.t 48)⟩, ⟨(some 50), (some (49, true)), .mv (.t 0)⟩, ⟨(some 51), (some (49, true)), .nc (.t 50)⟩, ⟨(some 52), (some (49, true)), .fa 0 (.t 51)⟩, ⟨(some 53), (some (49, true)), .ld 1 false (.t 52)⟩, ⟨(some 54), (some (49, true)), .mv (.t 0)⟩, ⟨(some 55), (some (49, true)), .nc (.t 54)⟩, ⟨(some 56), (some (49, true)), .fa 1 (.t 55)⟩, ⟨(some 57), (some (49, true)), .ld 1 false (.t 56)⟩, ⟨(some 58), (some (49, true)), .si (.t 53) (.t 57)⟩, ⟨(some 59), (some (49, true)), .ic .eql (.t 58) (.c (.int .u8 48))⟩, ⟨(some 60), none, .pick (.t 49) (.t 59) (.c (.bool false))⟩, ⟨(some 41), none, .mv (.t 60)⟩]
def dp23_1 : List (List Nat) := [[], [], [1], [2], [3], [0, 4], [5], [6], [7], [8, 7], [9, 7], [10, 7], [7], [12, 7], [13, 7], [14, 7], [11, 15, 7], [16, 7], [7, 17], [18, 7]]
def dk23_1 : List (List Nat) := [[], [], [], [], [], [], [], [], [], [], [], [], [], [], [], [], [], [], [], []]
theorem dr23_1 : DrawOk dl23_1 dp23_1 dk23_1 [(0, ⟨(some 42), none, .mv (.t 5)⟩, []), (1, ⟨(some 43), none, .mv (.t 0)⟩, []), (2, ⟨(some 44), none, .nc (.t 43)⟩, []), (3, ⟨(some 45), none, .fa 1 (.t 44)⟩, []), (4, ⟨(some 46), none, .ld 1 false (.t 45)⟩, []), (5, ⟨(some 47), none, .ar .sub (.t 42) (.t 46)⟩, []), (6, ⟨(some 48), none, .ic .gtr (.t 47) (.c (.int .i64 1))⟩, []), (7, ⟨(some 49), none, .mv (.t 48)⟩, []), (8, ⟨(some 50), (some (49, true)), .mv (.t 0)⟩, []), (9, ⟨(some 51), (some (49, true)), .nc (.t 50)⟩, []), (10, ⟨(some 52), (some (49, true)), .fa 0 (.t 51)⟩, []), (11, ⟨(some 53), (some (49, true)), .ld 1 false (.t 52)⟩, []), (12, ⟨(some 54), (some (49, true)), .mv (.t 0)⟩, []), (13, ⟨(some 55), (some (49, true)), .nc (.t 54)⟩, []), (14, ⟨(some 56), (some (49, true)), .fa 1 (.t 55)⟩, []), (15, ⟨(some 57), (some (49, true)), .ld 1 false (.t 56)⟩, []), (16, ⟨(some 58), (some (49, true)), .si (.t 53) (.t 57)⟩, []), (17, ⟨(some 59), (some (49, true)), .ic .eql (.t 58) (.c (.int .u8 48))⟩, []), (18, ⟨(some 60), none, .pick (.t 49) (.t 59) (.c (.bool false))⟩, []), (19, ⟨(some 41), none, .mv (.t 60)⟩, [])] := ⟨⟨[0, 1, 2, 3, 4, 5, 6, 7, 8, 9, 10, 11, 12, 13, 14, 15, 16, 17, 18, 19], rfl, by kernel_rfl, by kernel_rfl⟩, by kernel_rfl⟩
def dl23_2 : List COp := [⟨(some 61), none, .mv (.t 0)⟩, ⟨(some 62), none, .nc (.t 61)⟩, ⟨(some 63), none, .fa 1 (.t 62)⟩, ⟨(some 64), none, .ld 1 false (.t 63)⟩, ⟨(some 2), none, .mv (.c (.int .i64 0))⟩, ⟨(some 3), none, .mv (.t 64)⟩, ⟨(some 4), none, .mv (.c (.int .i64 4))⟩]
def dp23_2 : List (List Nat) := [[], [0], [1], [2], [], [3, 4, 0, 1, 2, 3, 4], [5, 0, 1, 2, 3, 4, 5]]
def dk23_2 : List (List Nat) := [[], [], [], [], [], [], []]
theorem dr23_2 : DrawOk dl23_2 dp23_2 dk23_2 [(0, ⟨(some 61), none, .mv (.t 0)⟩, []), (1, ⟨(some 62), none, .nc (.t 61)⟩, []), (2, ⟨(some 63), none, .fa 1 (.t 62)⟩, []), (3, ⟨(some 64), none, .ld 1 false (.t 63)⟩, []), (4, ⟨(some 2), none, .mv (.c (.int .i64 0))⟩, []), (5, ⟨(some 3), none, .mv (.t 64)⟩, []), (6, ⟨(some 4), none, .mv (.c (.int .i64 4))⟩, [])] := ⟨⟨[0, 1, 2, 3, 4, 5, 6], rfl, by kernel_rfl, by kernel_rfl⟩, by kernel_rfl⟩
def cc23_l0 : CC :=
  .seq (.seq (.reg false [⟨(some 10), none, .mv (.t 5)⟩, ⟨(some 11), none, .mv (.t 0)⟩, ⟨(some 12), none, .nc (.t 11)⟩, ⟨(some 13), none, .fa 0 (.t 12)⟩, ⟨(some 14), none, .ld 1 false (.t 13)⟩, ⟨(some 15), none, .ln true (.t 14)⟩, ⟨(some 16), none, .ic .lss (.t 10) (.t 15)⟩, ⟨(some 17), none, .mv (.t 16)⟩, ⟨(some 18), (some (17, true)), .mv (.t 0)⟩, ⟨(some 19), (some (17, true)), .nc (.t 18)⟩, ⟨(some 20), (some (17, true)), .fa 0 (.t 19)⟩, ⟨(some 21), (some (17, true)), .ld 1 false (.t 20)⟩, ⟨(some 22), (some (17, true)), .mv (.t 5)⟩, ⟨(some 23), (some (17, true)), .si (.t 21) (.t 22)⟩, ⟨(some 24), (some (17, true)), .call 26 [(.t 23)]⟩, ⟨(some 25), (some (17, true)), .ic .eql (.t 24) (.c (.int .i64 2))⟩, ⟨(some 26), none, .pick (.t 17) (.t 25) (.c (.bool false))⟩])
    (.cond (.t 26)
     (.skip)
     (.exit 0)))
    (.block 1 (.reg false [⟨(some 27), none, .mv (.t 5)⟩, ⟨(some 28), none, .ar .add (.t 27) (.c (.int .i64 1))⟩, ⟨(some 5), none, .mv (.t 28)⟩]))
def cc23 : CC :=
  .seq (.reg false [⟨(some 2), none, .mv (.c (.int .i64 0))⟩, ⟨(some 3), none, .mv (.c (.int .i64 0))⟩, ⟨(some 4), none, .mv (.c (.int .i64 0))⟩])
  (.seq (.reg false [⟨(some 6), none, .mv (.t 0)⟩, ⟨(some 7), none, .nc (.t 6)⟩, ⟨(some 8), none, .fa 1 (.t 7)⟩, ⟨(some 9), none, .ld 1 false (.t 8)⟩, ⟨(some 5), none, .mv (.t 9)⟩])
  (.seq (.block 0 (.loop (cc23_l0)))
  (.seq (.block 2 (.seq (.reg false [⟨(some 30), none, .mv (.t 5)⟩, ⟨(some 31), none, .mv (.t 0)⟩, ⟨(some 32), none, .nc (.t 31)⟩, ⟨(some 33), none, .fa 1 (.t 32)⟩, ⟨(some 34), none, .ld 1 false (.t 33)⟩, ⟨(some 35), none, .ar .sub (.t 30) (.t 34)⟩, ⟨(some 36), none, .ic .gtr (.t 35) (.c (.int .i64 6))⟩, ⟨(some 29), none, .mv (.t 36)⟩])
   (.cond (.t 29)
    (.seq (.dreg dl23_0 dp23_0)
    (.ret))
    (.seq (.dreg dl23_1 dp23_1)
    (.cond (.t 41)
     (.seq (.dreg dl23_2 dp23_2)
     (.ret))
     (.seq (.reg false [⟨(some 66), none, .mv (.t 5)⟩, ⟨(some 67), none, .mv (.t 0)⟩, ⟨(some 68), none, .nc (.t 67)⟩, ⟨(some 69), none, .fa 0 (.t 68)⟩, ⟨(some 70), none, .ld 1 false (.t 69)⟩, ⟨(some 71), none, .ln true (.t 70)⟩, ⟨(some 72), none, .ic .lss (.t 66) (.t 71)⟩, ⟨(some 73), none, .mv (.t 72)⟩, ⟨(some 74), (some (73, true)), .mv (.t 0)⟩, ⟨(some 75), (some (73, true)), .nc (.t 74)⟩, ⟨(some 76), (some (73, true)), .fa 0 (.t 75)⟩, ⟨(some 77), (some (73, true)), .ld 1 false (.t 76)⟩, ⟨(some 78), (some (73, true)), .mv (.t 5)⟩, ⟨(some 79), (some (73, true)), .si (.t 77) (.t 78)⟩, ⟨(some 80), (some (73, true)), .call 29 [(.t 79)]⟩, ⟨(some 81), none, .pick (.t 73) (.t 80) (.c (.bool false))⟩, ⟨(some 65), none, .mv (.t 81)⟩])
     (.cond (.t 65)
      (.seq (.reg false [⟨(some 82), none, .mv (.t 5)⟩, ⟨(some 2), none, .mv (.c (.int .i64 0))⟩, ⟨(some 3), none, .mv (.t 82)⟩, ⟨(some 4), none, .mv (.c (.int .i64 4))⟩])
      (.ret))
      (.skip))))))))
  (.seq (.reg false [⟨(some 83), none, .mv (.t 5)⟩, ⟨(some 2), none, .mv (.c (.int .i64 1))⟩, ⟨(some 3), none, .mv (.t 83)⟩, ⟨(some 4), none, .mv (.c (.int .i64 0))⟩])
  (.ret)))))
theorem comp23 : comp tt esc23 (Tryd.f23.body.getD .skip) = cc23 := by kernel_rfl
theorem has23 : Has Tryd.prog 23 := ⟨_, Tryd.func23, by kernel_rfl, by decide⟩
theorem enter23 (a0 : AV) {M : Mem} {R : AEnd → Mem → Prop} (h : CWp none Tryd.prog tt esc23 cc23 (Am.Fin Tryd.prog Tryd.f23 R) { tmps := (.v a0 :: .junk :: .junk :: .junk :: .junk :: .junk :: .junk :: .junk :: .junk :: .junk :: .junk :: .junk :: .junk :: .junk :: .junk :: .junk :: .junk :: .junk :: .junk :: .junk :: .junk :: .junk :: .junk :: .junk :: .junk :: .junk :: .junk :: .junk :: .junk :: .junk :: .junk :: .junk :: .junk :: .junk :: .junk :: .junk :: .junk :: .junk :: .junk :: .junk :: .junk :: .junk :: .junk :: .junk :: .junk :: .junk :: .junk :: .junk :: .junk :: .junk :: .junk :: .junk :: .junk :: .junk :: .junk :: .junk :: .junk :: .junk :: .junk :: .junk :: .junk :: .junk :: .junk :: .junk :: .junk :: .junk :: .junk :: .junk :: .junk :: .junk :: .junk :: .junk :: .junk :: .junk :: .junk :: .junk :: .junk :: .junk :: .junk :: .junk :: .junk :: .junk :: .junk :: .junk :: []), loc := [], rows := [], defs := [], M := M }) : ACalls Tryd.prog 23 [a0] M R := ACalls.of 83 cc23 Tryd.func23 (by kernel_rfl) rfl comp23 h

/-- (*euclid/lexer.scanner).quoted (1 parameters, 0 captured, 45 slots) -/
def esc24 : List Nat := []
def dl24_0 : List COp := [⟨(some 6), none, .mv (.t 0)⟩, ⟨(some 7), none, .nc (.t 6)⟩, ⟨(some 8), none, .fa 0 (.t 7)⟩, ⟨(some 9), none, .ld 1 false (.t 8)⟩, ⟨(some 10), none, .mv (.t 0)⟩, ⟨(some 11), none, .nc (.t 10)⟩, ⟨(some 12), none, .fa 1 (.t 11)⟩, ⟨(some 13), none, .ld 1 false (.t 12)⟩, ⟨(some 14), none, .ar .add (.t 13) (.c (.int .i64 1))⟩, ⟨(some 15), none, .ss (.t 9) (some (.t 14)) none⟩, ⟨(some 16), none, .call 37 [(.t 15), (.c (.str [34, 10]))]⟩, ⟨(some 5), none, .mv (.t 16)⟩]
def dp24_0 : List (List Nat) := [[], [0], [1], [2], [], [4], [5], [6], [7], [3, 8], [9], [10, 10, 0, 1, 2, 3, 4, 5, 6, 7, 8, 9, 10]]
def dk24_0 : List (List Nat) := [[], [], [], [], [], [], [], [], [], [], [], []]
theorem dr24_0 : DrawOk dl24_0 dp24_0 dk24_0 [(0, ⟨(some 6), none, .mv (.t 0)⟩, []), (1, ⟨(some 7), none, .nc (.t 6)⟩, []), (2, ⟨(some 8), none, .fa 0 (.t 7)⟩, []), (3, ⟨(some 9), none, .ld 1 false (.t 8)⟩, []), (4, ⟨(some 10), none, .mv (.t 0)⟩, []), (5, ⟨(some 11), none, .nc (.t 10)⟩, []), (6, ⟨(some 12), none, .fa 1 (.t 11)⟩, []), (7, ⟨(some 13), none, .ld 1 false (.t 12)⟩, []), (8, ⟨(some 14), none, .ar .add (.t 13) (.c (.int .i64 1))⟩, []), (9, ⟨(some 15), none, .ss (.t 9) (some (.t 14)) none⟩, []), (10, ⟨(some 16), none, .call 37 [(.t 15), (.c (.str [34, 10]))]⟩, []), (11, ⟨(some 5), none, .mv (.t 16)⟩, [])] := ⟨⟨[0, 1, 2, 3, 4, 5, 6, 7, 8, 9, 10, 11], rfl, by kernel_rfl, by kernel_rfl⟩, by kernel_rfl⟩
def dl24_1 : List COp := [⟨(some 17), none, .mv (.t 5)⟩, ⟨(some 18), none, .ic .lss (.t 17) (.c (.int .i64 0))⟩, ⟨(some 19), none, .mv (.t 18)⟩, ⟨(some 20), (some (19, false)), .mv (.t 0)⟩, ⟨(some 21), (some (19, false)), .nc (.t 20)⟩, ⟨(some 22), (some (19, false)), .fa 0 (.t 21)⟩, ⟨(some 23), (some (19, false)), .ld 1 false (.t 22)⟩, ⟨(some 24), (some (19, false)), .mv (.t 0)⟩, ⟨(some 25), (some (19, false)), .nc (.t 24)⟩, ⟨(some 26), (some (19, false)), .fa 1 (.t 25)⟩, ⟨(some 27), (some (19, false)), .ld 1 false (.t 26)⟩, ⟨(some 28), (some (19, false)), .ar .add (.t 27) (.c (.int .i64 1))⟩, ⟨(some 29), (some (19, false)), .mv (.t 5)⟩, ⟨(some 30), (some (19, false)), .ar .add (.t 28) (.t 29)⟩, ⟨(some 31), (some (19, false)), .si (.t 23) (.t 30)⟩, ⟨(some 32), (some (19, false)), .ic .eql (.t 31) (.c (.int .u8 10))⟩, ⟨(some 33), none, .pick (.t 19) (.c (.bool true)) (.t 32)⟩]
def dp24_1 : List (List Nat) := [[], [0], [1], [2], [3, 2], [4, 2], [5, 2], [2], [7, 2], [8, 2], [9, 2], [10, 2], [2], [11, 12, 2], [6, 13, 2], [14, 2], [2, 15]]
def dk24_1 : List (List Nat) := [[], [], [], [], [], [], [], [], [], [], [], [], [], [], [], [], []]
theorem dr24_1 : DrawOk dl24_1 dp24_1 dk24_1 [(0, ⟨(some 17), none, .mv (.t 5)⟩, []), (1, ⟨(some 18), none, .ic .lss (.t 17) (.c (.int .i64 0))⟩, []), (2, ⟨(some 19), none, .mv (.t 18)⟩, []), (3, ⟨(some 20), (some (19, false)), .mv (.t 0)⟩, []), (4, ⟨(some 21), (some (19, false)), .nc (.t 20)⟩, []), (5, ⟨(some 22), (some (19, false)), .fa 0 (.t 21)⟩, []), (6, ⟨(some 23), (some (19, false)), .ld 1 false (.t 22)⟩, []), (7, ⟨(some 24), (some (19, false)), .mv (.t 0)⟩, []), (8, ⟨(some 25), (some (19, false)), .nc (.t 24)⟩, []), (9, ⟨(some 26), (some (19, false)), .fa 1 (.t 25)⟩, []), (10, ⟨(some 27), (some (19, false)), .ld 1 false (.t 26)⟩, []), (11, ⟨(some 28), (some (19, false)), .ar .add (.t 27) (.c (.int .i64 1))⟩, []), (12, ⟨(some 29), (some (19, false)), .mv (.t 5)⟩, []), (13, ⟨(some 30), (some (19, false)), .ar .add (.t 28) (.t 29)⟩, []), (14, ⟨(some 31), (some (19, false)), .si (.t 23) (.t 30)⟩, []), (15, ⟨(some 32), (some (19, false)), .ic .eql (.t 31) (.c (.int .u8 10))⟩, []), (16, ⟨(some 33), none, .pick (.t 19) (.c (.bool true)) (.t 32)⟩, [])] := ⟨⟨[0, 1, 2, 3, 4, 5, 6, 7, 8, 9, 10, 11, 12, 13, 14, 15, 16], rfl, by kernel_rfl, by kernel_rfl⟩, by kernel_rfl⟩
def dl24_2 : List COp := [⟨(some 34), none, .mv (.t 0)⟩, ⟨(some 35), none, .nc (.t 34)⟩, ⟨(some 36), none, .fa 1 (.t 35)⟩, ⟨(some 37), none, .ld 1 false (.t 36)⟩, ⟨(some 2), none, .mv (.c (.int .i64 0))⟩, ⟨(some 3), none, .mv (.t 37)⟩, ⟨(some 4), none, .mv (.c (.int .i64 4))⟩]
def dp24_2 : List (List Nat) := [[], [0], [1], [2], [], [3, 4, 0, 1, 2, 3, 4], [5, 0, 1, 2, 3, 4, 5]]
def dk24_2 : List (List Nat) := [[], [], [], [], [], [], []]
theorem dr24_2 : DrawOk dl24_2 dp24_2 dk24_2 [(0, ⟨(some 34), none, .mv (.t 0)⟩, []), (1, ⟨(some 35), none, .nc (.t 34)⟩, []), (2, ⟨(some 36), none, .fa 1 (.t 35)⟩, []), (3, ⟨(some 37), none, .ld 1 false (.t 36)⟩, []), (4, ⟨(some 2), none, .mv (.c (.int .i64 0))⟩, []), (5, ⟨(some 3), none, .mv (.t 37)⟩, []), (6, ⟨(some 4), none, .mv (.c (.int .i64 4))⟩, [])] := ⟨⟨[0, 1, 2, 3, 4, 5, 6], rfl, by kernel_rfl, by kernel_rfl⟩, by kernel_rfl⟩
def dl24_3 : List COp := [⟨(some 38), none, .mv (.t 0)⟩, ⟨(some 39), none, .nc (.t 38)⟩, ⟨(some 40), none, .fa 1 (.t 39)⟩, ⟨(some 41), none, .ld 1 false (.t 40)⟩, ⟨(some 42), none, .mv (.t 5)⟩, ⟨(some 43), none, .ar .add (.t 41) (.t 42)⟩, ⟨(some 44), none, .ar .add (.t 43) (.c (.int .i64 2))⟩, ⟨(some 2), none, .mv (.c (.int .i64 2))⟩, ⟨(some 3), none, .mv (.t 44)⟩, ⟨(some 4), none, .mv (.c (.int .i64 0))⟩]
def dp24_3 : List (List Nat) := [[], [0], [1], [2], [], [3, 4], [5], [], [6, 7, 0, 1, 2, 3, 4, 5, 6, 7], [8, 0, 1, 2, 3, 4, 5, 6, 7, 8]]
def dk24_3 : List (List Nat) := [[], [], [], [], [], [], [], [], [], []]
theorem dr24_3 : DrawOk dl24_3 dp24_3 dk24_3 [(0, ⟨(some 38), none, .mv (.t 0)⟩, []), (1, ⟨(some 39), none, .nc (.t 38)⟩, []), (2, ⟨(some 40), none, .fa 1 (.t 39)⟩, []), (3, ⟨(some 41), none, .ld 1 false (.t 40)⟩, []), (4, ⟨(some 42), none, .mv (.t 5)⟩, []), (5, ⟨(some 43), none, .ar .add (.t 41) (.t 42)⟩, []), (6, ⟨(some 44), none, .ar .add (.t 43) (.c (.int .i64 2))⟩, []), (7, ⟨(some 2), none, .mv (.c (.int .i64 2))⟩, []), (8, ⟨(some 3), none, .mv (.t 44)⟩, []), (9, ⟨(some 4), none, .mv (.c (.int .i64 0))⟩, [])] := ⟨⟨[0, 1, 2, 3, 4, 5, 6, 7, 8, 9], rfl, by kernel_rfl, by kernel_rfl⟩, by kernel_rfl⟩
def cc24 : CC :=
  .seq (.reg false [⟨(some 2), none, .mv (.c (.int .i64 0))⟩, ⟨(some 3), none, .mv (.c (.int .i64 0))⟩, ⟨(some 4), none, .mv (.c (.int .i64 0))⟩])
  (.seq (.dreg dl24_0 dp24_0)
  (.seq (.seq (.dreg dl24_1 dp24_1)
  (.cond (.t 33)
   (.seq (.dreg dl24_2 dp24_2)
   (.ret))
   (.skip)))
  (.seq (.dreg dl24_3 dp24_3)
  (.ret))))
theorem comp24 : comp tt esc24 (Tryd.f24.body.getD .skip) = cc24 := by kernel_rfl
theorem has24 : Has Tryd.prog 24 := ⟨_, Tryd.func24, by kernel_rfl, by decide⟩
theorem enter24 (a0 : AV) {M : Mem} {R : AEnd → Mem → Prop} (h : CWp none Tryd.prog tt esc24 cc24 (Am.Fin Tryd.prog Tryd.f24 R) { tmps := (.v a0 :: .junk :: .junk :: .junk :: .junk :: .junk :: .junk :: .junk :: .junk :: .junk :: .junk :: .junk :: .junk :: .junk :: .junk :: .junk :: .junk :: .junk :: .junk :: .junk :: .junk :: .junk :: .junk :: .junk :: .junk :: .junk :: .junk :: .junk :: .junk :: .junk :: .junk :: .junk :: .junk :: .junk :: .junk :: .junk :: .junk :: .junk :: .junk :: .junk :: .junk :: .junk :: .junk :: .junk :: .junk :: []), loc := [], rows := [], defs := [], M := M }) : ACalls Tryd.prog 24 [a0] M R := ACalls.of 44 cc24 Tryd.func24 (by kernel_rfl) rfl comp24 h

def lp25_0 (x0 : TV) : List TV := (x0 :: .junk :: .junk :: .junk :: .junk :: .junk :: .junk :: .junk :: .junk :: .junk :: .junk :: .junk :: .junk :: .junk :: .junk :: .junk :: .junk :: .junk :: .junk :: .junk :: .junk :: .junk :: .junk :: .junk :: .junk :: .junk :: .junk :: .junk :: .junk :: .junk :: .junk :: .junk :: .junk :: .junk :: .junk :: .junk :: .junk :: .junk :: .junk :: .junk :: .junk :: .junk :: .junk :: .junk :: .junk :: .junk :: .junk :: .junk :: .junk :: .junk :: .junk :: .junk :: .junk :: .junk :: .junk :: [])

/-- (*euclid/lexer.scanner).skip (1 parameters, 0 captured, 55 slots) -/
def esc25 : List Nat := []
def dl25_0 : List COp := [⟨(some 6), none, .mv (.t 0)⟩, ⟨(some 7), none, .nc (.t 6)⟩, ⟨(some 8), none, .fa 1 (.t 7)⟩, ⟨(some 9), none, .ld 1 false (.t 8)⟩, ⟨(some 10), none, .mv (.t 0)⟩, ⟨(some 11), none, .nc (.t 10)⟩, ⟨(some 12), none, .fa 0 (.t 11)⟩, ⟨(some 13), none, .ld 1 false (.t 12)⟩, ⟨(some 14), none, .ln true (.t 13)⟩, ⟨(some 15), none, .ic .lss (.t 9) (.t 14)⟩]
def dp25_0 : List (List Nat) := [[], [0], [1], [2], [], [4], [5], [6], [7], [3, 8]]
def dk25_0 : List (List Nat) := [[], [], [], [], [], [], [], [], [], []]
theorem dr25_0 : DrawOk dl25_0 dp25_0 dk25_0 [(0, ⟨(some 6), none, .mv (.t 0)⟩, []), (1, ⟨(some 7), none, .nc (.t 6)⟩, []), (2, ⟨(some 8), none, .fa 1 (.t 7)⟩, []), (3, ⟨(some 9), none, .ld 1 false (.t 8)⟩, []), (4, ⟨(some 10), none, .mv (.t 0)⟩, []), (5, ⟨(some 11), none, .nc (.t 10)⟩, []), (6, ⟨(some 12), none, .fa 0 (.t 11)⟩, []), (7, ⟨(some 13), none, .ld 1 false (.t 12)⟩, []), (8, ⟨(some 14), none, .ln true (.t 13)⟩, []), (9, ⟨(some 15), none, .ic .lss (.t 9) (.t 14)⟩, [])] := ⟨⟨[0, 1, 2, 3, 4, 5, 6, 7, 8, 9], rfl, by kernel_rfl, by kernel_rfl⟩, by kernel_rfl⟩
def dl25_1 : List COp := [⟨(some 16), none, .mv (.t 0)⟩, ⟨(some 17), none, .nc (.t 16)⟩, ⟨(some 18), none, .fa 0 (.t 17)⟩, ⟨(some 19), none, .ld 1 false (.t 18)⟩, ⟨(some 20), none, .mv (.t 0)⟩, ⟨(some 21), none, .nc (.t 20)⟩, ⟨(some 22), none, .fa 1 (.t 21)⟩, ⟨(some 23), none, .ld 1 false (.t 22)⟩, ⟨(some 24), none, .ss (.t 19) (some (.t 23)) none⟩, ⟨(some 2), none, .mv (.t 24)⟩]
def dp25_1 : List (List Nat) := [[], [0], [1], [2], [], [4], [5], [6], [3, 7], [8, 0, 1, 2, 3, 4, 5, 6, 7, 8]]
def dk25_1 : List (List Nat) := [[], [], [], [], [], [], [], [], [], []]
theorem dr25_1 : DrawOk dl25_1 dp25_1 dk25_1 [(0, ⟨(some 16), none, .mv (.t 0)⟩, []), (1, ⟨(some 17), none, .nc (.t 16)⟩, []), (2, ⟨(some 18), none, .fa 0 (.t 17)⟩, []), (3, ⟨(some 19), none, .ld 1 false (.t 18)⟩, []), (4, ⟨(some 20), none, .mv (.t 0)⟩, []), (5, ⟨(some 21), none, .nc (.t 20)⟩, []), (6, ⟨(some 22), none, .fa 1 (.t 21)⟩, []), (7, ⟨(some 23), none, .ld 1 false (.t 22)⟩, []), (8, ⟨(some 24), none, .ss (.t 19) (some (.t 23)) none⟩, []), (9, ⟨(some 2), none, .mv (.t 24)⟩, [])] := ⟨⟨[0, 1, 2, 3, 4, 5, 6, 7, 8, 9], rfl, by kernel_rfl, by kernel_rfl⟩, by kernel_rfl⟩
def cc25_l0 : CC :=
  .seq (.seq (.dreg dl25_0 dp25_0)
    (.cond (.t 15)
     (.skip)
     (.exit 0)))
    (.block 1 (.seq (.dreg dl25_1 dp25_1)
     (.block 2 (.seq (.reg false [⟨(some 26), none, .mv (.t 2)⟩, ⟨(some 27), none, .si (.t 26) (.c (.int .i64 0))⟩, ⟨(some 28), none, .cv .i32 (.t 27)⟩, ⟨(some 29), none, .call 38 [(.c (.str [32, 9, 13, 10])), (.t 28)]⟩, ⟨(some 25), none, .mv (.t 29)⟩])
      (.cond (.t 25)
       (.reg false [⟨(some 30), none, .mv (.t 0)⟩, ⟨(some 31), none, .nc (.t 30)⟩, ⟨(some 32), none, .fa 1 (.t 31)⟩, ⟨(some 33), none, .ld 1 false (.t 32)⟩, ⟨(some 34), none, .ar .add (.t 33) (.c (.int .i64 1))⟩, ⟨(some 35), none, .nc (.t 30)⟩, ⟨(some 36), none, .fa 1 (.t 35)⟩, ⟨none, none, .sto 1 (.t 36) (.t 34)⟩])
       (.seq (.reg false [⟨(some 38), none, .mv (.t 2)⟩, ⟨(some 39), none, .call 39 [(.t 38), (.c (.str [45, 45]))]⟩, ⟨(some 37), none, .mv (.t 39)⟩])
       (.cond (.t 37)
        (.seq (.reg false [⟨(some 41), none, .mv (.t 2)⟩, ⟨(some 42), none, .call 40 [(.t 41), (.c (.str [10]))]⟩, ⟨(some 40), none, .mv (.t 42)⟩, ⟨(some 43), none, .ex (.t 40) 0⟩, ⟨(some 44), none, .ex (.t 40) 1⟩, ⟨(some 45), none, .ex (.t 40) 2⟩, ⟨(some 3), none, .mv (.t 43)⟩, ⟨(some 4), none, .mv (.t 44)⟩, ⟨(some 5), none, .mv (.t 45)⟩])
        (.reg false [⟨(some 46), none, .mv (.t 0)⟩, ⟨(some 47), none, .nc (.t 46)⟩, ⟨(some 48), none, .fa 1 (.t 47)⟩, ⟨(some 49), none, .ld 1 false (.t 48)⟩, ⟨(some 50), none, .mv (.t 3)⟩, ⟨(some 51), none, .ln true (.t 50)⟩, ⟨(some 52), none, .ar .add (.t 49) (.t 51)⟩, ⟨(some 53), none, .nc (.t 46)⟩, ⟨(some 54), none, .fa 1 (.t 53)⟩, ⟨none, none, .sto 1 (.t 54) (.t 52)⟩]))
        (.ret))))))))
def cc25 : CC :=
  .block 0 (.loop (cc25_l0))
theorem comp25 : comp tt esc25 (Tryd.f25.body.getD .skip) = cc25 := by kernel_rfl
theorem has25 : Has Tryd.prog 25 := ⟨_, Tryd.func25, by kernel_rfl, by decide⟩
theorem enter25 (a0 : AV) {M : Mem} {R : AEnd → Mem → Prop} (h : CWp none Tryd.prog tt esc25 cc25 (Am.Fin Tryd.prog Tryd.f25 R) { tmps := (.v a0 :: .junk :: .junk :: .junk :: .junk :: .junk :: .junk :: .junk :: .junk :: .junk :: .junk :: .junk :: .junk :: .junk :: .junk :: .junk :: .junk :: .junk :: .junk :: .junk :: .junk :: .junk :: .junk :: .junk :: .junk :: .junk :: .junk :: .junk :: .junk :: .junk :: .junk :: .junk :: .junk :: .junk :: .junk :: .junk :: .junk :: .junk :: .junk :: .junk :: .junk :: .junk :: .junk :: .junk :: .junk :: .junk :: .junk :: .junk :: .junk :: .junk :: .junk :: .junk :: .junk :: .junk :: .junk :: []), loc := [], rows := [], defs := [], M := M }) : ACalls Tryd.prog 25 [a0] M R := ACalls.of 54 cc25 Tryd.func25 (by kernel_rfl) rfl comp25 h

/-- euclid/lexer.class (1 parameters, 0 captured, 28 slots) -/
def esc26 : List Nat := []
def cc26 : CC :=
  .seq (.reg false [⟨(some 2), none, .mv (.c (.int .i64 0))⟩])
  (.seq (.block 0 (.seq (.seq (.reg false [⟨(some 4), none, .mv (.t 0)⟩, ⟨(some 5), none, .ic .geq (.t 4) (.c (.int .u8 97))⟩, ⟨(some 6), none, .mv (.t 5)⟩, ⟨(some 7), (some (6, true)), .mv (.t 0)⟩, ⟨(some 8), (some (6, true)), .ic .leq (.t 7) (.c (.int .u8 122))⟩, ⟨(some 9), none, .pick (.t 6) (.t 8) (.c (.bool false))⟩, ⟨(some 3), none, .mv (.t 9)⟩])
   (.cond (.t 3)
    (.skip)
    (.seq (.reg false [⟨(some 10), none, .mv (.t 0)⟩, ⟨(some 11), none, .ic .geq (.t 10) (.c (.int .u8 65))⟩, ⟨(some 12), none, .mv (.t 11)⟩, ⟨(some 13), (some (12, true)), .mv (.t 0)⟩, ⟨(some 14), (some (12, true)), .ic .leq (.t 13) (.c (.int .u8 90))⟩, ⟨(some 15), none, .pick (.t 12) (.t 14) (.c (.bool false))⟩, ⟨(some 3), none, .mv (.t 15)⟩])
    (.cond (.t 3)
     (.skip)
     (.reg false [⟨(some 16), none, .mv (.t 0)⟩, ⟨(some 17), none, .ic .eql (.t 16) (.c (.int .u8 95))⟩, ⟨(some 3), none, .mv (.t 17)⟩])))))
   (.cond (.t 3)
    (.seq (.reg false [⟨(some 2), none, .mv (.c (.int .i64 1))⟩])
    (.ret))
    (.seq (.reg false [⟨(some 19), none, .mv (.t 0)⟩, ⟨(some 20), none, .ic .geq (.t 19) (.c (.int .u8 48))⟩, ⟨(some 21), none, .mv (.t 20)⟩, ⟨(some 22), (some (21, true)), .mv (.t 0)⟩, ⟨(some 23), (some (21, true)), .ic .leq (.t 22) (.c (.int .u8 57))⟩, ⟨(some 24), none, .pick (.t 21) (.t 23) (.c (.bool false))⟩, ⟨(some 18), none, .mv (.t 24)⟩])
    (.cond (.t 18)
     (.seq (.reg false [⟨(some 2), none, .mv (.c (.int .i64 2))⟩])
     (.ret))
     (.seq (.reg false [⟨(some 26), none, .mv (.t 0)⟩, ⟨(some 27), none, .ic .eql (.t 26) (.c (.int .u8 34))⟩, ⟨(some 25), none, .mv (.t 27)⟩])
     (.cond (.t 25)
      (.seq (.reg false [⟨(some 2), none, .mv (.c (.int .i64 3))⟩])
      (.ret))
      (.skip))))))))
  (.seq (.reg false [⟨(some 2), none, .mv (.c (.int .i64 0))⟩])
  (.ret)))
theorem comp26 : comp tt esc26 (Tryd.f26.body.getD .skip) = cc26 := by kernel_rfl
theorem has26 : Has Tryd.prog 26 := ⟨_, Tryd.func26, by kernel_rfl, by decide⟩
theorem enter26 (a0 : AV) {M : Mem} {R : AEnd → Mem → Prop} (h : CWp none Tryd.prog tt esc26 cc26 (Am.Fin Tryd.prog Tryd.f26 R) { tmps := [.v a0, .junk, .junk, .junk, .junk, .junk, .junk, .junk, .junk, .junk, .junk, .junk, .junk, .junk, .junk, .junk, .junk, .junk, .junk, .junk, .junk, .junk, .junk, .junk, .junk, .junk, .junk, .junk], loc := [], rows := [], defs := [], M := M }) : ACalls Tryd.prog 26 [a0] M R := ACalls.of 27 cc26 Tryd.func26 (by kernel_rfl) rfl comp26 h

def lp27_0 (x0 x1 : TV) : List TV := (x0 :: x1 :: .junk :: .junk :: .junk :: .junk :: .junk :: .junk :: .junk :: .junk :: .junk :: .junk :: .junk :: .junk :: .junk :: .junk :: .junk :: .junk :: .junk :: .junk :: .junk :: .junk :: .junk :: .junk :: .junk :: .junk :: .junk :: .junk :: .junk :: .junk :: .junk :: .junk :: .junk :: .junk :: .junk :: .junk :: .junk :: .junk :: .junk :: .junk :: .junk :: .junk :: .junk :: .junk :: .junk :: .junk :: .junk :: .junk :: .junk :: .junk :: .junk :: .junk :: .junk :: .junk :: .junk :: .junk :: .junk :: .junk :: .junk :: .junk :: .junk :: .junk :: .junk :: .junk :: .junk :: .junk :: .junk :: [])

def lp27_1 (x0 x1 : TV) : List TV := (x0 :: x1 :: .junk :: .junk :: .junk :: .junk :: .junk :: .junk :: .junk :: .junk :: .junk :: .junk :: .junk :: .junk :: .junk :: .junk :: .junk :: .junk :: .junk :: .junk :: .junk :: .junk :: .junk :: .junk :: .junk :: .junk :: .junk :: .junk :: .junk :: .junk :: .junk :: .junk :: .junk :: .junk :: .junk :: .junk :: .junk :: .junk :: .junk :: .junk :: .junk :: .junk :: .junk :: .junk :: .junk :: .junk :: .junk :: .junk :: .junk :: .junk :: .junk :: .junk :: .junk :: .junk :: .junk :: .junk :: .junk :: .junk :: .junk :: .junk :: .junk :: .junk :: .junk :: .junk :: .junk :: .junk :: .junk :: [])

/-- euclid/euclidref24.skip (2 parameters, 0 captured, 67 slots) -/
def esc27 : List Nat := []
def cc27_l1 : CC :=
  .seq (.seq (.reg false [⟨(some 54), none, .mv (.t 1)⟩, ⟨(some 55), none, .mv (.t 0)⟩, ⟨(some 56), none, .ln true (.t 55)⟩, ⟨(some 57), none, .ic .lss (.t 54) (.t 56)⟩, ⟨(some 58), none, .mv (.t 57)⟩, ⟨(some 59), (some (58, true)), .mv (.t 0)⟩, ⟨(some 60), (some (58, true)), .mv (.t 1)⟩, ⟨(some 61), (some (58, true)), .si (.t 59) (.t 60)⟩, ⟨(some 62), (some (58, true)), .ic .neq (.t 61) (.c (.int .u8 10))⟩, ⟨(some 63), none, .pick (.t 58) (.t 62) (.c (.bool false))⟩])
          (.cond (.t 63)
           (.skip)
           (.exit 3)))
          (.block 4 (.reg false [⟨(some 64), none, .mv (.t 1)⟩, ⟨(some 65), none, .ar .add (.t 64) (.c (.int .i64 1))⟩, ⟨(some 1), none, .mv (.t 65)⟩]))
def cc27_l0 : CC :=
  .seq (.seq (.reg false [⟨(some 5), none, .mv (.t 1)⟩, ⟨(some 6), none, .mv (.t 0)⟩, ⟨(some 7), none, .ln true (.t 6)⟩, ⟨(some 8), none, .ic .lss (.t 5) (.t 7)⟩])
    (.cond (.t 8)
     (.skip)
     (.exit 0)))
    (.block 1 (.block 2 (.seq (.reg false [⟨(some 11), none, .mv (.t 0)⟩, ⟨(some 12), none, .mv (.t 1)⟩, ⟨(some 13), none, .si (.t 11) (.t 12)⟩, ⟨(some 14), none, .ic .eql (.t 13) (.c (.int .u8 32))⟩, ⟨(some 15), none, .mv (.t 14)⟩, ⟨(some 16), (some (15, false)), .mv (.t 0)⟩, ⟨(some 17), (some (15, false)), .mv (.t 1)⟩, ⟨(some 18), (some (15, false)), .si (.t 16) (.t 17)⟩, ⟨(some 19), (some (15, false)), .ic .eql (.t 18) (.c (.int .u8 9))⟩, ⟨(some 20), none, .pick (.t 15) (.c (.bool true)) (.t 19)⟩, ⟨(some 21), none, .mv (.t 20)⟩, ⟨(some 22), (some (21, false)), .mv (.t 0)⟩, ⟨(some 23), (some (21, false)), .mv (.t 1)⟩, ⟨(some 24), (some (21, false)), .si (.t 22) (.t 23)⟩, ⟨(some 25), (some (21, false)), .ic .eql (.t 24) (.c (.int .u8 13))⟩, ⟨(some 26), none, .pick (.t 21) (.c (.bool true)) (.t 25)⟩, ⟨(some 27), none, .mv (.t 26)⟩, ⟨(some 28), (some (27, false)), .mv (.t 0)⟩, ⟨(some 29), (some (27, false)), .mv (.t 1)⟩, ⟨(some 30), (some (27, false)), .si (.t 28) (.t 29)⟩, ⟨(some 31), (some (27, false)), .ic .eql (.t 30) (.c (.int .u8 10))⟩, ⟨(some 32), none, .pick (.t 27) (.c (.bool true)) (.t 31)⟩, ⟨(some 10), none, .mv (.t 32)⟩])
      (.cond (.t 10)
       (.reg false [⟨(some 33), none, .mv (.t 1)⟩, ⟨(some 34), none, .ar .add (.t 33) (.c (.int .i64 1))⟩, ⟨(some 1), none, .mv (.t 34)⟩])
       (.seq (.reg false [⟨(some 36), none, .mv (.t 1)⟩, ⟨(some 37), none, .ar .add (.t 36) (.c (.int .i64 1))⟩, ⟨(some 38), none, .mv (.t 0)⟩, ⟨(some 39), none, .ln true (.t 38)⟩, ⟨(some 40), none, .ic .lss (.t 37) (.t 39)⟩, ⟨(some 41), none, .mv (.t 40)⟩, ⟨(some 42), (some (41, true)), .mv (.t 0)⟩, ⟨(some 43), (some (41, true)), .mv (.t 1)⟩, ⟨(some 44), (some (41, true)), .si (.t 42) (.t 43)⟩, ⟨(some 45), (some (41, true)), .ic .eql (.t 44) (.c (.int .u8 45))⟩, ⟨(some 46), none, .pick (.t 41) (.t 45) (.c (.bool false))⟩, ⟨(some 47), none, .mv (.t 46)⟩, ⟨(some 48), (some (47, true)), .mv (.t 0)⟩, ⟨(some 49), (some (47, true)), .mv (.t 1)⟩, ⟨(some 50), (some (47, true)), .ar .add (.t 49) (.c (.int .i64 1))⟩, ⟨(some 51), (some (47, true)), .si (.t 48) (.t 50)⟩, ⟨(some 52), (some (47, true)), .ic .eql (.t 51) (.c (.int .u8 45))⟩, ⟨(some 53), none, .pick (.t 47) (.t 52) (.c (.bool false))⟩, ⟨(some 35), none, .mv (.t 53)⟩])
       (.cond (.t 35)
        (.block 3 (.loop (cc27_l1)))
        (.seq (.reg false [⟨(some 9), none, .mv (.t 1)⟩, ⟨(some 4), none, .mv (.t 9)⟩])
        (.ret))))))))
def cc27 : CC :=
  .seq (.reg false [⟨(some 4), none, .mv (.c (.int .i64 0))⟩])
  (.seq (.block 0 (.loop (cc27_l0)))
  (.seq (.reg false [⟨(some 66), none, .mv (.t 1)⟩, ⟨(some 4), none, .mv (.t 66)⟩])
  (.ret)))
theorem comp27 : comp tt esc27 (Tryd.f27.body.getD .skip) = cc27 := by kernel_rfl
theorem has27 : Has Tryd.prog 27 := ⟨_, Tryd.func27, by kernel_rfl, by decide⟩
theorem enter27 (a0 a1 : AV) {M : Mem} {R : AEnd → Mem → Prop} (h : CWp none Tryd.prog tt esc27 cc27 (Am.Fin Tryd.prog Tryd.f27 R) { tmps := (.v a0 :: .v a1 :: .junk :: .junk :: .junk :: .junk :: .junk :: .junk :: .junk :: .junk :: .junk :: .junk :: .junk :: .junk :: .junk :: .junk :: .junk :: .junk :: .junk :: .junk :: .junk :: .junk :: .junk :: .junk :: .junk :: .junk :: .junk :: .junk :: .junk :: .junk :: .junk :: .junk :: .junk :: .junk :: .junk :: .junk :: .junk :: .junk :: .junk :: .junk :: .junk :: .junk :: .junk :: .junk :: .junk :: .junk :: .junk :: .junk :: .junk :: .junk :: .junk :: .junk :: .junk :: .junk :: .junk :: .junk :: .junk :: .junk :: .junk :: .junk :: .junk :: .junk :: .junk :: .junk :: .junk :: .junk :: .junk :: []), loc := [], rows := [], defs := [], M := M }) : ACalls Tryd.prog 27 [a0, a1] M R := ACalls.of 65 cc27 Tryd.func27 (by kernel_rfl) rfl comp27 h

def lp28_0 (x0 x1 x9 x12 : TV) : List TV := (x0 :: x1 :: .junk :: .junk :: .junk :: .junk :: .junk :: .junk :: .junk :: x9 :: .junk :: .junk :: x12 :: .junk :: .junk :: .junk :: .junk :: .junk :: .junk :: .junk :: .junk :: .junk :: .junk :: .junk :: .junk :: .junk :: .junk :: .junk :: .junk :: .junk :: .junk :: .junk :: .junk :: .junk :: .junk :: .junk :: .junk :: .junk :: .junk :: .junk :: .junk :: .junk :: .junk :: .junk :: .junk :: .junk :: .junk :: .junk :: .junk :: .junk :: .junk :: .junk :: .junk :: .junk :: .junk :: .junk :: .junk :: .junk :: .junk :: .junk :: .junk :: .junk :: .junk :: .junk :: .junk :: .junk :: .junk :: .junk :: .junk :: .junk :: .junk :: .junk :: .junk :: .junk :: .junk :: .junk :: .junk :: .junk :: .junk :: .junk :: .junk :: .junk :: .junk :: .junk :: .junk :: .junk :: .junk :: .junk :: .junk :: .junk :: .junk :: .junk :: .junk :: .junk :: .junk :: .junk :: .junk :: .junk :: .junk :: .junk :: .junk :: .junk :: .junk :: .junk :: .junk :: .junk :: .junk :: .junk :: .junk :: .junk :: .junk :: .junk :: .junk :: .junk :: .junk :: .junk :: .junk :: .junk :: .junk :: .junk :: .junk :: .junk :: .junk :: .junk :: .junk :: .junk :: .junk :: .junk :: .junk :: .junk :: .junk :: .junk :: .junk :: .junk :: .junk :: .junk :: .junk :: .junk :: .junk :: .junk :: .junk :: .junk :: .junk :: .junk :: .junk :: .junk :: .junk :: [])

def lp28_1 (x0 x1 x13 : TV) : List TV := (x0 :: x1 :: .junk :: .junk :: .junk :: .junk :: .junk :: .junk :: .junk :: .junk :: .junk :: .junk :: .junk :: x13 :: .junk :: .junk :: .junk :: .junk :: .junk :: .junk :: .junk :: .junk :: .junk :: .junk :: .junk :: .junk :: .junk :: .junk :: .junk :: .junk :: .junk :: .junk :: .junk :: .junk :: .junk :: .junk :: .junk :: .junk :: .junk :: .junk :: .junk :: .junk :: .junk :: .junk :: .junk :: .junk :: .junk :: .junk :: .junk :: .junk :: .junk :: .junk :: .junk :: .junk :: .junk :: .junk :: .junk :: .junk :: .junk :: .junk :: .junk :: .junk :: .junk :: .junk :: .junk :: .junk :: .junk :: .junk :: .junk :: .junk :: .junk :: .junk :: .junk :: .junk :: .junk :: .junk :: .junk :: .junk :: .junk :: .junk :: .junk :: .junk :: .junk :: .junk :: .junk :: .junk :: .junk :: .junk :: .junk :: .junk :: .junk :: .junk :: .junk :: .junk :: .junk :: .junk :: .junk :: .junk :: .junk :: .junk :: .junk :: .junk :: .junk :: .junk :: .junk :: .junk :: .junk :: .junk :: .junk :: .junk :: .junk :: .junk :: .junk :: .junk :: .junk :: .junk :: .junk :: .junk :: .junk :: .junk :: .junk :: .junk :: .junk :: .junk :: .junk :: .junk :: .junk :: .junk :: .junk :: .junk :: .junk :: .junk :: .junk :: .junk :: .junk :: .junk :: .junk :: .junk :: .junk :: .junk :: .junk :: .junk :: .junk :: .junk :: .junk :: .junk :: .junk :: [])

/-- euclid/euclidref24.one (3 parameters, 0 captured, 147 slots) -/
def esc28 : List Nat := []
def cc28_l0 : CC :=
  .seq (.seq (.reg false [⟨(some 52), none, .mv (.t 12)⟩, ⟨(some 53), none, .mv (.t 0)⟩, ⟨(some 54), none, .ln true (.t 53)⟩, ⟨(some 55), none, .ic .lss (.t 52) (.t 54)⟩, ⟨(some 56), none, .mv (.t 55)⟩, ⟨(some 57), (some (56, true)), .mv (.t 0)⟩, ⟨(some 58), (some (56, true)), .mv (.t 12)⟩, ⟨(some 59), (some (56, true)), .si (.t 57) (.t 58)⟩, ⟨(some 60), (some (56, true)), .call 43 [(.t 59)]⟩, ⟨(some 61), none, .pick (.t 56) (.t 60) (.c (.bool false))⟩])
       (.cond (.t 61)
        (.skip)
        (.exit 2)))
       (.block 3 (.reg false [⟨(some 62), none, .mv (.t 12)⟩, ⟨(some 63), none, .ar .add (.t 62) (.c (.int .i64 1))⟩, ⟨(some 12), none, .mv (.t 63)⟩]))
def cc28_l1 : CC :=
  .seq (.seq (.reg false [⟨(some 104), none, .mv (.t 13)⟩, ⟨(some 105), none, .mv (.t 0)⟩, ⟨(some 106), none, .ln true (.t 105)⟩, ⟨(some 107), none, .ic .lss (.t 104) (.t 106)⟩, ⟨(some 108), none, .mv (.t 107)⟩, ⟨(some 109), (some (108, true)), .mv (.t 0)⟩, ⟨(some 110), (some (108, true)), .mv (.t 13)⟩, ⟨(some 111), (some (108, true)), .si (.t 109) (.t 110)⟩, ⟨(some 112), (some (108, true)), .ic .neq (.t 111) (.c (.int .u8 34))⟩, ⟨(some 113), none, .pick (.t 108) (.t 112) (.c (.bool false))⟩, ⟨(some 114), none, .mv (.t 113)⟩, ⟨(some 115), (some (114, true)), .mv (.t 0)⟩, ⟨(some 116), (some (114, true)), .mv (.t 13)⟩, ⟨(some 117), (some (114, true)), .si (.t 115) (.t 116)⟩, ⟨(some 118), (some (114, true)), .ic .neq (.t 117) (.c (.int .u8 10))⟩, ⟨(some 119), none, .pick (.t 114) (.t 118) (.c (.bool false))⟩])
        (.cond (.t 119)
         (.skip)
         (.exit 5)))
        (.block 6 (.reg false [⟨(some 120), none, .mv (.t 13)⟩, ⟨(some 121), none, .ar .add (.t 120) (.c (.int .i64 1))⟩, ⟨(some 13), none, .mv (.t 121)⟩]))
def cc28 : CC :=
  .seq (.reg false [⟨(some 6), none, .mv (.c (.int .i64 0))⟩, ⟨(some 7), none, .mv (.c (.int .i64 0))⟩, ⟨(some 8), none, .mv (.c (.int .i64 0))⟩])
  (.seq (.reg false [⟨(some 15), none, .mv (.t 0)⟩, ⟨(some 16), none, .mv (.t 1)⟩, ⟨(some 17), none, .si (.t 15) (.t 16)⟩, ⟨(some 9), none, .mv (.t 17)⟩])
  (.seq (.block 0 (.seq (.reg false [⟨(some 19), none, .mv (.t 9)⟩, ⟨(some 20), none, .call 31 [(.t 19)]⟩, ⟨(some 18), none, .mv (.t 20)⟩])
   (.cond (.t 18)
    (.seq (.reg false [⟨(some 21), none, .mv (.t 0)⟩, ⟨(some 22), none, .mv (.t 1)⟩, ⟨(some 23), none, .call 41 [(.t 21), (.t 22)]⟩, ⟨(some 10), none, .mv (.t 23)⟩])
    (.seq (.reg false [⟨(some 24), none, .mv (.t 0)⟩, ⟨(some 25), none, .mv (.t 1)⟩, ⟨(some 26), none, .mv (.t 10)⟩, ⟨(some 27), none, .ss (.t 24) (some (.t 25)) (some (.t 26))⟩, ⟨(some 11), none, .mv (.t 27)⟩])
    (.seq (.block 1 (.seq (.reg false [⟨(some 29), none, .mv (.t 10)⟩, ⟨(some 30), none, .mv (.t 1)⟩, ⟨(some 31), none, .ar .sub (.t 29) (.t 30)⟩, ⟨(some 32), none, .ic .gtr (.t 31) (.c (.int .i64 64))⟩, ⟨(some 28), none, .mv (.t 32)⟩])
     (.cond (.t 28)
      (.seq (.reg false [⟨(some 33), none, .mv (.t 1)⟩, ⟨(some 6), none, .mv (.c (.int .i64 0))⟩, ⟨(some 7), none, .mv (.t 33)⟩, ⟨(some 8), none, .mv (.c (.int .i64 5))⟩])
      (.ret))
      (.seq (.reg false [⟨(some 35), none, .mv (.t 11)⟩, ⟨(some 36), none, .sc .eql (.t 35) (.c (.str [95]))⟩, ⟨(some 37), none, .mv (.t 36)⟩, ⟨(some 38), (some (37, false)), .mv (.t 2)⟩, ⟨(some 39), (some (37, false)), .mv (.t 11)⟩, ⟨(some 40), (some (37, false)), .call 42 [(.t 38), (.t 39)]⟩, ⟨(some 41), none, .pick (.t 37) (.c (.bool true)) (.t 40)⟩, ⟨(some 34), none, .mv (.t 41)⟩])
      (.cond (.t 34)
       (.seq (.reg false [⟨(some 42), none, .mv (.t 10)⟩, ⟨(some 6), none, .mv (.c (.int .i64 2))⟩, ⟨(some 7), none, .mv (.t 42)⟩, ⟨(some 8), none, .mv (.c (.int .i64 0))⟩])
       (.ret))
       (.seq (.reg false [⟨(some 44), none, .mv (.t 11)⟩, ⟨(some 45), none, .call 16 [(.t 44)]⟩, ⟨(some 43), none, .mv (.t 45)⟩])
       (.cond (.t 43)
        (.seq (.reg false [⟨(some 46), none, .mv (.t 10)⟩, ⟨(some 6), none, .mv (.c (.int .i64 3))⟩, ⟨(some 7), none, .mv (.t 46)⟩, ⟨(some 8), none, .mv (.c (.int .i64 0))⟩])
        (.ret))
        (.skip))))))))
    (.seq (.reg false [⟨(some 47), none, .mv (.t 10)⟩, ⟨(some 6), none, .mv (.c (.int .i64 0))⟩, ⟨(some 7), none, .mv (.t 47)⟩, ⟨(some 8), none, .mv (.c (.int .i64 0))⟩])
    (.ret)))))
    (.seq (.reg false [⟨(some 49), none, .mv (.t 9)⟩, ⟨(some 50), none, .call 43 [(.t 49)]⟩, ⟨(some 48), none, .mv (.t 50)⟩])
    (.cond (.t 48)
     (.seq (.reg false [⟨(some 51), none, .mv (.t 1)⟩, ⟨(some 12), none, .mv (.t 51)⟩])
     (.seq (.block 2 (.loop (cc28_l0)))
     (.seq (.block 4 (.seq (.reg false [⟨(some 65), none, .mv (.t 12)⟩, ⟨(some 66), none, .mv (.t 1)⟩, ⟨(some 67), none, .ar .sub (.t 65) (.t 66)⟩, ⟨(some 68), none, .ic .gtr (.t 67) (.c (.int .i64 6))⟩, ⟨(some 64), none, .mv (.t 68)⟩])
      (.cond (.t 64)
       (.seq (.reg false [⟨(some 69), none, .mv (.t 1)⟩, ⟨(some 6), none, .mv (.c (.int .i64 0))⟩, ⟨(some 7), none, .mv (.t 69)⟩, ⟨(some 8), none, .mv (.c (.int .i64 5))⟩])
       (.ret))
       (.seq (.reg false [⟨(some 71), none, .mv (.t 12)⟩, ⟨(some 72), none, .mv (.t 1)⟩, ⟨(some 73), none, .ar .sub (.t 71) (.t 72)⟩, ⟨(some 74), none, .ic .gtr (.t 73) (.c (.int .i64 1))⟩, ⟨(some 75), none, .mv (.t 74)⟩, ⟨(some 76), (some (75, true)), .mv (.t 9)⟩, ⟨(some 77), (some (75, true)), .ic .eql (.t 76) (.c (.int .u8 48))⟩, ⟨(some 78), none, .pick (.t 75) (.t 77) (.c (.bool false))⟩, ⟨(some 70), none, .mv (.t 78)⟩])
       (.cond (.t 70)
        (.seq (.reg false [⟨(some 79), none, .mv (.t 1)⟩, ⟨(some 6), none, .mv (.c (.int .i64 0))⟩, ⟨(some 7), none, .mv (.t 79)⟩, ⟨(some 8), none, .mv (.c (.int .i64 4))⟩])
        (.ret))
        (.seq (.reg false [⟨(some 81), none, .mv (.t 12)⟩, ⟨(some 82), none, .mv (.t 0)⟩, ⟨(some 83), none, .ln true (.t 82)⟩, ⟨(some 84), none, .ic .lss (.t 81) (.t 83)⟩, ⟨(some 85), none, .mv (.t 84)⟩, ⟨(some 86), (some (85, true)), .mv (.t 0)⟩, ⟨(some 87), (some (85, true)), .mv (.t 12)⟩, ⟨(some 88), (some (85, true)), .si (.t 86) (.t 87)⟩, ⟨(some 89), (some (85, true)), .call 31 [(.t 88)]⟩, ⟨(some 90), (some (85, true)), .mv (.t 89)⟩, ⟨(some 91), (some (90, false)), .mv (.t 0)⟩, ⟨(some 92), (some (90, false)), .mv (.t 12)⟩, ⟨(some 93), (some (90, false)), .si (.t 91) (.t 92)⟩, ⟨(some 94), (some (90, false)), .ic .eql (.t 93) (.c (.int .u8 39))⟩, ⟨(some 95), (some (85, true)), .pick (.t 90) (.c (.bool true)) (.t 94)⟩, ⟨(some 96), none, .pick (.t 85) (.t 95) (.c (.bool false))⟩, ⟨(some 80), none, .mv (.t 96)⟩])
        (.cond (.t 80)
         (.seq (.reg false [⟨(some 97), none, .mv (.t 12)⟩, ⟨(some 6), none, .mv (.c (.int .i64 0))⟩, ⟨(some 7), none, .mv (.t 97)⟩, ⟨(some 8), none, .mv (.c (.int .i64 4))⟩])
         (.ret))
         (.skip))))))))
     (.seq (.reg false [⟨(some 98), none, .mv (.t 12)⟩, ⟨(some 6), none, .mv (.c (.int .i64 1))⟩, ⟨(some 7), none, .mv (.t 98)⟩, ⟨(some 8), none, .mv (.c (.int .i64 0))⟩])
     (.ret)))))
     (.seq (.reg false [⟨(some 100), none, .mv (.t 9)⟩, ⟨(some 101), none, .ic .eql (.t 100) (.c (.int .u8 34))⟩, ⟨(some 99), none, .mv (.t 101)⟩])
     (.cond (.t 99)
      (.seq (.reg false [⟨(some 102), none, .mv (.t 1)⟩, ⟨(some 103), none, .ar .add (.t 102) (.c (.int .i64 1))⟩, ⟨(some 13), none, .mv (.t 103)⟩])
      (.seq (.block 5 (.loop (cc28_l1)))
      (.seq (.seq (.reg false [⟨(some 122), none, .mv (.t 13)⟩, ⟨(some 123), none, .mv (.t 0)⟩, ⟨(some 124), none, .ln true (.t 123)⟩, ⟨(some 125), none, .ic .eql (.t 122) (.t 124)⟩, ⟨(some 126), none, .mv (.t 125)⟩, ⟨(some 127), (some (126, false)), .mv (.t 0)⟩, ⟨(some 128), (some (126, false)), .mv (.t 13)⟩, ⟨(some 129), (some (126, false)), .si (.t 127) (.t 128)⟩, ⟨(some 130), (some (126, false)), .ic .neq (.t 129) (.c (.int .u8 34))⟩, ⟨(some 131), none, .pick (.t 126) (.c (.bool true)) (.t 130)⟩])
      (.cond (.t 131)
       (.seq (.reg false [⟨(some 132), none, .mv (.t 1)⟩, ⟨(some 6), none, .mv (.c (.int .i64 0))⟩, ⟨(some 7), none, .mv (.t 132)⟩, ⟨(some 8), none, .mv (.c (.int .i64 4))⟩])
       (.ret))
       (.skip)))
      (.seq (.reg false [⟨(some 133), none, .mv (.t 13)⟩, ⟨(some 134), none, .ar .add (.t 133) (.c (.int .i64 1))⟩, ⟨(some 6), none, .mv (.c (.int .i64 2))⟩, ⟨(some 7), none, .mv (.t 134)⟩, ⟨(some 8), none, .mv (.c (.int .i64 0))⟩])
      (.ret)))))
      (.skip))))))))
  (.seq (.reg false [⟨(some 135), none, .mv (.t 0)⟩, ⟨(some 136), none, .mv (.t 1)⟩, ⟨(some 137), none, .call 34 []⟩, ⟨(some 138), none, .mv (.t 2)⟩, ⟨(some 139), none, .app 9 1 16 (.t 137) (.t 138)⟩, ⟨(some 140), none, .call 44 [(.t 135), (.t 136), (.t 139)]⟩, ⟨(some 14), none, .mv (.t 140)⟩])
  (.seq (.seq (.reg false [⟨(some 141), none, .mv (.t 14)⟩, ⟨(some 142), none, .ic .eql (.t 141) (.c (.int .i64 0))⟩])
  (.cond (.t 142)
   (.seq (.reg false [⟨(some 143), none, .mv (.t 1)⟩, ⟨(some 6), none, .mv (.c (.int .i64 0))⟩, ⟨(some 7), none, .mv (.t 143)⟩, ⟨(some 8), none, .mv (.c (.int .i64 4))⟩])
   (.ret))
   (.skip)))
  (.seq (.reg false [⟨(some 144), none, .mv (.t 1)⟩, ⟨(some 145), none, .mv (.t 14)⟩, ⟨(some 146), none, .ar .add (.t 144) (.t 145)⟩, ⟨(some 6), none, .mv (.c (.int .i64 2))⟩, ⟨(some 7), none, .mv (.t 146)⟩, ⟨(some 8), none, .mv (.c (.int .i64 0))⟩])
  (.ret))))))
theorem comp28 : comp tt esc28 (Tryd.f28.body.getD .skip) = cc28 := by kernel_rfl
theorem has28 : Has Tryd.prog 28 := ⟨_, Tryd.func28, by kernel_rfl, by decide⟩
theorem enter28 (a0 a1 a2 : AV) {M : Mem} {R : AEnd → Mem → Prop} (h : CWp none Tryd.prog tt esc28 cc28 (Am.Fin Tryd.prog Tryd.f28 R) { tmps := (.v a0 :: .v a1 :: .v a2 :: .junk :: .junk :: .junk :: .junk :: .junk :: .junk :: .junk :: .junk :: .junk :: .junk :: .junk :: .junk :: .junk :: .junk :: .junk :: .junk :: .junk :: .junk :: .junk :: .junk :: .junk :: .junk :: .junk :: .junk :: .junk :: .junk :: .junk :: .junk :: .junk :: .junk :: .junk :: .junk :: .junk :: .junk :: .junk :: .junk :: .junk :: .junk :: .junk :: .junk :: .junk :: .junk :: .junk :: .junk :: .junk :: .junk :: .junk :: .junk :: .junk :: .junk :: .junk :: .junk :: .junk :: .junk :: .junk :: .junk :: .junk :: .junk :: .junk :: .junk :: .junk :: .junk :: .junk :: .junk :: .junk :: .junk :: .junk :: .junk :: .junk :: .junk :: .junk :: .junk :: .junk :: .junk :: .junk :: .junk :: .junk :: .junk :: .junk :: .junk :: .junk :: .junk :: .junk :: .junk :: .junk :: .junk :: .junk :: .junk :: .junk :: .junk :: .junk :: .junk :: .junk :: .junk :: .junk :: .junk :: .junk :: .junk :: .junk :: .junk :: .junk :: .junk :: .junk :: .junk :: .junk :: .junk :: .junk :: .junk :: .junk :: .junk :: .junk :: .junk :: .junk :: .junk :: .junk :: .junk :: .junk :: .junk :: .junk :: .junk :: .junk :: .junk :: .junk :: .junk :: .junk :: .junk :: .junk :: .junk :: .junk :: .junk :: .junk :: .junk :: .junk :: .junk :: .junk :: .junk :: .junk :: .junk :: .junk :: .junk :: .junk :: .junk :: .junk :: .junk :: []), loc := [], rows := [], defs := [], M := M }) : ACalls Tryd.prog 28 [a0, a1, a2] M R := ACalls.of 144 cc28 Tryd.func28 (by kernel_rfl) rfl comp28 h

/-- euclid/lexer.inWord (1 parameters, 0 captured, 15 slots) -/
def esc29 : List Nat := []
def cc29 : CC :=
  .seq (.reg false [⟨(some 2), none, .mv (.c (.bool false))⟩])
  (.seq (.reg false [⟨(some 3), none, .mv (.t 0)⟩, ⟨(some 4), none, .call 26 [(.t 3)]⟩, ⟨(some 5), none, .ic .eql (.t 4) (.c (.int .i64 1))⟩, ⟨(some 6), none, .mv (.t 5)⟩, ⟨(some 7), (some (6, false)), .mv (.t 0)⟩, ⟨(some 8), (some (6, false)), .call 26 [(.t 7)]⟩, ⟨(some 9), (some (6, false)), .ic .eql (.t 8) (.c (.int .i64 2))⟩, ⟨(some 10), none, .pick (.t 6) (.c (.bool true)) (.t 9)⟩, ⟨(some 11), none, .mv (.t 10)⟩, ⟨(some 12), (some (11, false)), .mv (.t 0)⟩, ⟨(some 13), (some (11, false)), .ic .eql (.t 12) (.c (.int .u8 39))⟩, ⟨(some 14), none, .pick (.t 11) (.c (.bool true)) (.t 13)⟩, ⟨(some 2), none, .mv (.t 14)⟩])
  (.ret))
theorem comp29 : comp tt esc29 (Tryd.f29.body.getD .skip) = cc29 := by kernel_rfl
theorem has29 : Has Tryd.prog 29 := ⟨_, Tryd.func29, by kernel_rfl, by decide⟩
theorem enter29 (a0 : AV) {M : Mem} {R : AEnd → Mem → Prop} (h : CWp none Tryd.prog tt esc29 cc29 (Am.Fin Tryd.prog Tryd.f29 R) { tmps := [.v a0, .junk, .junk, .junk, .junk, .junk, .junk, .junk, .junk, .junk, .junk, .junk, .junk, .junk, .junk], loc := [], rows := [], defs := [], M := M }) : ACalls Tryd.prog 29 [a0] M R := ACalls.of 14 cc29 Tryd.func29 (by kernel_rfl) rfl comp29 h

/-- euclid/euclidref24.begins (1 parameters, 0 captured, 9 slots) -/
def esc31 : List Nat := []
def cc31 : CC :=
  .seq (.reg false [⟨(some 2), none, .mv (.c (.bool false))⟩])
  (.seq (.reg false [⟨(some 3), none, .mv (.t 0)⟩, ⟨(some 4), none, .call 46 [(.t 3)]⟩, ⟨(some 5), none, .mv (.t 4)⟩, ⟨(some 6), (some (5, false)), .mv (.t 0)⟩, ⟨(some 7), (some (5, false)), .ic .eql (.t 6) (.c (.int .u8 95))⟩, ⟨(some 8), none, .pick (.t 5) (.c (.bool true)) (.t 7)⟩, ⟨(some 2), none, .mv (.t 8)⟩])
  (.ret))
theorem comp31 : comp tt esc31 (Tryd.f31.body.getD .skip) = cc31 := by kernel_rfl
theorem has31 : Has Tryd.prog 31 := ⟨_, Tryd.func31, by kernel_rfl, by decide⟩
theorem enter31 (a0 : AV) {M : Mem} {R : AEnd → Mem → Prop} (h : CWp none Tryd.prog tt esc31 cc31 (Am.Fin Tryd.prog Tryd.f31 R) { tmps := [.v a0, .junk, .junk, .junk, .junk, .junk, .junk, .junk, .junk], loc := [], rows := [], defs := [], M := M }) : ACalls Tryd.prog 31 [a0] M R := ACalls.of 8 cc31 Tryd.func31 (by kernel_rfl) rfl comp31 h

def lp32_0 (x0 x1 : TV) : List TV := [x0, x1, .junk, .junk, .junk, .junk, .junk, .junk, .junk, .junk, .junk, .junk, .junk, .junk, .junk, .junk, .junk, .junk, .junk, .junk, .junk, .junk, .junk, .junk, .junk, .junk, .junk, .junk, .junk, .junk]

/-- euclid/euclidref24.component (2 parameters, 0 captured, 30 slots) -/
def esc32 : List Nat := []
def cc32_l0 : CC :=
  .seq (.seq (.reg false [⟨(some 5), none, .mv (.t 1)⟩, ⟨(some 6), none, .mv (.t 0)⟩, ⟨(some 7), none, .ln true (.t 6)⟩, ⟨(some 8), none, .ic .lss (.t 5) (.t 7)⟩, ⟨(some 9), none, .mv (.t 8)⟩, ⟨(some 10), (some (9, true)), .mv (.t 0)⟩, ⟨(some 11), (some (9, true)), .mv (.t 1)⟩, ⟨(some 12), (some (9, true)), .si (.t 10) (.t 11)⟩, ⟨(some 13), (some (9, true)), .call 31 [(.t 12)]⟩, ⟨(some 14), (some (9, true)), .mv (.t 13)⟩, ⟨(some 15), (some (14, false)), .mv (.t 0)⟩, ⟨(some 16), (some (14, false)), .mv (.t 1)⟩, ⟨(some 17), (some (14, false)), .si (.t 15) (.t 16)⟩, ⟨(some 18), (some (14, false)), .call 43 [(.t 17)]⟩, ⟨(some 19), (some (9, true)), .pick (.t 14) (.c (.bool true)) (.t 18)⟩, ⟨(some 20), (some (9, true)), .mv (.t 19)⟩, ⟨(some 21), (some (20, false)), .mv (.t 0)⟩, ⟨(some 22), (some (20, false)), .mv (.t 1)⟩, ⟨(some 23), (some (20, false)), .si (.t 21) (.t 22)⟩, ⟨(some 24), (some (20, false)), .ic .eql (.t 23) (.c (.int .u8 39))⟩, ⟨(some 25), (some (9, true)), .pick (.t 20) (.c (.bool true)) (.t 24)⟩, ⟨(some 26), none, .pick (.t 9) (.t 25) (.c (.bool false))⟩])
    (.cond (.t 26)
     (.skip)
     (.exit 0)))
    (.block 1 (.reg false [⟨(some 27), none, .mv (.t 1)⟩, ⟨(some 28), none, .ar .add (.t 27) (.c (.int .i64 1))⟩, ⟨(some 1), none, .mv (.t 28)⟩]))
def cc32 : CC :=
  .seq (.reg false [⟨(some 4), none, .mv (.c (.int .i64 0))⟩])
  (.seq (.block 0 (.loop (cc32_l0)))
  (.seq (.reg false [⟨(some 29), none, .mv (.t 1)⟩, ⟨(some 4), none, .mv (.t 29)⟩])
  (.ret)))
theorem comp32 : comp tt esc32 (Tryd.f32.body.getD .skip) = cc32 := by kernel_rfl
theorem has32 : Has Tryd.prog 32 := ⟨_, Tryd.func32, by kernel_rfl, by decide⟩
theorem enter32 (a0 a1 : AV) {M : Mem} {R : AEnd → Mem → Prop} (h : CWp none Tryd.prog tt esc32 cc32 (Am.Fin Tryd.prog Tryd.f32 R) { tmps := [.v a0, .v a1, .junk, .junk, .junk, .junk, .junk, .junk, .junk, .junk, .junk, .junk, .junk, .junk, .junk, .junk, .junk, .junk, .junk, .junk, .junk, .junk, .junk, .junk, .junk, .junk, .junk, .junk, .junk, .junk], loc := [], rows := [], defs := [], M := M }) : ACalls Tryd.prog 32 [a0, a1] M R := ACalls.of 28 cc32 Tryd.func32 (by kernel_rfl) rfl comp32 h

def lp33_0 (x0 x3 x4 : TV) : List TV := [x0, .junk, .junk, x3, x4, .junk, .junk, .junk, .junk, .junk, .junk, .junk, .junk, .junk, .junk, .junk]

/-- euclid/euclidref24.sign (1 parameters, 0 captured, 16 slots) -/
def esc33 : List Nat := []
def cc33_l0 : CC :=
  .seq (.seq (.reg false [⟨(some 5), none, .mv (.t 4)⟩, ⟨(some 6), none, .mv (.t 3)⟩, ⟨(some 7), none, .ln true (.t 6)⟩, ⟨(some 8), none, .ic .lss (.t 5) (.t 7)⟩])
    (.cond (.t 8)
     (.skip)
     (.exit 0)))
    (.seq (.block 1 (.seq (.reg false [⟨(some 11), none, .mv (.t 3)⟩, ⟨(some 12), none, .mv (.t 4)⟩, ⟨(some 13), none, .si (.t 11) (.t 12)⟩, ⟨(some 14), none, .mv (.t 0)⟩, ⟨(some 15), none, .ic .eql (.t 13) (.t 14)⟩])
     (.cond (.t 15)
      (.seq (.reg false [⟨(some 2), none, .mv (.c (.bool true))⟩])
      (.ret))
      (.skip))))
    (.reg false [⟨(some 9), none, .mv (.t 4)⟩, ⟨(some 10), none, .ar .add (.t 9) (.c (.int .i64 1))⟩, ⟨(some 4), none, .mv (.t 10)⟩]))
def cc33 : CC :=
  .seq (.reg false [⟨(some 2), none, .mv (.c (.bool false))⟩])
  (.seq (.reg false [⟨(some 3), none, .mv (.c (.str [33, 35, 36, 37, 38, 42, 43, 45, 47, 58, 60, 61, 62, 63, 64, 92, 94, 124, 126]))⟩])
  (.seq (.seq (.reg false [⟨(some 4), none, .mv (.c (.int .i64 0))⟩])
  (.block 0 (.loop (cc33_l0))))
  (.seq (.reg false [⟨(some 2), none, .mv (.c (.bool false))⟩])
  (.ret))))
theorem comp33 : comp tt esc33 (Tryd.f33.body.getD .skip) = cc33 := by kernel_rfl
theorem has33 : Has Tryd.prog 33 := ⟨_, Tryd.func33, by kernel_rfl, by decide⟩
theorem enter33 (a0 : AV) {M : Mem} {R : AEnd → Mem → Prop} (h : CWp none Tryd.prog tt esc33 cc33 (Am.Fin Tryd.prog Tryd.f33 R) { tmps := [.v a0, .junk, .junk, .junk, .junk, .junk, .junk, .junk, .junk, .junk, .junk, .junk, .junk, .junk, .junk, .junk], loc := [], rows := [], defs := [], M := M }) : ACalls Tryd.prog 33 [a0] M R := ACalls.of 15 cc33 Tryd.func33 (by kernel_rfl) rfl comp33 h

/-- euclid/euclidref24.fixed (0 parameters, 0 captured, 2 slots) -/
def esc34 : List Nat := []
def cc34 : CC :=
  .seq (.reg false [⟨(some 0), none, .mv (.c (.sl .full 1 []))⟩])
  (.seq (.reg false [⟨(some 1), none, .bs 9 1 [(.c (.str [40])), (.c (.str [41])), (.c (.str [40, 41])), (.c (.str [123])), (.c (.str [125])), (.c (.str [91])), (.c (.str [93])), (.c (.str [44])), (.c (.str [59])), (.c (.str [58])), (.c (.str [58, 61])), (.c (.str [45, 62])), (.c (.str [61, 62])), (.c (.str [124])), (.c (.str [64])), (.c (.str [43])), (.c (.str [95])), (.c (.str [46, 123])), (.c (.str [46, 49])), (.c (.str [46, 50])), (.c (.str [60, 124, 62]))]⟩, ⟨(some 0), none, .mv (.t 1)⟩])
  (.ret))
theorem comp34 : comp tt esc34 (Tryd.f34.body.getD .skip) = cc34 := by kernel_rfl
theorem has34 : Has Tryd.prog 34 := ⟨_, Tryd.func34, by kernel_rfl, by decide⟩
theorem enter34 {M : Mem} {R : AEnd → Mem → Prop} (h : CWp none Tryd.prog tt esc34 cc34 (Am.Fin Tryd.prog Tryd.f34 R) { tmps := [.junk, .junk], loc := [], rows := [], defs := [], M := M }) : ACalls Tryd.prog 34 [] M R := ACalls.of 2 cc34 Tryd.func34 (by kernel_rfl) rfl comp34 h

/-- strings.FieldsSeq (1 parameters, 0 captured, 4 slots) -/
def esc35 : List Nat := [1]
def cc35 : CC :=
  .seq (.reg false [⟨(some 1), none, .bxS 9 (.t 0)⟩, ⟨(some 2), none, .mv (.c .nilfn)⟩])
  (.seq (.reg false [⟨(some 3), none, .mf (.func 47) [] [(.t 1)]⟩, ⟨(some 2), none, .mv (.t 3)⟩])
  (.ret))
theorem comp35 : comp tt esc35 (Tryd.f35.body.getD .skip) = cc35 := by kernel_rfl
theorem has35 : Has Tryd.prog 35 := ⟨_, Tryd.func35, by kernel_rfl, by decide⟩
theorem enter35 (a0 : AV) {M : Mem} {R : AEnd → Mem → Prop} (h : CWp none Tryd.prog tt esc35 cc35 (Am.Fin Tryd.prog Tryd.f35 R) { tmps := [.v a0, .junk, .junk, .junk], loc := [], rows := [], defs := [], M := M }) : ACalls Tryd.prog 35 [a0] M R := ACalls.of 3 cc35 Tryd.func35 (by kernel_rfl) rfl comp35 h

/-- strings.ContainsRune (2 parameters, 0 captured, 9 slots) -/
def esc38 : List Nat := []
def cc38 : CC :=
  .seq (.reg false [⟨(some 4), none, .mv (.c (.bool false))⟩])
  (.seq (.reg false [⟨(some 5), none, .mv (.t 0)⟩, ⟨(some 6), none, .mv (.t 1)⟩, ⟨(some 7), none, .call 51 [(.t 5), (.t 6)]⟩, ⟨(some 8), none, .ic .geq (.t 7) (.c (.int .i64 0))⟩, ⟨(some 4), none, .mv (.t 8)⟩])
  (.ret))
theorem comp38 : comp tt esc38 (Tryd.f38.body.getD .skip) = cc38 := by kernel_rfl
theorem has38 : Has Tryd.prog 38 := ⟨_, Tryd.func38, by kernel_rfl, by decide⟩
theorem enter38 (a0 a1 : AV) {M : Mem} {R : AEnd → Mem → Prop} (h : CWp none Tryd.prog tt esc38 cc38 (Am.Fin Tryd.prog Tryd.f38 R) { tmps := [.v a0, .v a1, .junk, .junk, .junk, .junk, .junk, .junk, .junk], loc := [], rows := [], defs := [], M := M }) : ACalls Tryd.prog 38 [a0, a1] M R := ACalls.of 7 cc38 Tryd.func38 (by kernel_rfl) rfl comp38 h

def lp41_0 (x0 x1 : TV) : List TV := [x0, x1, .junk, .junk, .junk, .junk, .junk, .junk, .junk, .junk, .junk, .junk, .junk, .junk, .junk, .junk, .junk, .junk, .junk, .junk, .junk, .junk, .junk, .junk, .junk, .junk, .junk, .junk, .junk, .junk, .junk]

/-- euclid/euclidref24.name (2 parameters, 0 captured, 31 slots) -/
def esc41 : List Nat := []
def cc41_l0 : CC :=
  .seq (.seq (.reg false [⟨(some 8), none, .mv (.t 1)⟩, ⟨(some 9), none, .ar .add (.t 8) (.c (.int .i64 1))⟩, ⟨(some 10), none, .mv (.t 0)⟩, ⟨(some 11), none, .ln true (.t 10)⟩, ⟨(some 12), none, .ic .lss (.t 9) (.t 11)⟩, ⟨(some 13), none, .mv (.t 12)⟩, ⟨(some 14), (some (13, true)), .mv (.t 0)⟩, ⟨(some 15), (some (13, true)), .mv (.t 1)⟩, ⟨(some 16), (some (13, true)), .si (.t 14) (.t 15)⟩, ⟨(some 17), (some (13, true)), .ic .eql (.t 16) (.c (.int .u8 46))⟩, ⟨(some 18), none, .pick (.t 13) (.t 17) (.c (.bool false))⟩, ⟨(some 19), none, .mv (.t 18)⟩, ⟨(some 20), (some (19, true)), .mv (.t 0)⟩, ⟨(some 21), (some (19, true)), .mv (.t 1)⟩, ⟨(some 22), (some (19, true)), .ar .add (.t 21) (.c (.int .i64 1))⟩, ⟨(some 23), (some (19, true)), .si (.t 20) (.t 22)⟩, ⟨(some 24), (some (19, true)), .call 31 [(.t 23)]⟩, ⟨(some 25), none, .pick (.t 19) (.t 24) (.c (.bool false))⟩])
    (.cond (.t 25)
     (.skip)
     (.exit 0)))
    (.block 1 (.reg false [⟨(some 26), none, .mv (.t 0)⟩, ⟨(some 27), none, .mv (.t 1)⟩, ⟨(some 28), none, .ar .add (.t 27) (.c (.int .i64 1))⟩, ⟨(some 29), none, .call 32 [(.t 26), (.t 28)]⟩, ⟨(some 1), none, .mv (.t 29)⟩]))
def cc41 : CC :=
  .seq (.reg false [⟨(some 4), none, .mv (.c (.int .i64 0))⟩])
  (.seq (.reg false [⟨(some 5), none, .mv (.t 0)⟩, ⟨(some 6), none, .mv (.t 1)⟩, ⟨(some 7), none, .call 32 [(.t 5), (.t 6)]⟩, ⟨(some 1), none, .mv (.t 7)⟩])
  (.seq (.block 0 (.loop (cc41_l0)))
  (.seq (.reg false [⟨(some 30), none, .mv (.t 1)⟩, ⟨(some 4), none, .mv (.t 30)⟩])
  (.ret))))
theorem comp41 : comp tt esc41 (Tryd.f41.body.getD .skip) = cc41 := by kernel_rfl
theorem has41 : Has Tryd.prog 41 := ⟨_, Tryd.func41, by kernel_rfl, by decide⟩
theorem enter41 (a0 a1 : AV) {M : Mem} {R : AEnd → Mem → Prop} (h : CWp none Tryd.prog tt esc41 cc41 (Am.Fin Tryd.prog Tryd.f41 R) { tmps := [.v a0, .v a1, .junk, .junk, .junk, .junk, .junk, .junk, .junk, .junk, .junk, .junk, .junk, .junk, .junk, .junk, .junk, .junk, .junk, .junk, .junk, .junk, .junk, .junk, .junk, .junk, .junk, .junk, .junk, .junk, .junk], loc := [], rows := [], defs := [], M := M }) : ACalls Tryd.prog 41 [a0, a1] M R := ACalls.of 29 cc41 Tryd.func41 (by kernel_rfl) rfl comp41 h

def lp42_0 (x0 x1 x5 : TV) : List TV := [x0, x1, .junk, .junk, .junk, x5, .junk, .junk, .junk, .junk, .junk, .junk, .junk, .junk, .junk, .junk, .junk, .junk]

/-- euclid/euclidref24.has (2 parameters, 0 captured, 18 slots) -/
def esc42 : List Nat := []
def cc42_l0 : CC :=
  .seq (.seq (.reg false [⟨(some 6), none, .mv (.t 5)⟩, ⟨(some 7), none, .mv (.t 0)⟩, ⟨(some 8), none, .ln false (.t 7)⟩, ⟨(some 9), none, .ic .lss (.t 6) (.t 8)⟩])
    (.cond (.t 9)
     (.skip)
     (.exit 0)))
    (.seq (.block 1 (.seq (.reg false [⟨(some 12), none, .mv (.t 0)⟩, ⟨(some 13), none, .mv (.t 5)⟩, ⟨(some 14), none, .ia 1 (.t 12) (.t 13)⟩, ⟨(some 15), none, .ld 1 false (.t 14)⟩, ⟨(some 16), none, .mv (.t 1)⟩, ⟨(some 17), none, .sc .eql (.t 15) (.t 16)⟩])
     (.cond (.t 17)
      (.seq (.reg false [⟨(some 4), none, .mv (.c (.bool true))⟩])
      (.ret))
      (.skip))))
    (.reg false [⟨(some 10), none, .mv (.t 5)⟩, ⟨(some 11), none, .ar .add (.t 10) (.c (.int .i64 1))⟩, ⟨(some 5), none, .mv (.t 11)⟩]))
def cc42 : CC :=
  .seq (.reg false [⟨(some 4), none, .mv (.c (.bool false))⟩])
  (.seq (.seq (.reg false [⟨(some 5), none, .mv (.c (.int .i64 0))⟩])
  (.block 0 (.loop (cc42_l0))))
  (.seq (.reg false [⟨(some 4), none, .mv (.c (.bool false))⟩])
  (.ret)))
theorem comp42 : comp tt esc42 (Tryd.f42.body.getD .skip) = cc42 := by kernel_rfl
theorem has42 : Has Tryd.prog 42 := ⟨_, Tryd.func42, by kernel_rfl, by decide⟩
theorem enter42 (a0 a1 : AV) {M : Mem} {R : AEnd → Mem → Prop} (h : CWp none Tryd.prog tt esc42 cc42 (Am.Fin Tryd.prog Tryd.f42 R) { tmps := [.v a0, .v a1, .junk, .junk, .junk, .junk, .junk, .junk, .junk, .junk, .junk, .junk, .junk, .junk, .junk, .junk, .junk, .junk], loc := [], rows := [], defs := [], M := M }) : ACalls Tryd.prog 42 [a0, a1] M R := ACalls.of 16 cc42 Tryd.func42 (by kernel_rfl) rfl comp42 h

/-- euclid/euclidref24.digit (1 parameters, 0 captured, 9 slots) -/
def esc43 : List Nat := []
def cc43 : CC :=
  .seq (.reg false [⟨(some 2), none, .mv (.c (.bool false))⟩])
  (.seq (.reg false [⟨(some 3), none, .mv (.t 0)⟩, ⟨(some 4), none, .ic .geq (.t 3) (.c (.int .u8 48))⟩, ⟨(some 5), none, .mv (.t 4)⟩, ⟨(some 6), (some (5, true)), .mv (.t 0)⟩, ⟨(some 7), (some (5, true)), .ic .leq (.t 6) (.c (.int .u8 57))⟩, ⟨(some 8), none, .pick (.t 5) (.t 7) (.c (.bool false))⟩, ⟨(some 2), none, .mv (.t 8)⟩])
  (.ret))
theorem comp43 : comp tt esc43 (Tryd.f43.body.getD .skip) = cc43 := by kernel_rfl
theorem has43 : Has Tryd.prog 43 := ⟨_, Tryd.func43, by kernel_rfl, by decide⟩
theorem enter43 (a0 : AV) {M : Mem} {R : AEnd → Mem → Prop} (h : CWp none Tryd.prog tt esc43 cc43 (Am.Fin Tryd.prog Tryd.f43 R) { tmps := [.v a0, .junk, .junk, .junk, .junk, .junk, .junk, .junk, .junk], loc := [], rows := [], defs := [], M := M }) : ACalls Tryd.prog 43 [a0] M R := ACalls.of 8 cc43 Tryd.func43 (by kernel_rfl) rfl comp43 h

def lp44_0 (x0 x1 x2 x7 x8 : TV) : List TV := (x0 :: x1 :: x2 :: .junk :: .junk :: .junk :: .junk :: x7 :: x8 :: .junk :: .junk :: .junk :: .junk :: .junk :: .junk :: .junk :: .junk :: .junk :: .junk :: .junk :: .junk :: .junk :: .junk :: .junk :: .junk :: .junk :: .junk :: .junk :: .junk :: .junk :: .junk :: .junk :: .junk :: .junk :: .junk :: .junk :: .junk :: .junk :: .junk :: .junk :: .junk :: .junk :: .junk :: .junk :: .junk :: .junk :: .junk :: [])

/-- euclid/euclidref24.longest (3 parameters, 0 captured, 47 slots) -/
def esc44 : List Nat := []
def dl44_0 : List COp := [⟨(some 21), none, .mv (.t 9)⟩, ⟨(some 22), none, .mv (.t 7)⟩, ⟨(some 23), none, .ic .gtr (.t 21) (.t 22)⟩, ⟨(some 24), none, .mv (.t 23)⟩, ⟨(some 25), (some (24, true)), .mv (.t 1)⟩, ⟨(some 26), (some (24, true)), .mv (.t 9)⟩, ⟨(some 27), (some (24, true)), .ar .add (.t 25) (.t 26)⟩, ⟨(some 28), (some (24, true)), .mv (.t 0)⟩, ⟨(some 29), (some (24, true)), .ln true (.t 28)⟩, ⟨(some 30), (some (24, true)), .ic .leq (.t 27) (.t 29)⟩, ⟨(some 31), none, .pick (.t 24) (.t 30) (.c (.bool false))⟩, ⟨(some 32), none, .mv (.t 31)⟩, ⟨(some 33), (some (32, true)), .mv (.t 0)⟩, ⟨(some 34), (some (32, true)), .mv (.t 1)⟩, ⟨(some 35), (some (32, true)), .mv (.t 1)⟩, ⟨(some 36), (some (32, true)), .mv (.t 9)⟩, ⟨(some 37), (some (32, true)), .ar .add (.t 35) (.t 36)⟩, ⟨(some 38), (some (32, true)), .ss (.t 33) (some (.t 34)) (some (.t 37))⟩, ⟨(some 39), (some (32, true)), .mv (.t 2)⟩, ⟨(some 40), (some (32, true)), .mv (.t 8)⟩, ⟨(some 41), (some (32, true)), .ia 1 (.t 39) (.t 40)⟩, ⟨(some 42), (some (32, true)), .ld 1 false (.t 41)⟩, ⟨(some 43), (some (32, true)), .sc .eql (.t 38) (.t 42)⟩, ⟨(some 44), none, .pick (.t 32) (.t 43) (.c (.bool false))⟩]
def dp44_0 : List (List Nat) := [[], [], [0, 1], [2], [3], [3], [4, 5, 3], [3], [7, 3], [6, 8, 3], [3, 9], [10, 3], [11], [11], [11], [11], [14, 15, 11], [12, 13, 16, 11], [11], [11], [18, 19, 11], [20, 11], [17, 21, 11], [11, 22]]
def dk44_0 : List (List Nat) := [[], [], [], [], [], [], [], [], [], [], [], [], [], [], [], [], [], [], [], [], [], [], [], []]
theorem dr44_0 : DrawOk dl44_0 dp44_0 dk44_0 [(0, ⟨(some 21), none, .mv (.t 9)⟩, []), (1, ⟨(some 22), none, .mv (.t 7)⟩, []), (2, ⟨(some 23), none, .ic .gtr (.t 21) (.t 22)⟩, []), (3, ⟨(some 24), none, .mv (.t 23)⟩, []), (4, ⟨(some 25), (some (24, true)), .mv (.t 1)⟩, []), (5, ⟨(some 26), (some (24, true)), .mv (.t 9)⟩, []), (6, ⟨(some 27), (some (24, true)), .ar .add (.t 25) (.t 26)⟩, []), (7, ⟨(some 28), (some (24, true)), .mv (.t 0)⟩, []), (8, ⟨(some 29), (some (24, true)), .ln true (.t 28)⟩, []), (9, ⟨(some 30), (some (24, true)), .ic .leq (.t 27) (.t 29)⟩, []), (10, ⟨(some 31), none, .pick (.t 24) (.t 30) (.c (.bool false))⟩, []), (11, ⟨(some 32), none, .mv (.t 31)⟩, []), (12, ⟨(some 33), (some (32, true)), .mv (.t 0)⟩, []), (13, ⟨(some 34), (some (32, true)), .mv (.t 1)⟩, []), (14, ⟨(some 35), (some (32, true)), .mv (.t 1)⟩, []), (15, ⟨(some 36), (some (32, true)), .mv (.t 9)⟩, []), (16, ⟨(some 37), (some (32, true)), .ar .add (.t 35) (.t 36)⟩, []), (17, ⟨(some 38), (some (32, true)), .ss (.t 33) (some (.t 34)) (some (.t 37))⟩, []), (18, ⟨(some 39), (some (32, true)), .mv (.t 2)⟩, []), (19, ⟨(some 40), (some (32, true)), .mv (.t 8)⟩, []), (20, ⟨(some 41), (some (32, true)), .ia 1 (.t 39) (.t 40)⟩, []), (21, ⟨(some 42), (some (32, true)), .ld 1 false (.t 41)⟩, []), (22, ⟨(some 43), (some (32, true)), .sc .eql (.t 38) (.t 42)⟩, []), (23, ⟨(some 44), none, .pick (.t 32) (.t 43) (.c (.bool false))⟩, [])] := ⟨⟨[0, 1, 2, 3, 4, 5, 6, 7, 8, 9, 10, 11, 12, 13, 14, 15, 16, 17, 18, 19, 20, 21, 22, 23], rfl, by kernel_rfl, by kernel_rfl⟩, by kernel_rfl⟩
def cc44_l0 : CC :=
  .seq (.seq (.reg false [⟨(some 10), none, .mv (.t 8)⟩, ⟨(some 11), none, .mv (.t 2)⟩, ⟨(some 12), none, .ln false (.t 11)⟩, ⟨(some 13), none, .ic .lss (.t 10) (.t 12)⟩])
    (.cond (.t 13)
     (.skip)
     (.exit 0)))
    (.seq (.block 1 (.seq (.reg false [⟨(some 16), none, .mv (.t 2)⟩, ⟨(some 17), none, .mv (.t 8)⟩, ⟨(some 18), none, .ia 1 (.t 16) (.t 17)⟩, ⟨(some 19), none, .ld 1 false (.t 18)⟩, ⟨(some 20), none, .ln true (.t 19)⟩, ⟨(some 9), none, .mv (.t 20)⟩])
     (.seq (.dreg dl44_0 dp44_0)
     (.cond (.t 44)
      (.reg false [⟨(some 45), none, .mv (.t 9)⟩, ⟨(some 7), none, .mv (.t 45)⟩])
      (.skip)))))
    (.reg false [⟨(some 14), none, .mv (.t 8)⟩, ⟨(some 15), none, .ar .add (.t 14) (.c (.int .i64 1))⟩, ⟨(some 8), none, .mv (.t 15)⟩]))
def cc44 : CC :=
  .seq (.reg false [⟨(some 6), none, .mv (.c (.int .i64 0))⟩])
  (.seq (.reg false [⟨(some 7), none, .mv (.c (.int .i64 0))⟩])
  (.seq (.seq (.reg false [⟨(some 8), none, .mv (.c (.int .i64 0))⟩])
  (.block 0 (.loop (cc44_l0))))
  (.seq (.reg false [⟨(some 46), none, .mv (.t 7)⟩, ⟨(some 6), none, .mv (.t 46)⟩])
  (.ret))))
theorem comp44 : comp tt esc44 (Tryd.f44.body.getD .skip) = cc44 := by kernel_rfl
theorem has44 : Has Tryd.prog 44 := ⟨_, Tryd.func44, by kernel_rfl, by decide⟩
theorem enter44 (a0 a1 a2 : AV) {M : Mem} {R : AEnd → Mem → Prop} (h : CWp none Tryd.prog tt esc44 cc44 (Am.Fin Tryd.prog Tryd.f44 R) { tmps := (.v a0 :: .v a1 :: .v a2 :: .junk :: .junk :: .junk :: .junk :: .junk :: .junk :: .junk :: .junk :: .junk :: .junk :: .junk :: .junk :: .junk :: .junk :: .junk :: .junk :: .junk :: .junk :: .junk :: .junk :: .junk :: .junk :: .junk :: .junk :: .junk :: .junk :: .junk :: .junk :: .junk :: .junk :: .junk :: .junk :: .junk :: .junk :: .junk :: .junk :: .junk :: .junk :: .junk :: .junk :: .junk :: .junk :: .junk :: .junk :: []), loc := [], rows := [], defs := [], M := M }) : ACalls Tryd.prog 44 [a0, a1, a2] M R := ACalls.of 44 cc44 Tryd.func44 (by kernel_rfl) rfl comp44 h

/-- euclid/euclidref24.letter (1 parameters, 0 captured, 17 slots) -/
def esc46 : List Nat := []
def cc46 : CC :=
  .seq (.reg false [⟨(some 2), none, .mv (.c (.bool false))⟩])
  (.seq (.reg false [⟨(some 3), none, .mv (.t 0)⟩, ⟨(some 4), none, .ic .geq (.t 3) (.c (.int .u8 97))⟩, ⟨(some 5), none, .mv (.t 4)⟩, ⟨(some 6), (some (5, true)), .mv (.t 0)⟩, ⟨(some 7), (some (5, true)), .ic .leq (.t 6) (.c (.int .u8 122))⟩, ⟨(some 8), none, .pick (.t 5) (.t 7) (.c (.bool false))⟩, ⟨(some 9), none, .mv (.t 8)⟩, ⟨(some 10), (some (9, false)), .mv (.t 0)⟩, ⟨(some 11), (some (9, false)), .ic .geq (.t 10) (.c (.int .u8 65))⟩, ⟨(some 12), (some (9, false)), .mv (.t 11)⟩, ⟨(some 13), (some (12, true)), .mv (.t 0)⟩, ⟨(some 14), (some (12, true)), .ic .leq (.t 13) (.c (.int .u8 90))⟩, ⟨(some 15), (some (9, false)), .pick (.t 12) (.t 14) (.c (.bool false))⟩, ⟨(some 16), none, .pick (.t 9) (.c (.bool true)) (.t 15)⟩, ⟨(some 2), none, .mv (.t 16)⟩])
  (.ret))
theorem comp46 : comp tt esc46 (Tryd.f46.body.getD .skip) = cc46 := by kernel_rfl
theorem has46 : Has Tryd.prog 46 := ⟨_, Tryd.func46, by kernel_rfl, by decide⟩
theorem enter46 (a0 : AV) {M : Mem} {R : AEnd → Mem → Prop} (h : CWp none Tryd.prog tt esc46 cc46 (Am.Fin Tryd.prog Tryd.f46 R) { tmps := [.v a0, .junk, .junk, .junk, .junk, .junk, .junk, .junk, .junk, .junk, .junk, .junk, .junk, .junk, .junk, .junk, .junk], loc := [], rows := [], defs := [], M := M }) : ACalls Tryd.prog 46 [a0] M R := ACalls.of 16 cc46 Tryd.func46 (by kernel_rfl) rfl comp46 h

def lp47_0 (x0 x1 x3 x4 : TV) : List TV := (x0 :: x1 :: .junk :: x3 :: x4 :: .junk :: .junk :: .junk :: .junk :: .junk :: .junk :: .junk :: .junk :: .junk :: .junk :: .junk :: .junk :: .junk :: .junk :: .junk :: .junk :: .junk :: .junk :: .junk :: .junk :: .junk :: .junk :: .junk :: .junk :: .junk :: .junk :: .junk :: .junk :: .junk :: .junk :: .junk :: .junk :: .junk :: .junk :: .junk :: .junk :: .junk :: .junk :: .junk :: .junk :: .junk :: .junk :: .junk :: .junk :: .junk :: .junk :: .junk :: .junk :: .junk :: .junk :: .junk :: [])

/-- strings.FieldsSeq$1 (1 parameters, 1 captured, 56 slots) -/
def esc47 : List Nat := []
def cc47_l0 : CC :=
  .seq (.seq (.reg false [⟨(some 8), none, .mv (.t 4)⟩, ⟨(some 9), none, .ld 1 false (.t 1)⟩, ⟨(some 10), none, .ln true (.t 9)⟩, ⟨(some 11), none, .ic .lss (.t 8) (.t 10)⟩])
    (.cond (.t 11)
     (.skip)
     (.exit 0)))
    (.block 1 (.seq (.reg false [⟨(some 5), none, .mv (.c (.int .i64 1))⟩])
     (.seq (.reg false [⟨(some 12), none, .ld 1 false (.t 1)⟩, ⟨(some 13), none, .mv (.t 4)⟩, ⟨(some 14), none, .si (.t 12) (.t 13)⟩, ⟨(some 15), none, .cv .i32 (.t 14)⟩, ⟨(some 6), none, .mv (.t 15)⟩])
     (.seq (.reg false [⟨(some 16), none, .ld 1 false (.t 1)⟩, ⟨(some 17), none, .mv (.t 4)⟩, ⟨(some 18), none, .si (.t 16) (.t 17)⟩, ⟨(some 19), none, .iag 0 256 (.t 18)⟩, ⟨(some 20), none, .ld 1 false (.t 19)⟩, ⟨(some 21), none, .ic .neq (.t 20) (.c (.int .u8 0))⟩, ⟨(some 7), none, .mv (.t 21)⟩])
     (.seq (.seq (.reg false [⟨(some 22), none, .mv (.t 6)⟩, ⟨(some 23), none, .ic .geq (.t 22) (.c (.int .i32 128))⟩])
     (.cond (.t 23)
      (.seq (.reg false [⟨(some 25), none, .ld 1 false (.t 1)⟩, ⟨(some 26), none, .mv (.t 4)⟩, ⟨(some 27), none, .ss (.t 25) (some (.t 26)) none⟩, ⟨(some 28), none, .call 48 [(.t 27)]⟩, ⟨(some 24), none, .mv (.t 28)⟩, ⟨(some 29), none, .ex (.t 24) 0⟩, ⟨(some 30), none, .ex (.t 24) 1⟩, ⟨(some 6), none, .mv (.t 29)⟩, ⟨(some 5), none, .mv (.t 30)⟩])
      (.reg false [⟨(some 31), none, .mv (.t 6)⟩, ⟨(some 32), none, .call 49 [(.t 31)]⟩, ⟨(some 7), none, .mv (.t 32)⟩]))
      (.skip)))
     (.seq (.seq (.reg false [⟨(some 33), none, .mv (.t 7)⟩])
     (.cond (.t 33)
      (.seq (.reg false [⟨(some 34), none, .mv (.t 3)⟩, ⟨(some 35), none, .ic .geq (.t 34) (.c (.int .i64 0))⟩])
      (.cond (.t 35)
       (.seq (.seq (.reg false [⟨(some 36), none, .mv (.t 0)⟩, ⟨(some 37), none, .ld 1 false (.t 1)⟩, ⟨(some 38), none, .mv (.t 3)⟩, ⟨(some 39), none, .mv (.t 4)⟩, ⟨(some 40), none, .ss (.t 37) (some (.t 38)) (some (.t 39))⟩, ⟨(some 41), none, .callv (.t 36) [(.t 40)]⟩, ⟨(some 42), none, .no (.t 41)⟩])
       (.cond (.t 42)
        (.ret)
        (.skip)))
       (.reg false [⟨(some 3), none, .mv (.c (.int .i64 (-1)))⟩]))
       (.skip)))
      (.seq (.reg false [⟨(some 43), none, .mv (.t 3)⟩, ⟨(some 44), none, .ic .lss (.t 43) (.c (.int .i64 0))⟩])
      (.cond (.t 44)
       (.reg false [⟨(some 45), none, .mv (.t 4)⟩, ⟨(some 3), none, .mv (.t 45)⟩])
       (.skip)))))
     (.reg false [⟨(some 46), none, .mv (.t 4)⟩, ⟨(some 47), none, .mv (.t 5)⟩, ⟨(some 48), none, .ar .add (.t 46) (.t 47)⟩, ⟨(some 4), none, .mv (.t 48)⟩])))))))
def cc47 : CC :=
  .seq (.reg false [⟨(some 3), none, .mv (.c (.int .i64 (-1)))⟩])
  (.seq (.seq (.reg false [⟨(some 4), none, .mv (.c (.int .i64 0))⟩])
  (.block 0 (.loop (cc47_l0))))
  (.seq (.reg false [⟨(some 49), none, .mv (.t 3)⟩, ⟨(some 50), none, .ic .geq (.t 49) (.c (.int .i64 0))⟩])
  (.cond (.t 50)
   (.reg false [⟨(some 51), none, .mv (.t 0)⟩, ⟨(some 52), none, .ld 1 false (.t 1)⟩, ⟨(some 53), none, .mv (.t 3)⟩, ⟨(some 54), none, .ss (.t 52) (some (.t 53)) none⟩, ⟨(some 55), none, .callv (.t 51) [(.t 54)]⟩])
   (.skip))))
theorem comp47 : comp tt esc47 (Tryd.f47.body.getD .skip) = cc47 := by kernel_rfl
theorem has47 : Has Tryd.prog 47 := ⟨_, Tryd.func47, by kernel_rfl, by decide⟩
theorem enter47 (a0 a1 : AV) {M : Mem} {R : AEnd → Mem → Prop} (h : CWp none Tryd.prog tt esc47 cc47 (Am.Fin Tryd.prog Tryd.f47 R) { tmps := (.v a0 :: .v a1 :: .junk :: .junk :: .junk :: .junk :: .junk :: .junk :: .junk :: .junk :: .junk :: .junk :: .junk :: .junk :: .junk :: .junk :: .junk :: .junk :: .junk :: .junk :: .junk :: .junk :: .junk :: .junk :: .junk :: .junk :: .junk :: .junk :: .junk :: .junk :: .junk :: .junk :: .junk :: .junk :: .junk :: .junk :: .junk :: .junk :: .junk :: .junk :: .junk :: .junk :: .junk :: .junk :: .junk :: .junk :: .junk :: .junk :: .junk :: .junk :: .junk :: .junk :: .junk :: .junk :: .junk :: .junk :: []), loc := [], rows := [], defs := [], M := M }) : ACalls Tryd.prog 47 [a0, a1] M R := ACalls.of 54 cc47 Tryd.func47 (by kernel_rfl) rfl comp47 h
end Go.Proofs.LxA
