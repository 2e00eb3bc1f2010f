import Derived.Test.YtpephlhhdefdgaaDoorScAT
set_option linter.unusedVariables false
set_option maxRecDepth 100000
namespace Go.Proofs.ScA
open Go Go.Am Go.Proofs
set_option linter.unusedSectionVars false
variable [Inhabited LaidBox]
theorem mixed : Tryd.prog.follows .mixedOrders = true := by kernel_rfl

/-- euclid/euclidlaw27.ScopeResolves (2 parameters, 0 captured, 85 slots) -/
def esc3 : List Nat := []
def dl3_0 : List COp := [⟨(some 46), none, .mv (.t 5)⟩, ⟨(some 47), none, .mv (.t 7)⟩, ⟨(some 48), none, .sc .eql (.t 46) (.t 47)⟩, ⟨(some 49), none, .mv (.t 48)⟩, ⟨(some 50), (some (49, true)), .mv (.t 6)⟩, ⟨(some 51), (some (49, true)), .mv (.t 8)⟩, ⟨(some 52), (some (49, true)), .ic .eql (.t 50) (.t 51)⟩, ⟨(some 53), none, .pick (.t 49) (.t 52) (.c (.bool false))⟩, ⟨(some 54), none, .mv (.t 53)⟩, ⟨(some 55), (some (54, true)), .mv (.t 9)⟩, ⟨(some 56), (some (54, true)), .mv (.t 11)⟩, ⟨(some 57), (some (54, true)), .sc .eql (.t 55) (.t 56)⟩, ⟨(some 58), none, .pick (.t 54) (.t 57) (.c (.bool false))⟩, ⟨(some 59), none, .mv (.t 58)⟩, ⟨(some 60), (some (59, true)), .mv (.t 10)⟩, ⟨(some 61), (some (59, true)), .mv (.t 12)⟩, ⟨(some 62), (some (59, true)), .ic .eql (.t 60) (.t 61)⟩, ⟨(some 63), none, .pick (.t 59) (.t 62) (.c (.bool false))⟩, ⟨(some 64), none, .mv (.t 63)⟩, ⟨(some 65), (some (64, true)), .ld 7 true (.t 2)⟩, ⟨(some 66), (some (64, true)), .mv (.t 1)⟩, ⟨(some 67), (some (64, true)), .call 10 [(.t 65), (.t 66)]⟩, ⟨(some 68), (some (64, true)), .ld 7 true (.t 2)⟩, ⟨(some 69), (some (64, true)), .mv (.t 1)⟩, ⟨(some 70), (some (64, true)), .call 11 [(.t 68), (.t 69)]⟩, ⟨(some 71), (some (64, true)), .bc .eql (.t 67) (.t 70)⟩, ⟨(some 72), none, .pick (.t 64) (.t 71) (.c (.bool false))⟩, ⟨(some 73), none, .mv (.t 72)⟩, ⟨(some 74), (some (73, true)), .ld 7 true (.t 2)⟩, ⟨(some 75), (some (73, true)), .mv (.t 1)⟩, ⟨(some 76), (some (73, true)), .call 12 [(.t 74), (.t 75)]⟩, ⟨(some 77), (some (73, true)), .ld 7 true (.t 2)⟩, ⟨(some 78), (some (73, true)), .mv (.t 1)⟩, ⟨(some 79), (some (73, true)), .call 13 [(.t 77), (.t 78)]⟩, ⟨(some 80), (some (73, true)), .sc .eql (.t 76) (.t 79)⟩, ⟨(some 81), none, .pick (.t 73) (.t 80) (.c (.bool false))⟩, ⟨(some 82), none, .mv (.t 81)⟩, ⟨(some 83), (some (82, true)), .call 5 []⟩, ⟨(some 84), none, .pick (.t 82) (.t 83) (.c (.bool false))⟩, ⟨(some 4), none, .mv (.t 84)⟩]
def dp3_0 : List (List Nat) := [[], [], [0, 1], [2], [3], [3], [4, 5, 3], [3, 6], [7, 3], [8], [8], [9, 10, 8], [8, 11], [12, 8], [13], [13], [14, 15, 13], [13, 16], [17, 13], [18], [18], [19, 20, 18, 18], [18], [18], [22, 23, 21, 18], [21, 24, 18], [18, 25], [26, 24], [27], [27], [28, 29, 27, 27], [27], [27], [31, 32, 30, 27], [30, 33, 27], [27, 34], [35, 33], [36, 36], [36, 37], [38, 37, 0, 1, 2, 3, 4, 5, 6, 7, 8, 9, 10, 11, 12, 13, 14, 15, 16, 17, 18, 19, 20, 21, 22, 23, 24, 25, 26, 27, 28, 29, 30, 31, 32, 33, 34, 35, 36, 37, 38]]
def dk3_0 : List (List Nat) := [[], [], [], [], [], [], [], [], [], [], [], [], [], [], [], [], [], [], [], [], [], [22], [22], [], [], [], [], [], [], [], [31], [31], [], [], [], [], [], [], [], []]
theorem dr3_0 : DrawOk dl3_0 dp3_0 dk3_0 [(0, ⟨(some 46), none, .mv (.t 5)⟩, []), (1, ⟨(some 47), none, .mv (.t 7)⟩, []), (2, ⟨(some 48), none, .sc .eql (.t 46) (.t 47)⟩, []), (3, ⟨(some 49), none, .mv (.t 48)⟩, []), (4, ⟨(some 50), (some (49, true)), .mv (.t 6)⟩, []), (5, ⟨(some 51), (some (49, true)), .mv (.t 8)⟩, []), (6, ⟨(some 52), (some (49, true)), .ic .eql (.t 50) (.t 51)⟩, []), (7, ⟨(some 53), none, .pick (.t 49) (.t 52) (.c (.bool false))⟩, []), (8, ⟨(some 54), none, .mv (.t 53)⟩, []), (9, ⟨(some 55), (some (54, true)), .mv (.t 9)⟩, []), (10, ⟨(some 56), (some (54, true)), .mv (.t 11)⟩, []), (11, ⟨(some 57), (some (54, true)), .sc .eql (.t 55) (.t 56)⟩, []), (12, ⟨(some 58), none, .pick (.t 54) (.t 57) (.c (.bool false))⟩, []), (13, ⟨(some 59), none, .mv (.t 58)⟩, []), (14, ⟨(some 60), (some (59, true)), .mv (.t 10)⟩, []), (15, ⟨(some 61), (some (59, true)), .mv (.t 12)⟩, []), (16, ⟨(some 62), (some (59, true)), .ic .eql (.t 60) (.t 61)⟩, []), (17, ⟨(some 63), none, .pick (.t 59) (.t 62) (.c (.bool false))⟩, []), (18, ⟨(some 64), none, .mv (.t 63)⟩, []), (19, ⟨(some 65), (some (64, true)), .ld 7 true (.t 2)⟩, []), (20, ⟨(some 66), (some (64, true)), .mv (.t 1)⟩, []), (22, ⟨(some 68), (some (64, true)), .ld 7 true (.t 2)⟩, [22]), (23, ⟨(some 69), (some (64, true)), .mv (.t 1)⟩, []), (21, ⟨(some 67), (some (64, true)), .call 10 [(.t 65), (.t 66)]⟩, [22]), (24, ⟨(some 70), (some (64, true)), .call 11 [(.t 68), (.t 69)]⟩, []), (25, ⟨(some 71), (some (64, true)), .bc .eql (.t 67) (.t 70)⟩, []), (26, ⟨(some 72), none, .pick (.t 64) (.t 71) (.c (.bool false))⟩, []), (27, ⟨(some 73), none, .mv (.t 72)⟩, []), (28, ⟨(some 74), (some (73, true)), .ld 7 true (.t 2)⟩, []), (29, ⟨(some 75), (some (73, true)), .mv (.t 1)⟩, []), (31, ⟨(some 77), (some (73, true)), .ld 7 true (.t 2)⟩, [31]), (32, ⟨(some 78), (some (73, true)), .mv (.t 1)⟩, []), (30, ⟨(some 76), (some (73, true)), .call 12 [(.t 74), (.t 75)]⟩, [31]), (33, ⟨(some 79), (some (73, true)), .call 13 [(.t 77), (.t 78)]⟩, []), (34, ⟨(some 80), (some (73, true)), .sc .eql (.t 76) (.t 79)⟩, []), (35, ⟨(some 81), none, .pick (.t 73) (.t 80) (.c (.bool false))⟩, []), (36, ⟨(some 82), none, .mv (.t 81)⟩, []), (37, ⟨(some 83), (some (82, true)), .call 5 []⟩, []), (38, ⟨(some 84), none, .pick (.t 82) (.t 83) (.c (.bool false))⟩, []), (39, ⟨(some 4), none, .mv (.t 84)⟩, [])] := ⟨⟨[0, 1, 2, 3, 4, 5, 6, 7, 8, 9, 10, 11, 12, 13, 14, 15, 16, 17, 18, 19, 20, 22, 23, 21, 24, 25, 26, 27, 28, 29, 31, 32, 30, 33, 34, 35, 36, 37, 38, 39], rfl, by kernel_rfl, by kernel_rfl⟩, by kernel_rfl⟩
def cc3 : CC :=
  .seq (.reg false [⟨(some 2), none, .bx 27 (.t 0)⟩, ⟨(some 4), none, .mv (.c (.bool false))⟩])
  (.seq (.seq (.reg false [⟨(some 13), none, .ld 7 true (.t 2)⟩, ⟨(some 14), none, .call 4 [(.t 13)]⟩, ⟨(some 15), none, .no (.t 14)⟩, ⟨(some 16), none, .mv (.t 15)⟩, ⟨(some 17), (some (16, false)), .mv (.t 1)⟩, ⟨(some 18), (some (16, false)), .ln true (.t 17)⟩, ⟨(some 19), (some (16, false)), .ic .gtr (.t 18) (.c (.int .i64 200))⟩, ⟨(some 20), none, .pick (.t 16) (.c (.bool true)) (.t 19)⟩])
  (.cond (.t 20)
   (.seq (.reg false [⟨(some 21), none, .call 5 []⟩, ⟨(some 4), none, .mv (.t 21)⟩])
   (.ret))
   (.skip)))
  (.seq (.reg false [⟨(some 23), none, .ld 7 true (.t 2)⟩, ⟨(some 24), none, .mv (.t 1)⟩, ⟨(some 25), none, .call 6 [(.t 23), (.t 24)]⟩, ⟨(some 22), none, .mv (.t 25)⟩, ⟨(some 26), none, .ex (.t 22) 0⟩, ⟨(some 27), none, .ex (.t 22) 1⟩, ⟨(some 5), none, .mv (.t 26)⟩, ⟨(some 6), none, .mv (.t 27)⟩])
  (.seq (.reg false [⟨(some 29), none, .ld 7 true (.t 2)⟩, ⟨(some 30), none, .mv (.t 1)⟩, ⟨(some 31), none, .call 7 [(.t 29), (.t 30)]⟩, ⟨(some 28), none, .mv (.t 31)⟩, ⟨(some 32), none, .ex (.t 28) 0⟩, ⟨(some 33), none, .ex (.t 28) 1⟩, ⟨(some 7), none, .mv (.t 32)⟩, ⟨(some 8), none, .mv (.t 33)⟩])
  (.seq (.reg false [⟨(some 35), none, .ld 7 true (.t 2)⟩, ⟨(some 36), none, .mv (.t 1)⟩, ⟨(some 37), none, .call 8 [(.t 35), (.t 36)]⟩, ⟨(some 34), none, .mv (.t 37)⟩, ⟨(some 38), none, .ex (.t 34) 0⟩, ⟨(some 39), none, .ex (.t 34) 1⟩, ⟨(some 9), none, .mv (.t 38)⟩, ⟨(some 10), none, .mv (.t 39)⟩])
  (.seq (.reg false [⟨(some 41), none, .ld 7 true (.t 2)⟩, ⟨(some 42), none, .mv (.t 1)⟩, ⟨(some 43), none, .call 9 [(.t 41), (.t 42)]⟩, ⟨(some 40), none, .mv (.t 43)⟩, ⟨(some 44), none, .ex (.t 40) 0⟩, ⟨(some 45), none, .ex (.t 40) 1⟩, ⟨(some 11), none, .mv (.t 44)⟩, ⟨(some 12), none, .mv (.t 45)⟩])
  (.seq (.dreg dl3_0 dp3_0)
  (.ret)))))))
theorem comp3 : comp tt esc3 (Tryd.f3.body.getD .skip) = cc3 := by kernel_rfl
theorem has3 : Has Tryd.prog 3 := ⟨_, Tryd.func3, by kernel_rfl, by decide⟩
theorem enter3 (a0 a1 : AV) {M : Mem} {R : AEnd → Mem → Prop} (h : CWp none Tryd.prog tt esc3 cc3 (Am.Fin Tryd.prog Tryd.f3 R) { tmps := (.v a0 :: .v a1 :: .junk :: .junk :: .junk :: .junk :: .junk :: .junk :: .junk :: .junk :: .junk :: .junk :: .junk :: .junk :: .junk :: .junk :: .junk :: .junk :: .junk :: .junk :: .junk :: .junk :: .junk :: .junk :: .junk :: .junk :: .junk :: .junk :: .junk :: .junk :: .junk :: .junk :: .junk :: .junk :: .junk :: .junk :: .junk :: .junk :: .junk :: .junk :: .junk :: .junk :: .junk :: .junk :: .junk :: .junk :: .junk :: .junk :: .junk :: .junk :: .junk :: .junk :: .junk :: .junk :: .junk :: .junk :: .junk :: .junk :: .junk :: .junk :: .junk :: .junk :: .junk :: .junk :: .junk :: .junk :: .junk :: .junk :: .junk :: .junk :: .junk :: .junk :: .junk :: .junk :: .junk :: .junk :: .junk :: .junk :: .junk :: .junk :: .junk :: .junk :: .junk :: .junk :: .junk :: []), loc := [], rows := [], defs := [], M := M }) : ACalls Tryd.prog 3 [a0, a1] M R := ACalls.of 83 cc3 Tryd.func3 (by kernel_rfl) rfl comp3 h

def lp4_0 (x1 x10 x11 x12 : TV) : List TV := (.junk :: x1 :: .junk :: .junk :: .junk :: .junk :: .junk :: .junk :: .junk :: .junk :: x10 :: x11 :: x12 :: .junk :: .junk :: .junk :: .junk :: .junk :: .junk :: .junk :: .junk :: .junk :: .junk :: .junk :: .junk :: .junk :: .junk :: .junk :: .junk :: .junk :: .junk :: .junk :: .junk :: .junk :: .junk :: .junk :: .junk :: .junk :: .junk :: .junk :: .junk :: .junk :: .junk :: .junk :: .junk :: .junk :: .junk :: .junk :: .junk :: .junk :: .junk :: .junk :: .junk :: .junk :: .junk :: .junk :: .junk :: .junk :: .junk :: .junk :: .junk :: .junk :: .junk :: .junk :: .junk :: .junk :: .junk :: .junk :: .junk :: .junk :: .junk :: .junk :: .junk :: .junk :: .junk :: .junk :: .junk :: .junk :: .junk :: .junk :: .junk :: .junk :: .junk :: .junk :: .junk :: .junk :: .junk :: .junk :: [])

def lp4_1 (x1 x4 x10 x11 x12 x33 x34 x35 : TV) : List TV := (.junk :: x1 :: .junk :: .junk :: x4 :: .junk :: .junk :: .junk :: .junk :: .junk :: x10 :: x11 :: x12 :: .junk :: .junk :: .junk :: .junk :: .junk :: .junk :: .junk :: .junk :: .junk :: .junk :: .junk :: .junk :: .junk :: .junk :: .junk :: .junk :: .junk :: .junk :: .junk :: .junk :: x33 :: x34 :: x35 :: .junk :: .junk :: .junk :: .junk :: .junk :: .junk :: .junk :: .junk :: .junk :: .junk :: .junk :: .junk :: .junk :: .junk :: .junk :: .junk :: .junk :: .junk :: .junk :: .junk :: .junk :: .junk :: .junk :: .junk :: .junk :: .junk :: .junk :: .junk :: .junk :: .junk :: .junk :: .junk :: .junk :: .junk :: .junk :: .junk :: .junk :: .junk :: .junk :: .junk :: .junk :: .junk :: .junk :: .junk :: .junk :: .junk :: .junk :: .junk :: .junk :: .junk :: .junk :: .junk :: [])

def lp4_2 (x1 x10 x11 x12 x45 x46 x47 : TV) : List TV := (.junk :: x1 :: .junk :: .junk :: .junk :: .junk :: .junk :: .junk :: .junk :: .junk :: x10 :: x11 :: x12 :: .junk :: .junk :: .junk :: .junk :: .junk :: .junk :: .junk :: .junk :: .junk :: .junk :: .junk :: .junk :: .junk :: .junk :: .junk :: .junk :: .junk :: .junk :: .junk :: .junk :: .junk :: .junk :: .junk :: .junk :: .junk :: .junk :: .junk :: .junk :: .junk :: .junk :: .junk :: .junk :: x45 :: x46 :: x47 :: .junk :: .junk :: .junk :: .junk :: .junk :: .junk :: .junk :: .junk :: .junk :: .junk :: .junk :: .junk :: .junk :: .junk :: .junk :: .junk :: .junk :: .junk :: .junk :: .junk :: .junk :: .junk :: .junk :: .junk :: .junk :: .junk :: .junk :: .junk :: .junk :: .junk :: .junk :: .junk :: .junk :: .junk :: .junk :: .junk :: .junk :: .junk :: .junk :: .junk :: [])

/-- euclid/euclidlaw27.Few (1 parameters, 0 captured, 88 slots) -/
def esc4 : List Nat := []
def cc4_l1 : CC :=
  .seq (.reg false [⟨(some 36), none, .ic .lss (.t 35) (.t 34)⟩])
       (.seq (.cond (.t 36)
        (.skip)
        (.exit 2))
       (.seq (.block 3 (.seq (.reg false [⟨(some 37), none, .ia 6 (.t 33) (.t 35)⟩, ⟨(some 38), none, .ld 6 true (.t 37)⟩, ⟨(some 6), none, .al 48 [(.str []), (.int .i64 0), (.int .i64 0), (.str []), (.sl .full 2 []), (.sl .full 5 [])]⟩, ⟨none, none, .sto 6 (.t 6) (.t 38)⟩])
        (.seq (.reg false [⟨(some 39), none, .fa 0 (.t 6)⟩, ⟨(some 40), none, .ld 1 false (.t 39)⟩, ⟨(some 41), none, .ln true (.t 40)⟩, ⟨(some 42), none, .ic .gtr (.t 41) (.c (.int .i64 100))⟩])
        (.cond (.t 42)
         (.seq (.reg false [⟨(some 2), none, .mv (.c (.bool false))⟩])
         (.ret))
         (.skip)))))
       (.reg false [⟨(some 43), none, .ar .add (.t 35) (.c (.int .i64 1))⟩, ⟨(some 35), none, .mv (.t 43)⟩])))
def cc4_l2 : CC :=
  .seq (.reg false [⟨(some 48), none, .ic .lss (.t 47) (.t 46)⟩])
       (.seq (.cond (.t 48)
        (.skip)
        (.exit 4))
       (.seq (.block 5 (.seq (.reg false [⟨(some 49), none, .ia 15 (.t 45) (.t 47)⟩, ⟨(some 50), none, .ld 15 true (.t 49)⟩, ⟨(some 8), none, .al 53 [(.str []), (.int .i64 0), (.int .i64 0), (.str []), (.sl .full 2 []), (.sl .full 5 []), (.int .i64 0), (.int .i64 0), (.int .i64 0), (.int .i64 0), (.str []), (.sl .full 2 []), (.sl .full 5 []), (.int .i64 0), (.sl .full 10 [])]⟩, ⟨none, none, .sto 15 (.t 8) (.t 50)⟩])
        (.seq (.reg false [⟨(some 51), none, .fa 0 (.t 8)⟩, ⟨(some 52), none, .ld 1 false (.t 51)⟩, ⟨(some 53), none, .ln true (.t 52)⟩, ⟨(some 54), none, .ic .gtr (.t 53) (.c (.int .i64 100))⟩])
        (.cond (.t 54)
         (.seq (.reg false [⟨(some 2), none, .mv (.c (.bool false))⟩])
         (.ret))
         (.skip)))))
       (.reg false [⟨(some 55), none, .ar .add (.t 47) (.c (.int .i64 1))⟩, ⟨(some 47), none, .mv (.t 55)⟩])))
def cc4_l0 : CC :=
  .seq (.reg false [⟨(some 13), none, .ic .lss (.t 12) (.t 11)⟩])
    (.seq (.cond (.t 13)
     (.skip)
     (.exit 0))
    (.seq (.block 1 (.seq (.reg false [⟨(some 14), none, .ia 23 (.t 10) (.t 12)⟩, ⟨(some 15), none, .ld 23 true (.t 14)⟩, ⟨(some 4), none, .al 46 [(.int .i64 0), (.str []), (.int .i64 0), (.int .i64 0), (.int .i64 0), (.str []), (.sl .full 2 []), (.sl .full 5 []), (.int .i64 0), (.int .i64 0), (.str []), (.sl .full 2 []), (.sl .full 5 []), (.int .i64 0), (.sl .full 6 []), (.int .i64 0), (.int .i64 0), (.int .i64 0), (.str []), (.sl .full 2 []), (.sl .full 5 []), (.sl .full 5 []), (.sl .full 15 [])]⟩, ⟨none, none, .sto 23 (.t 4) (.t 15)⟩])
     (.seq (.seq (.reg false [⟨(some 16), none, .fa 1 (.t 4)⟩, ⟨(some 17), none, .ld 1 false (.t 16)⟩, ⟨(some 18), none, .ln true (.t 17)⟩, ⟨(some 19), none, .ic .gtr (.t 18) (.c (.int .i64 100))⟩, ⟨(some 20), none, .mv (.t 19)⟩, ⟨(some 21), (some (20, false)), .fa 14 (.t 4)⟩, ⟨(some 22), (some (20, false)), .ld 1 false (.t 21)⟩, ⟨(some 23), (some (20, false)), .ln false (.t 22)⟩, ⟨(some 24), (some (20, false)), .ic .gtr (.t 23) (.c (.int .i64 8))⟩, ⟨(some 25), none, .pick (.t 20) (.c (.bool true)) (.t 24)⟩, ⟨(some 26), none, .mv (.t 25)⟩, ⟨(some 27), (some (26, false)), .fa 22 (.t 4)⟩, ⟨(some 28), (some (26, false)), .ld 1 false (.t 27)⟩, ⟨(some 29), (some (26, false)), .ln false (.t 28)⟩, ⟨(some 30), (some (26, false)), .ic .gtr (.t 29) (.c (.int .i64 8))⟩, ⟨(some 31), none, .pick (.t 26) (.c (.bool true)) (.t 30)⟩])
     (.cond (.t 31)
      (.seq (.reg false [⟨(some 2), none, .mv (.c (.bool false))⟩])
      (.ret))
      (.skip)))
     (.seq (.seq (.reg false [⟨(some 32), none, .fa 14 (.t 4)⟩, ⟨(some 33), none, .ld 1 false (.t 32)⟩, ⟨(some 34), none, .ln false (.t 33)⟩, ⟨(some 35), none, .mv (.c (.int .i64 0))⟩])
     (.block 2 (.loop (cc4_l1))))
     (.seq (.reg false [⟨(some 44), none, .fa 22 (.t 4)⟩, ⟨(some 45), none, .ld 1 false (.t 44)⟩, ⟨(some 46), none, .ln false (.t 45)⟩, ⟨(some 47), none, .mv (.c (.int .i64 0))⟩])
     (.block 4 (.loop (cc4_l2))))))))
    (.reg false [⟨(some 56), none, .ar .add (.t 12) (.c (.int .i64 1))⟩, ⟨(some 12), none, .mv (.t 56)⟩])))
def cc4 : CC :=
  .seq (.reg false [⟨(some 1), none, .bx 27 (.t 0)⟩, ⟨(some 2), none, .mv (.c (.bool false))⟩])
  (.seq (.seq (.reg false [⟨(some 9), none, .fa 0 (.t 1)⟩, ⟨(some 10), none, .ld 1 false (.t 9)⟩, ⟨(some 11), none, .ln false (.t 10)⟩, ⟨(some 12), none, .mv (.c (.int .i64 0))⟩])
  (.block 0 (.loop (cc4_l0))))
  (.seq (.reg false [⟨(some 57), none, .fa 0 (.t 1)⟩, ⟨(some 58), none, .ld 1 false (.t 57)⟩, ⟨(some 59), none, .ln false (.t 58)⟩, ⟨(some 60), none, .ic .leq (.t 59) (.c (.int .i64 30))⟩, ⟨(some 61), none, .mv (.t 60)⟩, ⟨(some 62), (some (61, true)), .fa 5 (.t 1)⟩, ⟨(some 63), (some (61, true)), .ld 1 false (.t 62)⟩, ⟨(some 64), (some (61, true)), .call 14 [(.t 63)]⟩, ⟨(some 65), none, .pick (.t 61) (.t 64) (.c (.bool false))⟩, ⟨(some 66), none, .mv (.t 65)⟩, ⟨(some 67), (some (66, true)), .fa 6 (.t 1)⟩, ⟨(some 68), (some (66, true)), .ld 1 false (.t 67)⟩, ⟨(some 69), (some (66, true)), .ln false (.t 68)⟩, ⟨(some 70), (some (66, true)), .ic .leq (.t 69) (.c (.int .i64 101))⟩, ⟨(some 71), none, .pick (.t 66) (.t 70) (.c (.bool false))⟩, ⟨(some 72), none, .mv (.t 71)⟩, ⟨(some 73), (some (72, true)), .fa 6 (.t 1)⟩, ⟨(some 74), (some (72, true)), .ld 1 false (.t 73)⟩, ⟨(some 75), (some (72, true)), .call 15 [(.t 74), (.f 16)]⟩, ⟨(some 76), (some (72, true)), .no (.t 75)⟩, ⟨(some 77), none, .pick (.t 72) (.t 76) (.c (.bool false))⟩, ⟨(some 78), none, .mv (.t 77)⟩, ⟨(some 79), (some (78, true)), .fa 2 (.t 1)⟩, ⟨(some 80), (some (78, true)), .ld 1 false (.t 79)⟩, ⟨(some 81), (some (78, true)), .call 14 [(.t 80)]⟩, ⟨(some 82), none, .pick (.t 78) (.t 81) (.c (.bool false))⟩, ⟨(some 83), none, .mv (.t 82)⟩, ⟨(some 84), (some (83, true)), .fa 3 (.t 1)⟩, ⟨(some 85), (some (83, true)), .ld 1 false (.t 84)⟩, ⟨(some 86), (some (83, true)), .call 14 [(.t 85)]⟩, ⟨(some 87), none, .pick (.t 83) (.t 86) (.c (.bool false))⟩, ⟨(some 2), none, .mv (.t 87)⟩])
  (.ret)))
theorem comp4 : comp tt esc4 (Tryd.f4.body.getD .skip) = cc4 := by kernel_rfl
theorem has4 : Has Tryd.prog 4 := ⟨_, Tryd.func4, by kernel_rfl, by decide⟩
theorem enter4 (a0 : AV) {M : Mem} {R : AEnd → Mem → Prop} (h : CWp none Tryd.prog tt esc4 cc4 (Am.Fin Tryd.prog Tryd.f4 R) { tmps := (.v a0 :: .junk :: .junk :: .junk :: .junk :: .junk :: .junk :: .junk :: .junk :: .junk :: .junk :: .junk :: .junk :: .junk :: .junk :: .junk :: .junk :: .junk :: .junk :: .junk :: .junk :: .junk :: .junk :: .junk :: .junk :: .junk :: .junk :: .junk :: .junk :: .junk :: .junk :: .junk :: .junk :: .junk :: .junk :: .junk :: .junk :: .junk :: .junk :: .junk :: .junk :: .junk :: .junk :: .junk :: .junk :: .junk :: .junk :: .junk :: .junk :: .junk :: .junk :: .junk :: .junk :: .junk :: .junk :: .junk :: .junk :: .junk :: .junk :: .junk :: .junk :: .junk :: .junk :: .junk :: .junk :: .junk :: .junk :: .junk :: .junk :: .junk :: .junk :: .junk :: .junk :: .junk :: .junk :: .junk :: .junk :: .junk :: .junk :: .junk :: .junk :: .junk :: .junk :: .junk :: .junk :: .junk :: .junk :: .junk :: []), loc := [], rows := [], defs := [], M := M }) : ACalls Tryd.prog 4 [a0] M R := ACalls.of 87 cc4 Tryd.func4 (by kernel_rfl) rfl comp4 h

/-- euclid/euclidlaw27.awake (0 parameters, 0 captured, 115 slots) -/
def esc5 : List Nat := [1]
def cc5 : CC :=
  .seq (.reg false [⟨(some 0), none, .mv (.c (.bool false))⟩])
  (.seq (.reg false [⟨(some 17), none, .bs 9 1 [(.c (.str [97, 46, 120])), (.c (.str [97, 46, 98, 46, 120])), (.c (.str [99, 46, 120])), (.c (.str [100, 46, 121])), (.c (.str [120]))]⟩, ⟨(some 18), none, .call 17 [(.t 17)]⟩, ⟨(some 1), none, .alS 27 [(.sl .full 23 []), (.sl .full 2 []), (.sl .full 1 []), (.sl .full 1 []), (.sl .full 4 []), (.sl .full 1 []), (.sl .full 1 [])]⟩, ⟨none, none, .sto 7 (.t 1) (.t 18)⟩])
  (.seq (.reg false [⟨(some 19), none, .mf (.func 18) [] [(.t 1)]⟩, ⟨(some 2), none, .mv (.t 19)⟩])
  (.seq (.reg false [⟨(some 21), none, .mv (.t 2)⟩, ⟨(some 22), none, .bs 9 1 [(.c (.str [97])), (.c (.str [98]))]⟩, ⟨(some 23), none, .callv (.t 21) [(.t 22), (.c (.sl .full 1 []))]⟩, ⟨(some 24), none, .call 6 [(.t 23), (.c (.str [120]))]⟩, ⟨(some 20), none, .mv (.t 24)⟩, ⟨(some 25), none, .ex (.t 20) 0⟩, ⟨(some 26), none, .ex (.t 20) 1⟩, ⟨(some 3), none, .mv (.t 25)⟩, ⟨(some 4), none, .mv (.t 26)⟩])
  (.seq (.reg false [⟨(some 28), none, .mv (.t 2)⟩, ⟨(some 29), none, .bs 9 1 [(.c (.str [97]))]⟩, ⟨(some 30), none, .callv (.t 28) [(.t 29), (.c (.sl .full 1 []))]⟩, ⟨(some 31), none, .call 6 [(.t 30), (.c (.str [120]))]⟩, ⟨(some 27), none, .mv (.t 31)⟩, ⟨(some 32), none, .ex (.t 27) 0⟩, ⟨(some 33), none, .ex (.t 27) 1⟩, ⟨(some 5), none, .mv (.t 32)⟩, ⟨(some 6), none, .mv (.t 33)⟩])
  (.seq (.reg false [⟨(some 35), none, .mv (.t 2)⟩, ⟨(some 36), none, .bs 9 1 [(.c (.str [99, 46, 100]))]⟩, ⟨(some 37), none, .callv (.t 35) [(.t 36), (.c (.sl .full 1 []))]⟩, ⟨(some 38), none, .call 6 [(.t 37), (.c (.str [120]))]⟩, ⟨(some 34), none, .mv (.t 38)⟩, ⟨(some 39), none, .ex (.t 34) 0⟩, ⟨(some 40), none, .ex (.t 34) 1⟩, ⟨(some 7), none, .mv (.t 39)⟩, ⟨(some 8), none, .mv (.t 40)⟩])
  (.seq (.reg false [⟨(some 42), none, .mv (.t 2)⟩, ⟨(some 43), none, .bs 9 1 [(.c (.str [99, 46, 100]))]⟩, ⟨(some 44), none, .bs 9 1 [(.c (.str [97]))]⟩, ⟨(some 45), none, .callv (.t 42) [(.t 43), (.t 44)]⟩, ⟨(some 46), none, .call 6 [(.t 45), (.c (.str [120]))]⟩, ⟨(some 41), none, .mv (.t 46)⟩, ⟨(some 47), none, .ex (.t 41) 0⟩, ⟨(some 48), none, .ex (.t 41) 1⟩, ⟨(some 9), none, .mv (.t 47)⟩, ⟨(some 10), none, .mv (.t 48)⟩])
  (.seq (.reg false [⟨(some 50), none, .mv (.t 2)⟩, ⟨(some 51), none, .bs 9 1 [(.c (.str [97])), (.c (.str [99]))]⟩, ⟨(some 52), none, .callv (.t 50) [(.c (.sl .full 1 [])), (.t 51)]⟩, ⟨(some 53), none, .call 6 [(.t 52), (.c (.str [120]))]⟩, ⟨(some 49), none, .mv (.t 53)⟩, ⟨(some 54), none, .ex (.t 49) 0⟩, ⟨(some 55), none, .ex (.t 49) 1⟩, ⟨(some 11), none, .mv (.t 54)⟩, ⟨(some 12), none, .mv (.t 55)⟩])
  (.seq (.reg false [⟨(some 57), none, .mv (.t 2)⟩, ⟨(some 58), none, .bs 9 1 [(.c (.str [97]))]⟩, ⟨(some 59), none, .callv (.t 57) [(.t 58), (.c (.sl .full 1 []))]⟩, ⟨(some 60), none, .call 8 [(.t 59), (.c (.str [97, 46, 98, 46, 120]))]⟩, ⟨(some 56), none, .mv (.t 60)⟩, ⟨(some 61), none, .ex (.t 56) 0⟩, ⟨(some 62), none, .ex (.t 56) 1⟩, ⟨(some 13), none, .mv (.t 61)⟩, ⟨(some 14), none, .mv (.t 62)⟩])
  (.seq (.reg false [⟨(some 64), none, .mv (.t 2)⟩, ⟨(some 65), none, .bs 9 1 [(.c (.str [97]))]⟩, ⟨(some 66), none, .callv (.t 64) [(.t 65), (.c (.sl .full 1 []))]⟩, ⟨(some 67), none, .call 8 [(.t 66), (.c (.str [120]))]⟩, ⟨(some 63), none, .mv (.t 67)⟩, ⟨(some 68), none, .ex (.t 63) 0⟩, ⟨(some 69), none, .ex (.t 63) 1⟩, ⟨(some 15), none, .mv (.t 68)⟩, ⟨(some 16), none, .mv (.t 69)⟩])
  (.seq (.reg false (⟨(some 70), none, .mv (.t 4)⟩ :: ⟨(some 71), none, .mv (.t 6)⟩ :: ⟨(some 72), none, .ar .add (.t 70) (.t 71)⟩ :: ⟨(some 73), none, .mv (.t 8)⟩ :: ⟨(some 74), none, .ar .add (.t 72) (.t 73)⟩ :: ⟨(some 75), none, .mv (.t 10)⟩ :: ⟨(some 76), none, .ar .add (.t 74) (.t 75)⟩ :: ⟨(some 77), none, .mv (.t 14)⟩ :: ⟨(some 78), none, .ar .add (.t 76) (.t 77)⟩ :: ⟨(some 79), none, .ic .eql (.t 78) (.c (.int .i64 0))⟩ :: ⟨(some 80), none, .mv (.t 79)⟩ :: ⟨(some 81), (some (80, true)), .mv (.t 3)⟩ :: ⟨(some 82), (some (80, true)), .sc .eql (.t 81) (.c (.str [97, 46, 98, 46, 120]))⟩ :: ⟨(some 83), none, .pick (.t 80) (.t 82) (.c (.bool false))⟩ :: ⟨(some 84), none, .mv (.t 83)⟩ :: ⟨(some 85), (some (84, true)), .mv (.t 5)⟩ :: ⟨(some 86), (some (84, true)), .sc .eql (.t 85) (.c (.str [97, 46, 120]))⟩ :: ⟨(some 87), none, .pick (.t 84) (.t 86) (.c (.bool false))⟩ :: ⟨(some 88), none, .mv (.t 87)⟩ :: ⟨(some 89), (some (88, true)), .mv (.t 7)⟩ :: ⟨(some 90), (some (88, true)), .sc .eql (.t 89) (.c (.str [120]))⟩ :: ⟨(some 91), none, .pick (.t 88) (.t 90) (.c (.bool false))⟩ :: ⟨(some 92), none, .mv (.t 91)⟩ :: ⟨(some 93), (some (92, true)), .mv (.t 9)⟩ :: ⟨(some 94), (some (92, true)), .sc .eql (.t 93) (.c (.str [97, 46, 120]))⟩ :: ⟨(some 95), none, .pick (.t 92) (.t 94) (.c (.bool false))⟩ :: ⟨(some 96), none, .mv (.t 95)⟩ :: ⟨(some 97), (some (96, true)), .mv (.t 12)⟩ :: ⟨(some 98), (some (96, true)), .ic .eql (.t 97) (.c (.int .i64 8))⟩ :: ⟨(some 99), none, .pick (.t 96) (.t 98) (.c (.bool false))⟩ :: ⟨(some 100), none, .mv (.t 99)⟩ :: ⟨(some 101), (some (100, true)), .mv (.t 13)⟩ :: ⟨(some 102), (some (100, true)), .sc .eql (.t 101) (.c (.str [98, 46, 120]))⟩ :: ⟨(some 103), none, .pick (.t 100) (.t 102) (.c (.bool false))⟩ :: ⟨(some 104), none, .mv (.t 103)⟩ :: ⟨(some 105), (some (104, true)), .mv (.t 16)⟩ :: ⟨(some 106), (some (104, true)), .ic .eql (.t 105) (.c (.int .i64 24))⟩ :: ⟨(some 107), none, .pick (.t 104) (.t 106) (.c (.bool false))⟩ :: ⟨(some 108), none, .mv (.t 107)⟩ :: ⟨(some 109), (some (108, true)), .mv (.t 2)⟩ :: ⟨(some 110), (some (108, true)), .bs 9 1 [(.c (.str [97])), (.c (.str [98]))]⟩ :: ⟨(some 111), (some (108, true)), .callv (.t 109) [(.t 110), (.c (.sl .full 1 []))]⟩ :: ⟨(some 112), (some (108, true)), .call 12 [(.t 111), (.c (.str [122]))]⟩ :: ⟨(some 113), (some (108, true)), .sc .eql (.t 112) (.c (.str [97, 46, 98, 46, 122]))⟩ :: ⟨(some 114), none, .pick (.t 108) (.t 113) (.c (.bool false))⟩ :: ⟨(some 0), none, .mv (.t 114)⟩ :: []))
  (.ret)))))))))))
theorem comp5 : comp tt esc5 (Tryd.f5.body.getD .skip) = cc5 := by kernel_rfl
theorem has5 : Has Tryd.prog 5 := ⟨_, Tryd.func5, by kernel_rfl, by decide⟩
theorem enter5 {M : Mem} {R : AEnd → Mem → Prop} (h : CWp none Tryd.prog tt esc5 cc5 (Am.Fin Tryd.prog Tryd.f5 R) { tmps := (.junk :: .junk :: .junk :: .junk :: .junk :: .junk :: .junk :: .junk :: .junk :: .junk :: .junk :: .junk :: .junk :: .junk :: .junk :: .junk :: .junk :: .junk :: .junk :: .junk :: .junk :: .junk :: .junk :: .junk :: .junk :: .junk :: .junk :: .junk :: .junk :: .junk :: .junk :: .junk :: .junk :: .junk :: .junk :: .junk :: .junk :: .junk :: .junk :: .junk :: .junk :: .junk :: .junk :: .junk :: .junk :: .junk :: .junk :: .junk :: .junk :: .junk :: .junk :: .junk :: .junk :: .junk :: .junk :: .junk :: .junk :: .junk :: .junk :: .junk :: .junk :: .junk :: .junk :: .junk :: .junk :: .junk :: .junk :: .junk :: .junk :: .junk :: .junk :: .junk :: .junk :: .junk :: .junk :: .junk :: .junk :: .junk :: .junk :: .junk :: .junk :: .junk :: .junk :: .junk :: .junk :: .junk :: .junk :: .junk :: .junk :: .junk :: .junk :: .junk :: .junk :: .junk :: .junk :: .junk :: .junk :: .junk :: .junk :: .junk :: .junk :: .junk :: .junk :: .junk :: .junk :: .junk :: .junk :: .junk :: .junk :: .junk :: .junk :: .junk :: .junk :: .junk :: .junk :: []), loc := [], rows := [], defs := [], M := M }) : ACalls Tryd.prog 5 [] M R := ACalls.of 115 cc5 Tryd.func5 (by kernel_rfl) rfl comp5 h

/-- euclid/scope.Resolve (2 parameters, 0 captured, 41 slots) -/
def esc6 : List Nat := [2, 3, 4, 5]
def cc6_a0 : CC :=
  .reg false [⟨(some 6), none, .mv (.t 14)⟩]
def cc6_b0 : CC :=
  .block 1 (.seq (.reg false [⟨(some 15), none, .mv (.t 6)⟩, ⟨(some 16), none, .ld 1 false (.t 3)⟩, ⟨(some 17), none, .call 21 [(.t 15), (.t 16)]⟩, ⟨(some 7), none, .mv (.t 17)⟩])
     (.seq (.reg false [⟨(some 18), none, .ld 7 true (.t 2)⟩, ⟨(some 19), none, .mv (.t 7)⟩, ⟨(some 20), none, .call 10 [(.t 18), (.t 19)]⟩])
     (.cond (.t 20)
      (.seq (.reg false [⟨(some 21), none, .mv (.t 7)⟩, ⟨none, none, .sto 1 (.t 4) (.t 21)⟩, ⟨none, none, .sto 1 (.t 5) (.c (.int .i64 0))⟩])
      (.ret))
      (.skip))))
def cc6 : CC :=
  .seq (.reg false [⟨(some 2), none, .bxS 27 (.t 0)⟩, ⟨(some 3), none, .bxS 9 (.t 1)⟩, ⟨(some 4), none, .alS 9 [(.str [])]⟩, ⟨(some 5), none, .alS 30 [(.int .i64 0)]⟩])
  (.seq (.seq (.reg false [⟨(some 9), none, .ld 1 false (.t 3)⟩, ⟨(some 10), none, .call 19 [(.t 9)]⟩, ⟨(some 11), none, .no (.t 10)⟩])
  (.cond (.t 11)
   (.seq (.reg false [⟨none, none, .sto 1 (.t 4) (.c (.str []))⟩, ⟨none, none, .sto 1 (.t 5) (.c (.int .i64 29))⟩])
   (.ret))
   (.skip)))
  (.seq (.seq (.reg false [⟨(some 12), none, .ld 7 true (.t 2)⟩, ⟨(some 13), none, .call 20 [(.t 12)]⟩])
  (.block 0 (.rangeF (.t 13) #[14] (cc6_a0) (cc6_b0))))
  (.seq (.seq (.reg false [⟨(some 22), none, .ld 7 true (.t 2)⟩, ⟨(some 23), none, .ld 1 false (.t 3)⟩, ⟨(some 24), none, .call 22 [(.t 22), (.t 23)]⟩, ⟨(some 8), none, .mv (.t 24)⟩])
  (.block 2 (.seq (.reg false [⟨(some 26), none, .mv (.t 8)⟩, ⟨(some 27), none, .ln false (.t 26)⟩, ⟨(some 28), none, .ic .gtr (.t 27) (.c (.int .i64 1))⟩, ⟨(some 25), none, .mv (.t 28)⟩])
   (.cond (.t 25)
    (.seq (.reg false [⟨none, none, .sto 1 (.t 4) (.c (.str []))⟩, ⟨none, none, .sto 1 (.t 5) (.c (.int .i64 8))⟩])
    (.ret))
    (.seq (.reg false [⟨(some 30), none, .mv (.t 8)⟩, ⟨(some 31), none, .ln false (.t 30)⟩, ⟨(some 32), none, .ic .eql (.t 31) (.c (.int .i64 1))⟩, ⟨(some 29), none, .mv (.t 32)⟩])
    (.cond (.t 29)
     (.seq (.reg false [⟨(some 33), none, .mv (.t 8)⟩, ⟨(some 34), none, .ia 1 (.t 33) (.c (.int .i64 0))⟩, ⟨(some 35), none, .ld 1 false (.t 34)⟩, ⟨none, none, .sto 1 (.t 4) (.t 35)⟩, ⟨none, none, .sto 1 (.t 5) (.c (.int .i64 0))⟩])
     (.ret))
     (.seq (.reg false [⟨(some 37), none, .ld 7 true (.t 2)⟩, ⟨(some 38), none, .ld 1 false (.t 3)⟩, ⟨(some 39), none, .call 10 [(.t 37), (.t 38)]⟩, ⟨(some 36), none, .mv (.t 39)⟩])
     (.cond (.t 36)
      (.seq (.reg false [⟨(some 40), none, .ld 1 false (.t 3)⟩, ⟨none, none, .sto 1 (.t 4) (.t 40)⟩, ⟨none, none, .sto 1 (.t 5) (.c (.int .i64 0))⟩])
      (.ret))
      (.skip)))))))))
  (.seq (.reg false [⟨none, none, .sto 1 (.t 4) (.c (.str []))⟩, ⟨none, none, .sto 1 (.t 5) (.c (.int .i64 9))⟩])
  (.ret)))))
theorem comp6 : comp tt esc6 (Tryd.f6.body.getD .skip) = cc6 := by kernel_rfl
theorem has6 : Has Tryd.prog 6 := ⟨_, Tryd.func6, by kernel_rfl, by decide⟩
theorem enter6 (a0 a1 : AV) {M : Mem} {R : AEnd → Mem → Prop} (h : CWp none Tryd.prog tt esc6 cc6 (Am.FinM Tryd.prog Tryd.f6 R) { tmps := (.v a0 :: .v a1 :: .junk :: .junk :: .junk :: .junk :: .junk :: .junk :: .junk :: .junk :: .junk :: .junk :: .junk :: .junk :: .junk :: .junk :: .junk :: .junk :: .junk :: .junk :: .junk :: .junk :: .junk :: .junk :: .junk :: .junk :: .junk :: .junk :: .junk :: .junk :: .junk :: .junk :: .junk :: .junk :: .junk :: .junk :: .junk :: .junk :: .junk :: .junk :: .junk :: []), loc := [], rows := [], defs := [], M := M }) : ACalls Tryd.prog 6 [a0, a1] M R := ACalls.ofM 39 cc6 Tryd.func6 (by kernel_rfl) rfl comp6 h

def lp7_0 (x1 x2 x6 : TV) : List TV := (.junk :: x1 :: x2 :: .junk :: .junk :: .junk :: x6 :: .junk :: .junk :: .junk :: .junk :: .junk :: .junk :: .junk :: .junk :: .junk :: .junk :: .junk :: .junk :: .junk :: .junk :: .junk :: .junk :: .junk :: .junk :: .junk :: .junk :: .junk :: .junk :: .junk :: .junk :: .junk :: .junk :: .junk :: .junk :: .junk :: .junk :: .junk :: .junk :: .junk :: .junk :: .junk :: .junk :: .junk :: .junk :: .junk :: .junk :: .junk :: .junk :: .junk :: .junk :: .junk :: .junk :: .junk :: .junk :: .junk :: .junk :: .junk :: .junk :: .junk :: .junk :: .junk :: .junk :: .junk :: [])

def lp7_1 (x1 x2 x8 x9 : TV) : List TV := (.junk :: x1 :: x2 :: .junk :: .junk :: .junk :: .junk :: .junk :: x8 :: x9 :: .junk :: .junk :: .junk :: .junk :: .junk :: .junk :: .junk :: .junk :: .junk :: .junk :: .junk :: .junk :: .junk :: .junk :: .junk :: .junk :: .junk :: .junk :: .junk :: .junk :: .junk :: .junk :: .junk :: .junk :: .junk :: .junk :: .junk :: .junk :: .junk :: .junk :: .junk :: .junk :: .junk :: .junk :: .junk :: .junk :: .junk :: .junk :: .junk :: .junk :: .junk :: .junk :: .junk :: .junk :: .junk :: .junk :: .junk :: .junk :: .junk :: .junk :: .junk :: .junk :: .junk :: .junk :: [])

/-- euclid/euclidref27.Resolve (2 parameters, 0 captured, 64 slots) -/
def esc7 : List Nat := []
def cc7_l0 : CC :=
  .seq (.seq (.reg false [⟨(some 17), none, .mv (.t 6)⟩, ⟨(some 18), none, .ic .gtr (.t 17) (.c (.int .i64 0))⟩])
    (.cond (.t 18)
     (.skip)
     (.exit 0)))
    (.seq (.block 1 (.seq (.reg false [⟨(some 21), none, .fa 5 (.t 2)⟩, ⟨(some 22), none, .ld 1 false (.t 21)⟩, ⟨(some 23), none, .mv (.t 6)⟩, ⟨(some 24), none, .mv (.t 1)⟩, ⟨(some 25), none, .call 24 [(.t 22), (.t 23), (.t 24)]⟩, ⟨(some 7), none, .mv (.t 25)⟩])
     (.seq (.reg false [⟨(some 26), none, .ld 7 true (.t 2)⟩, ⟨(some 27), none, .mv (.t 7)⟩, ⟨(some 28), none, .call 11 [(.t 26), (.t 27)]⟩])
     (.cond (.t 28)
      (.seq (.reg false [⟨(some 29), none, .mv (.t 7)⟩, ⟨(some 4), none, .mv (.t 29)⟩, ⟨(some 5), none, .mv (.c (.int .i64 0))⟩])
      (.ret))
      (.skip)))))
    (.reg false [⟨(some 19), none, .mv (.t 6)⟩, ⟨(some 20), none, .ar .sub (.t 19) (.c (.int .i64 1))⟩, ⟨(some 6), none, .mv (.t 20)⟩]))
def cc7_l1 : CC :=
  .seq (.seq (.reg false [⟨(some 30), none, .mv (.t 9)⟩, ⟨(some 31), none, .fa 6 (.t 2)⟩, ⟨(some 32), none, .ld 1 false (.t 31)⟩, ⟨(some 33), none, .ln false (.t 32)⟩, ⟨(some 34), none, .ic .lss (.t 30) (.t 33)⟩])
    (.cond (.t 34)
     (.skip)
     (.exit 2)))
    (.seq (.block 3 (.seq (.reg false [⟨(some 37), none, .fa 6 (.t 2)⟩, ⟨(some 38), none, .ld 1 false (.t 37)⟩, ⟨(some 39), none, .mv (.t 9)⟩, ⟨(some 40), none, .ia 1 (.t 38) (.t 39)⟩, ⟨(some 41), none, .ld 1 false (.t 40)⟩, ⟨(some 42), none, .cat (.t 41) (.c (.str [46]))⟩, ⟨(some 43), none, .mv (.t 1)⟩, ⟨(some 44), none, .cat (.t 42) (.t 43)⟩, ⟨(some 10), none, .mv (.t 44)⟩])
     (.seq (.seq (.reg false [⟨(some 45), none, .ld 7 true (.t 2)⟩, ⟨(some 46), none, .mv (.t 10)⟩, ⟨(some 47), none, .call 11 [(.t 45), (.t 46)]⟩, ⟨(some 48), none, .no (.t 47)⟩])
     (.cond (.t 48)
      (.exit 3)
      (.skip)))
     (.seq (.seq (.reg false [⟨(some 49), none, .mv (.t 8)⟩, ⟨(some 50), none, .sc .neq (.t 49) (.c (.str []))⟩, ⟨(some 51), none, .mv (.t 50)⟩, ⟨(some 52), (some (51, true)), .mv (.t 8)⟩, ⟨(some 53), (some (51, true)), .mv (.t 10)⟩, ⟨(some 54), (some (51, true)), .sc .neq (.t 52) (.t 53)⟩, ⟨(some 55), none, .pick (.t 51) (.t 54) (.c (.bool false))⟩])
     (.cond (.t 55)
      (.seq (.reg false [⟨(some 4), none, .mv (.c (.str []))⟩, ⟨(some 5), none, .mv (.c (.int .i64 8))⟩])
      (.ret))
      (.skip)))
     (.reg false [⟨(some 56), none, .mv (.t 10)⟩, ⟨(some 8), none, .mv (.t 56)⟩])))))
    (.reg false [⟨(some 35), none, .mv (.t 9)⟩, ⟨(some 36), none, .ar .add (.t 35) (.c (.int .i64 1))⟩, ⟨(some 9), none, .mv (.t 36)⟩]))
def cc7 : CC :=
  .seq (.reg false [⟨(some 2), none, .bx 27 (.t 0)⟩, ⟨(some 4), none, .mv (.c (.str []))⟩, ⟨(some 5), none, .mv (.c (.int .i64 0))⟩])
  (.seq (.seq (.reg false [⟨(some 11), none, .mv (.t 1)⟩, ⟨(some 12), none, .call 23 [(.t 11)]⟩, ⟨(some 13), none, .no (.t 12)⟩])
  (.cond (.t 13)
   (.seq (.reg false [⟨(some 4), none, .mv (.c (.str []))⟩, ⟨(some 5), none, .mv (.c (.int .i64 29))⟩])
   (.ret))
   (.skip)))
  (.seq (.seq (.reg false [⟨(some 14), none, .fa 5 (.t 2)⟩, ⟨(some 15), none, .ld 1 false (.t 14)⟩, ⟨(some 16), none, .ln false (.t 15)⟩, ⟨(some 6), none, .mv (.t 16)⟩])
  (.block 0 (.loop (cc7_l0))))
  (.seq (.reg false [⟨(some 8), none, .mv (.c (.str []))⟩])
  (.seq (.seq (.reg false [⟨(some 9), none, .mv (.c (.int .i64 0))⟩])
  (.block 2 (.loop (cc7_l1))))
  (.seq (.seq (.reg false [⟨(some 57), none, .mv (.t 8)⟩, ⟨(some 58), none, .sc .neq (.t 57) (.c (.str []))⟩])
  (.cond (.t 58)
   (.seq (.reg false [⟨(some 59), none, .mv (.t 8)⟩, ⟨(some 4), none, .mv (.t 59)⟩, ⟨(some 5), none, .mv (.c (.int .i64 0))⟩])
   (.ret))
   (.skip)))
  (.seq (.seq (.reg false [⟨(some 60), none, .ld 7 true (.t 2)⟩, ⟨(some 61), none, .mv (.t 1)⟩, ⟨(some 62), none, .call 11 [(.t 60), (.t 61)]⟩])
  (.cond (.t 62)
   (.seq (.reg false [⟨(some 63), none, .mv (.t 1)⟩, ⟨(some 4), none, .mv (.t 63)⟩, ⟨(some 5), none, .mv (.c (.int .i64 0))⟩])
   (.ret))
   (.skip)))
  (.seq (.reg false [⟨(some 4), none, .mv (.c (.str []))⟩, ⟨(some 5), none, .mv (.c (.int .i64 9))⟩])
  (.ret))))))))
theorem comp7 : comp tt esc7 (Tryd.f7.body.getD .skip) = cc7 := by kernel_rfl
theorem has7 : Has Tryd.prog 7 := ⟨_, Tryd.func7, by kernel_rfl, by decide⟩
theorem enter7 (a0 a1 : AV) {M : Mem} {R : AEnd → Mem → Prop} (h : CWp none Tryd.prog tt esc7 cc7 (Am.Fin Tryd.prog Tryd.f7 R) { tmps := (.v a0 :: .v a1 :: .junk :: .junk :: .junk :: .junk :: .junk :: .junk :: .junk :: .junk :: .junk :: .junk :: .junk :: .junk :: .junk :: .junk :: .junk :: .junk :: .junk :: .junk :: .junk :: .junk :: .junk :: .junk :: .junk :: .junk :: .junk :: .junk :: .junk :: .junk :: .junk :: .junk :: .junk :: .junk :: .junk :: .junk :: .junk :: .junk :: .junk :: .junk :: .junk :: .junk :: .junk :: .junk :: .junk :: .junk :: .junk :: .junk :: .junk :: .junk :: .junk :: .junk :: .junk :: .junk :: .junk :: .junk :: .junk :: .junk :: .junk :: .junk :: .junk :: .junk :: .junk :: .junk :: []), loc := [], rows := [], defs := [], M := M }) : ACalls Tryd.prog 7 [a0, a1] M R := ACalls.of 62 cc7 Tryd.func7 (by kernel_rfl) rfl comp7 h

/-- euclid/scope.Shortest (2 parameters, 0 captured, 31 slots) -/
def esc8 : List Nat := [2, 3, 4, 5]
def cc8_a0 : CC :=
  .reg false [⟨(some 6), none, .mv (.t 16)⟩]
def cc8_b0 : CC :=
  .block 1 (.seq (.reg false [⟨(some 18), none, .ld 7 true (.t 2)⟩, ⟨(some 19), none, .mv (.t 6)⟩, ⟨(some 20), none, .call 6 [(.t 18), (.t 19)]⟩, ⟨(some 17), none, .mv (.t 20)⟩, ⟨(some 21), none, .ex (.t 17) 0⟩, ⟨(some 22), none, .ex (.t 17) 1⟩, ⟨(some 7), none, .mv (.t 21)⟩, ⟨(some 8), none, .mv (.t 22)⟩])
     (.seq (.reg false [⟨(some 23), none, .mv (.t 8)⟩, ⟨(some 24), none, .ic .eql (.t 23) (.c (.int .i64 0))⟩, ⟨(some 25), none, .mv (.t 24)⟩, ⟨(some 26), (some (25, true)), .mv (.t 7)⟩, ⟨(some 27), (some (25, true)), .ld 1 false (.t 3)⟩, ⟨(some 28), (some (25, true)), .sc .eql (.t 26) (.t 27)⟩, ⟨(some 29), none, .pick (.t 25) (.t 28) (.c (.bool false))⟩])
     (.cond (.t 29)
      (.seq (.reg false [⟨(some 30), none, .mv (.t 6)⟩, ⟨none, none, .sto 1 (.t 4) (.t 30)⟩, ⟨none, none, .sto 1 (.t 5) (.c (.int .i64 0))⟩])
      (.ret))
      (.skip))))
def cc8 : CC :=
  .seq (.reg false [⟨(some 2), none, .bxS 27 (.t 0)⟩, ⟨(some 3), none, .bxS 9 (.t 1)⟩, ⟨(some 4), none, .alS 9 [(.str [])]⟩, ⟨(some 5), none, .alS 30 [(.int .i64 0)]⟩])
  (.seq (.seq (.reg false [⟨(some 9), none, .ld 7 true (.t 2)⟩, ⟨(some 10), none, .ld 1 false (.t 3)⟩, ⟨(some 11), none, .call 10 [(.t 9), (.t 10)]⟩, ⟨(some 12), none, .no (.t 11)⟩])
  (.cond (.t 12)
   (.seq (.reg false [⟨none, none, .sto 1 (.t 4) (.c (.str []))⟩, ⟨none, none, .sto 1 (.t 5) (.c (.int .i64 9))⟩])
   (.ret))
   (.skip)))
  (.seq (.seq (.reg false [⟨(some 13), none, .ld 1 false (.t 3)⟩, ⟨(some 14), none, .call 25 [(.t 13), (.c (.str [46]))]⟩, ⟨(some 15), none, .mf (.func 26) [(.t 14)] []⟩])
  (.block 0 (.rangeF (.t 15) #[16] (cc8_a0) (cc8_b0))))
  (.seq (.reg false [⟨none, none, .sto 1 (.t 4) (.c (.str []))⟩, ⟨none, none, .sto 1 (.t 5) (.c (.int .i64 24))⟩])
  (.ret))))
theorem comp8 : comp tt esc8 (Tryd.f8.body.getD .skip) = cc8 := by kernel_rfl
theorem has8 : Has Tryd.prog 8 := ⟨_, Tryd.func8, by kernel_rfl, by decide⟩
theorem enter8 (a0 a1 : AV) {M : Mem} {R : AEnd → Mem → Prop} (h : CWp none Tryd.prog tt esc8 cc8 (Am.FinM Tryd.prog Tryd.f8 R) { tmps := [.v a0, .v a1, .junk, .junk, .junk, .junk, .junk, .junk, .junk, .junk, .junk, .junk, .junk, .junk, .junk, .junk, .junk, .junk, .junk, .junk, .junk, .junk, .junk, .junk, .junk, .junk, .junk, .junk, .junk, .junk, .junk], loc := [], rows := [], defs := [], M := M }) : ACalls Tryd.prog 8 [a0, a1] M R := ACalls.ofM 29 cc8 Tryd.func8 (by kernel_rfl) rfl comp8 h

def lp9_0 (x1 x2 x6 : TV) : List TV := (.junk :: x1 :: x2 :: .junk :: .junk :: .junk :: x6 :: .junk :: .junk :: .junk :: .junk :: .junk :: .junk :: .junk :: .junk :: .junk :: .junk :: .junk :: .junk :: .junk :: .junk :: .junk :: .junk :: .junk :: .junk :: .junk :: .junk :: .junk :: .junk :: .junk :: .junk :: .junk :: .junk :: .junk :: .junk :: .junk :: .junk :: .junk :: .junk :: .junk :: .junk :: .junk :: .junk :: .junk :: .junk :: .junk :: .junk :: [])

/-- euclid/euclidref27.Shortest (2 parameters, 0 captured, 47 slots) -/
def esc9 : List Nat := []
def dl9_0 : List COp := [⟨(some 30), none, .ld 7 true (.t 2)⟩, ⟨(some 31), none, .mv (.t 1)⟩, ⟨(some 32), none, .mv (.t 6)⟩, ⟨(some 33), none, .ss (.t 31) (some (.t 32)) none⟩, ⟨(some 34), none, .call 7 [(.t 30), (.t 33)]⟩, ⟨(some 29), none, .mv (.t 34)⟩, ⟨(some 35), none, .ex (.t 29) 0⟩, ⟨(some 36), none, .ex (.t 29) 1⟩, ⟨(some 7), none, .mv (.t 35)⟩, ⟨(some 8), none, .mv (.t 36)⟩]
def dp9_0 : List (List Nat) := [[], [], [], [1, 2], [0, 3], [4], [5], [5], [6, 4, 0, 1, 2, 3, 4, 5, 6], [7, 8, 0, 1, 2, 3, 4, 5, 6, 7, 8]]
def dk9_0 : List (List Nat) := [[], [], [], [], [], [], [], [], [], []]
theorem dr9_0 : DrawOk dl9_0 dp9_0 dk9_0 [(0, ⟨(some 30), none, .ld 7 true (.t 2)⟩, []), (1, ⟨(some 31), none, .mv (.t 1)⟩, []), (2, ⟨(some 32), none, .mv (.t 6)⟩, []), (3, ⟨(some 33), none, .ss (.t 31) (some (.t 32)) none⟩, []), (4, ⟨(some 34), none, .call 7 [(.t 30), (.t 33)]⟩, []), (5, ⟨(some 29), none, .mv (.t 34)⟩, []), (6, ⟨(some 35), none, .ex (.t 29) 0⟩, []), (7, ⟨(some 36), none, .ex (.t 29) 1⟩, []), (8, ⟨(some 7), none, .mv (.t 35)⟩, []), (9, ⟨(some 8), none, .mv (.t 36)⟩, [])] := ⟨⟨[0, 1, 2, 3, 4, 5, 6, 7, 8, 9], rfl, by kernel_rfl, by kernel_rfl⟩, by kernel_rfl⟩
def cc9_l0 : CC :=
  .seq (.seq (.reg false [⟨(some 16), none, .mv (.t 6)⟩, ⟨(some 17), none, .ic .geq (.t 16) (.c (.int .i64 0))⟩])
    (.cond (.t 17)
     (.skip)
     (.exit 0)))
    (.seq (.block 1 (.seq (.seq (.reg false [⟨(some 20), none, .mv (.t 6)⟩, ⟨(some 21), none, .ic .gtr (.t 20) (.c (.int .i64 0))⟩, ⟨(some 22), none, .mv (.t 21)⟩, ⟨(some 23), (some (22, true)), .mv (.t 1)⟩, ⟨(some 24), (some (22, true)), .mv (.t 6)⟩, ⟨(some 25), (some (22, true)), .ar .sub (.t 24) (.c (.int .i64 1))⟩, ⟨(some 26), (some (22, true)), .si (.t 23) (.t 25)⟩, ⟨(some 27), (some (22, true)), .ic .neq (.t 26) (.c (.int .u8 46))⟩, ⟨(some 28), none, .pick (.t 22) (.t 27) (.c (.bool false))⟩])
     (.cond (.t 28)
      (.exit 1)
      (.skip)))
     (.seq (.dreg dl9_0 dp9_0)
     (.seq (.reg false [⟨(some 37), none, .mv (.t 8)⟩, ⟨(some 38), none, .ic .eql (.t 37) (.c (.int .i64 0))⟩, ⟨(some 39), none, .mv (.t 38)⟩, ⟨(some 40), (some (39, true)), .mv (.t 7)⟩, ⟨(some 41), (some (39, true)), .mv (.t 1)⟩, ⟨(some 42), (some (39, true)), .sc .eql (.t 40) (.t 41)⟩, ⟨(some 43), none, .pick (.t 39) (.t 42) (.c (.bool false))⟩])
     (.cond (.t 43)
      (.seq (.reg false [⟨(some 44), none, .mv (.t 1)⟩, ⟨(some 45), none, .mv (.t 6)⟩, ⟨(some 46), none, .ss (.t 44) (some (.t 45)) none⟩, ⟨(some 4), none, .mv (.t 46)⟩, ⟨(some 5), none, .mv (.c (.int .i64 0))⟩])
      (.ret))
      (.skip))))))
    (.reg false [⟨(some 18), none, .mv (.t 6)⟩, ⟨(some 19), none, .ar .sub (.t 18) (.c (.int .i64 1))⟩, ⟨(some 6), none, .mv (.t 19)⟩]))
def cc9 : CC :=
  .seq (.reg false [⟨(some 2), none, .bx 27 (.t 0)⟩, ⟨(some 4), none, .mv (.c (.str []))⟩, ⟨(some 5), none, .mv (.c (.int .i64 0))⟩])
  (.seq (.seq (.reg false [⟨(some 9), none, .ld 7 true (.t 2)⟩, ⟨(some 10), none, .mv (.t 1)⟩, ⟨(some 11), none, .call 11 [(.t 9), (.t 10)]⟩, ⟨(some 12), none, .no (.t 11)⟩])
  (.cond (.t 12)
   (.seq (.reg false [⟨(some 4), none, .mv (.c (.str []))⟩, ⟨(some 5), none, .mv (.c (.int .i64 9))⟩])
   (.ret))
   (.skip)))
  (.seq (.seq (.reg false [⟨(some 13), none, .mv (.t 1)⟩, ⟨(some 14), none, .ln true (.t 13)⟩, ⟨(some 15), none, .ar .sub (.t 14) (.c (.int .i64 1))⟩, ⟨(some 6), none, .mv (.t 15)⟩])
  (.block 0 (.loop (cc9_l0))))
  (.seq (.reg false [⟨(some 4), none, .mv (.c (.str []))⟩, ⟨(some 5), none, .mv (.c (.int .i64 24))⟩])
  (.ret))))
theorem comp9 : comp tt esc9 (Tryd.f9.body.getD .skip) = cc9 := by kernel_rfl
theorem has9 : Has Tryd.prog 9 := ⟨_, Tryd.func9, by kernel_rfl, by decide⟩
theorem enter9 (a0 a1 : AV) {M : Mem} {R : AEnd → Mem → Prop} (h : CWp none Tryd.prog tt esc9 cc9 (Am.Fin Tryd.prog Tryd.f9 R) { tmps := (.v a0 :: .v a1 :: .junk :: .junk :: .junk :: .junk :: .junk :: .junk :: .junk :: .junk :: .junk :: .junk :: .junk :: .junk :: .junk :: .junk :: .junk :: .junk :: .junk :: .junk :: .junk :: .junk :: .junk :: .junk :: .junk :: .junk :: .junk :: .junk :: .junk :: .junk :: .junk :: .junk :: .junk :: .junk :: .junk :: .junk :: .junk :: .junk :: .junk :: .junk :: .junk :: .junk :: .junk :: .junk :: .junk :: .junk :: .junk :: []), loc := [], rows := [], defs := [], M := M }) : ACalls Tryd.prog 9 [a0, a1] M R := ACalls.of 45 cc9 Tryd.func9 (by kernel_rfl) rfl comp9 h

/-- euclid/scope.Declared (2 parameters, 0 captured, 9 slots) -/
def esc10 : List Nat := [3]
def cc10 : CC :=
  .seq (.reg false [⟨(some 2), none, .bx 27 (.t 0)⟩, ⟨(some 3), none, .bxS 9 (.t 1)⟩, ⟨(some 4), none, .mv (.c (.bool false))⟩])
  (.seq (.reg false [⟨(some 5), none, .fa 0 (.t 2)⟩, ⟨(some 6), none, .ld 1 false (.t 5)⟩, ⟨(some 7), none, .mf (.func 28) [] [(.t 3)]⟩, ⟨(some 8), none, .call 27 [(.t 6), (.t 7)]⟩, ⟨(some 4), none, .mv (.t 8)⟩])
  (.ret))
theorem comp10 : comp tt esc10 (Tryd.f10.body.getD .skip) = cc10 := by kernel_rfl
theorem has10 : Has Tryd.prog 10 := ⟨_, Tryd.func10, by kernel_rfl, by decide⟩
theorem enter10 (a0 a1 : AV) {M : Mem} {R : AEnd → Mem → Prop} (h : CWp none Tryd.prog tt esc10 cc10 (Am.Fin Tryd.prog Tryd.f10 R) { tmps := [.v a0, .v a1, .junk, .junk, .junk, .junk, .junk, .junk, .junk], loc := [], rows := [], defs := [], M := M }) : ACalls Tryd.prog 10 [a0, a1] M R := ACalls.of 7 cc10 Tryd.func10 (by kernel_rfl) rfl comp10 h

def lp11_0 (x1 x2 x5 : TV) : List TV := [.junk, x1, x2, .junk, .junk, x5, .junk, .junk, .junk, .junk, .junk, .junk, .junk, .junk, .junk, .junk, .junk, .junk, .junk, .junk]

/-- euclid/euclidref27.Declared (2 parameters, 0 captured, 20 slots) -/
def esc11 : List Nat := []
def cc11_l0 : CC :=
  .seq (.seq (.reg false [⟨(some 6), none, .mv (.t 5)⟩, ⟨(some 7), none, .fa 0 (.t 2)⟩, ⟨(some 8), none, .ld 1 false (.t 7)⟩, ⟨(some 9), none, .ln false (.t 8)⟩, ⟨(some 10), none, .ic .lss (.t 6) (.t 9)⟩])
    (.cond (.t 10)
     (.skip)
     (.exit 0)))
    (.seq (.block 1 (.seq (.reg false [⟨(some 13), none, .fa 0 (.t 2)⟩, ⟨(some 14), none, .ld 1 false (.t 13)⟩, ⟨(some 15), none, .mv (.t 5)⟩, ⟨(some 16), none, .ia 23 (.t 14) (.t 15)⟩, ⟨(some 17), none, .ld 23 true (.t 16)⟩, ⟨(some 18), none, .mv (.t 1)⟩, ⟨(some 19), none, .call 31 [(.t 17), (.t 18)]⟩])
     (.cond (.t 19)
      (.seq (.reg false [⟨(some 4), none, .mv (.c (.bool true))⟩])
      (.ret))
      (.skip))))
    (.reg false [⟨(some 11), none, .mv (.t 5)⟩, ⟨(some 12), none, .ar .add (.t 11) (.c (.int .i64 1))⟩, ⟨(some 5), none, .mv (.t 12)⟩]))
def cc11 : CC :=
  .seq (.reg false [⟨(some 2), none, .bx 27 (.t 0)⟩, ⟨(some 4), none, .mv (.c (.bool false))⟩])
  (.seq (.seq (.reg false [⟨(some 5), none, .mv (.c (.int .i64 0))⟩])
  (.block 0 (.loop (cc11_l0))))
  (.seq (.reg false [⟨(some 4), none, .mv (.c (.bool false))⟩])
  (.ret)))
theorem comp11 : comp tt esc11 (Tryd.f11.body.getD .skip) = cc11 := by kernel_rfl
theorem has11 : Has Tryd.prog 11 := ⟨_, Tryd.func11, by kernel_rfl, by decide⟩
theorem enter11 (a0 a1 : AV) {M : Mem} {R : AEnd → Mem → Prop} (h : CWp none Tryd.prog tt esc11 cc11 (Am.Fin Tryd.prog Tryd.f11 R) { tmps := [.v a0, .v a1, .junk, .junk, .junk, .junk, .junk, .junk, .junk, .junk, .junk, .junk, .junk, .junk, .junk, .junk, .junk, .junk, .junk, .junk], loc := [], rows := [], defs := [], M := M }) : ACalls Tryd.prog 11 [a0, a1] M R := ACalls.of 18 cc11 Tryd.func11 (by kernel_rfl) rfl comp11 h

/-- euclid/scope.Qualify (2 parameters, 0 captured, 9 slots) -/
def esc12 : List Nat := []
def cc12 : CC :=
  .seq (.reg false [⟨(some 2), none, .bx 27 (.t 0)⟩, ⟨(some 4), none, .mv (.c (.str []))⟩])
  (.seq (.reg false [⟨(some 5), none, .fa 5 (.t 2)⟩, ⟨(some 6), none, .ld 1 false (.t 5)⟩, ⟨(some 7), none, .mv (.t 1)⟩, ⟨(some 8), none, .call 21 [(.t 6), (.t 7)]⟩, ⟨(some 4), none, .mv (.t 8)⟩])
  (.ret))
theorem comp12 : comp tt esc12 (Tryd.f12.body.getD .skip) = cc12 := by kernel_rfl
theorem has12 : Has Tryd.prog 12 := ⟨_, Tryd.func12, by kernel_rfl, by decide⟩
theorem enter12 (a0 a1 : AV) {M : Mem} {R : AEnd → Mem → Prop} (h : CWp none Tryd.prog tt esc12 cc12 (Am.Fin Tryd.prog Tryd.f12 R) { tmps := [.v a0, .v a1, .junk, .junk, .junk, .junk, .junk, .junk, .junk], loc := [], rows := [], defs := [], M := M }) : ACalls Tryd.prog 12 [a0, a1] M R := ACalls.of 7 cc12 Tryd.func12 (by kernel_rfl) rfl comp12 h

/-- euclid/euclidref27.Qualify (2 parameters, 0 captured, 12 slots) -/
def esc13 : List Nat := []
def cc13 : CC :=
  .seq (.reg false [⟨(some 2), none, .bx 27 (.t 0)⟩, ⟨(some 4), none, .mv (.c (.str []))⟩])
  (.seq (.reg false [⟨(some 5), none, .fa 5 (.t 2)⟩, ⟨(some 6), none, .ld 1 false (.t 5)⟩, ⟨(some 7), none, .fa 5 (.t 2)⟩, ⟨(some 8), none, .ld 1 false (.t 7)⟩, ⟨(some 9), none, .ln false (.t 8)⟩, ⟨(some 10), none, .mv (.t 1)⟩, ⟨(some 11), none, .call 24 [(.t 6), (.t 9), (.t 10)]⟩, ⟨(some 4), none, .mv (.t 11)⟩])
  (.ret))
theorem comp13 : comp tt esc13 (Tryd.f13.body.getD .skip) = cc13 := by kernel_rfl
theorem has13 : Has Tryd.prog 13 := ⟨_, Tryd.func13, by kernel_rfl, by decide⟩
theorem enter13 (a0 a1 : AV) {M : Mem} {R : AEnd → Mem → Prop} (h : CWp none Tryd.prog tt esc13 cc13 (Am.Fin Tryd.prog Tryd.f13 R) { tmps := [.v a0, .v a1, .junk, .junk, .junk, .junk, .junk, .junk, .junk, .junk, .junk, .junk], loc := [], rows := [], defs := [], M := M }) : ACalls Tryd.prog 13 [a0, a1] M R := ACalls.of 10 cc13 Tryd.func13 (by kernel_rfl) rfl comp13 h

/-- euclid/euclidlaw27.short (1 parameters, 0 captured, 11 slots) -/
def esc14 : List Nat := []
def cc14 : CC :=
  .seq (.reg false [⟨(some 2), none, .mv (.c (.bool false))⟩])
  (.seq (.reg false [⟨(some 3), none, .mv (.t 0)⟩, ⟨(some 4), none, .ln false (.t 3)⟩, ⟨(some 5), none, .ic .leq (.t 4) (.c (.int .i64 20))⟩, ⟨(some 6), none, .mv (.t 5)⟩, ⟨(some 7), (some (6, true)), .mv (.t 0)⟩, ⟨(some 8), (some (6, true)), .call 15 [(.t 7), (.f 32)]⟩, ⟨(some 9), (some (6, true)), .no (.t 8)⟩, ⟨(some 10), none, .pick (.t 6) (.t 9) (.c (.bool false))⟩, ⟨(some 2), none, .mv (.t 10)⟩])
  (.ret))
theorem comp14 : comp tt esc14 (Tryd.f14.body.getD .skip) = cc14 := by kernel_rfl
theorem has14 : Has Tryd.prog 14 := ⟨_, Tryd.func14, by kernel_rfl, by decide⟩
theorem enter14 (a0 : AV) {M : Mem} {R : AEnd → Mem → Prop} (h : CWp none Tryd.prog tt esc14 cc14 (Am.Fin Tryd.prog Tryd.f14 R) { tmps := [.v a0, .junk, .junk, .junk, .junk, .junk, .junk, .junk, .junk, .junk, .junk], loc := [], rows := [], defs := [], M := M }) : ACalls Tryd.prog 14 [a0] M R := ACalls.of 10 cc14 Tryd.func14 (by kernel_rfl) rfl comp14 h

/-- slices.ContainsFunc[[]string,string] (2 parameters, 0 captured, 9 slots) -/
def esc15 : List Nat := []
def cc15 : CC :=
  .seq (.reg false [⟨(some 4), none, .mv (.c (.bool false))⟩])
  (.seq (.reg false [⟨(some 5), none, .mv (.t 0)⟩, ⟨(some 6), none, .mv (.t 1)⟩, ⟨(some 7), none, .call 33 [(.t 5), (.t 6)]⟩, ⟨(some 8), none, .ic .geq (.t 7) (.c (.int .i64 0))⟩, ⟨(some 4), none, .mv (.t 8)⟩])
  (.ret))
theorem comp15 : comp tt esc15 (Tryd.f15.body.getD .skip) = cc15 := by kernel_rfl
theorem has15 : Has Tryd.prog 15 := ⟨_, Tryd.func15, by kernel_rfl, by decide⟩
theorem enter15 (a0 a1 : AV) {M : Mem} {R : AEnd → Mem → Prop} (h : CWp none Tryd.prog tt esc15 cc15 (Am.Fin Tryd.prog Tryd.f15 R) { tmps := [.v a0, .v a1, .junk, .junk, .junk, .junk, .junk, .junk, .junk], loc := [], rows := [], defs := [], M := M }) : ACalls Tryd.prog 15 [a0, a1] M R := ACalls.of 7 cc15 Tryd.func15 (by kernel_rfl) rfl comp15 h

/-- euclid/euclidlaw27.Few$1 (1 parameters, 0 captured, 6 slots) -/
def esc16 : List Nat := []
def cc16 : CC :=
  .seq (.reg false [⟨(some 2), none, .mv (.c (.bool false))⟩])
  (.seq (.reg false [⟨(some 3), none, .mv (.t 0)⟩, ⟨(some 4), none, .ln true (.t 3)⟩, ⟨(some 5), none, .ic .gtr (.t 4) (.c (.int .i64 100))⟩, ⟨(some 2), none, .mv (.t 5)⟩])
  (.ret))
theorem comp16 : comp tt esc16 (Tryd.f16.body.getD .skip) = cc16 := by kernel_rfl
theorem has16 : Has Tryd.prog 16 := ⟨_, Tryd.func16, by kernel_rfl, by decide⟩
theorem enter16 (a0 : AV) {M : Mem} {R : AEnd → Mem → Prop} (h : CWp none Tryd.prog tt esc16 cc16 (Am.Fin Tryd.prog Tryd.f16 R) { tmps := [.v a0, .junk, .junk, .junk, .junk, .junk], loc := [], rows := [], defs := [], M := M }) : ACalls Tryd.prog 16 [a0] M R := ACalls.of 5 cc16 Tryd.func16 (by kernel_rfl) rfl comp16 h

def lp17_0 (x2 x3 x6 x7 x8 : TV) : List TV := [.junk, .junk, x2, x3, .junk, .junk, x6, x7, x8, .junk, .junk, .junk, .junk, .junk, .junk, .junk, .junk, .junk, .junk, .junk, .junk]

/-- euclid/euclidlaw27.state (1 parameters, 0 captured, 21 slots) -/
def esc17 : List Nat := [3]
def cc17_l0 : CC :=
  .seq (.reg false [⟨(some 9), none, .ic .lss (.t 8) (.t 7)⟩])
    (.seq (.cond (.t 9)
     (.skip)
     (.exit 0))
    (.seq (.block 1 (.seq (.reg false [⟨(some 10), none, .ia 1 (.t 6) (.t 8)⟩, ⟨(some 11), none, .ld 1 false (.t 10)⟩, ⟨(some 5), none, .mv (.t 11)⟩])
     (.reg false [⟨(some 12), none, .fa 0 (.t 3)⟩, ⟨(some 13), none, .ld 1 false (.t 12)⟩, ⟨(some 14), none, .mv (.t 5)⟩, ⟨(some 15), none, .bd [(.int .i64 0), (.str []), (.int .i64 0), (.int .i64 0), (.int .i64 0), (.str []), (.sl .full 2 []), (.sl .full 5 []), (.int .i64 0), (.int .i64 0), (.str []), (.sl .full 2 []), (.sl .full 5 []), (.int .i64 0), (.sl .full 6 []), (.int .i64 0), (.int .i64 0), (.int .i64 0), (.str []), (.sl .full 2 []), (.sl .full 5 []), (.sl .full 5 []), (.sl .full 15 [])] [(1, 1, (.t 14))]⟩, ⟨(some 16), none, .bs 46 23 [(.t 15)]⟩, ⟨(some 17), none, .app 46 23 360 (.t 13) (.t 16)⟩, ⟨(some 18), none, .fa 0 (.t 3)⟩, ⟨none, none, .sto 1 (.t 18) (.t 17)⟩])))
    (.reg false [⟨(some 19), none, .ar .add (.t 8) (.c (.int .i64 1))⟩, ⟨(some 8), none, .mv (.t 19)⟩])))
def cc17 : CC :=
  .seq (.reg false [⟨(some 2), none, .al 27 [(.sl .full 23 []), (.sl .full 2 []), (.sl .full 1 []), (.sl .full 1 []), (.sl .full 4 []), (.sl .full 1 []), (.sl .full 1 [])]⟩])
  (.seq (.reg false [⟨(some 3), none, .alS 27 [(.sl .full 23 []), (.sl .full 2 []), (.sl .full 1 []), (.sl .full 1 []), (.sl .full 4 []), (.sl .full 1 []), (.sl .full 1 [])]⟩])
  (.seq (.seq (.reg false [⟨(some 6), none, .mv (.t 0)⟩, ⟨(some 7), none, .ln false (.t 6)⟩, ⟨(some 8), none, .mv (.c (.int .i64 0))⟩])
  (.block 0 (.loop (cc17_l0))))
  (.seq (.reg false [⟨(some 20), none, .ld 7 true (.t 3)⟩, ⟨none, none, .sto 7 (.t 2) (.t 20)⟩])
  (.ret))))
theorem comp17 : comp tt esc17 (Tryd.f17.body.getD .skip) = cc17 := by kernel_rfl
theorem has17 : Has Tryd.prog 17 := ⟨_, Tryd.func17, by kernel_rfl, by decide⟩
theorem enter17 (a0 : AV) {M : Mem} {R : AEnd → Mem → Prop} (h : CWp none Tryd.prog tt esc17 cc17 (Am.Fin Tryd.prog Tryd.f17 R) { tmps := [.v a0, .junk, .junk, .junk, .junk, .junk, .junk, .junk, .junk, .junk, .junk, .junk, .junk, .junk, .junk, .junk, .junk, .junk, .junk, .junk, .junk], loc := [], rows := [], defs := [], M := M }) : ACalls Tryd.prog 17 [a0] M R := ACalls.of 20 cc17 Tryd.func17 (by kernel_rfl) rfl comp17 h

/-- euclid/euclidlaw27.awake$1 (2 parameters, 1 captured, 13 slots) -/
def esc18 : List Nat := []
def cc18 : CC :=
  .seq (.reg false [⟨(some 5), none, .al 27 [(.sl .full 23 []), (.sl .full 2 []), (.sl .full 1 []), (.sl .full 1 []), (.sl .full 4 []), (.sl .full 1 []), (.sl .full 1 [])]⟩])
  (.seq (.reg false [⟨(some 7), none, .ld 7 true (.t 2)⟩, ⟨(some 6), none, .al 27 [(.sl .full 23 []), (.sl .full 2 []), (.sl .full 1 []), (.sl .full 1 []), (.sl .full 4 []), (.sl .full 1 []), (.sl .full 1 [])]⟩, ⟨none, none, .sto 7 (.t 6) (.t 7)⟩])
  (.seq (.reg false [⟨(some 8), none, .mv (.t 0)⟩, ⟨(some 9), none, .mv (.t 1)⟩, ⟨(some 10), none, .fa 5 (.t 6)⟩, ⟨none, none, .sto 1 (.t 10) (.t 8)⟩, ⟨(some 11), none, .fa 6 (.t 6)⟩, ⟨none, none, .sto 1 (.t 11) (.t 9)⟩])
  (.seq (.reg false [⟨(some 12), none, .ld 7 true (.t 6)⟩, ⟨none, none, .sto 7 (.t 5) (.t 12)⟩])
  (.ret))))
theorem comp18 : comp tt esc18 (Tryd.f18.body.getD .skip) = cc18 := by kernel_rfl
theorem has18 : Has Tryd.prog 18 := ⟨_, Tryd.func18, by kernel_rfl, by decide⟩
theorem enter18 (a0 a1 a2 : AV) {M : Mem} {R : AEnd → Mem → Prop} (h : CWp none Tryd.prog tt esc18 cc18 (Am.Fin Tryd.prog Tryd.f18 R) { tmps := [.v a0, .v a1, .v a2, .junk, .junk, .junk, .junk, .junk, .junk, .junk, .junk, .junk, .junk], loc := [], rows := [], defs := [], M := M }) : ACalls Tryd.prog 18 [a0, a1, a2] M R := ACalls.of 10 cc18 Tryd.func18 (by kernel_rfl) rfl comp18 h

def lp19_0 (x0 x3 x7 x8 : TV) : List TV := [x0, .junk, .junk, x3, .junk, .junk, .junk, x7, x8, .junk, .junk, .junk, .junk, .junk, .junk, .junk, .junk, .junk, .junk, .junk, .junk, .junk, .junk, .junk, .junk, .junk, .junk, .junk, .junk, .junk, .junk, .junk, .junk, .junk, .junk, .junk, .junk, .junk, .junk]

/-- euclid/term.Name (1 parameters, 0 captured, 39 slots) -/
def esc19 : List Nat := []
def cc19_l0 : CC :=
  .seq (.reg false [⟨(some 9), none, .ic .lss (.t 8) (.t 7)⟩])
    (.seq (.cond (.t 9)
     (.skip)
     (.exit 0))
    (.seq (.block 1 (.seq (.reg false [⟨(some 10), none, .mv (.t 8)⟩, ⟨(some 4), none, .mv (.t 10)⟩])
     (.seq (.reg false [⟨(some 11), none, .mv (.t 0)⟩, ⟨(some 12), none, .mv (.t 4)⟩, ⟨(some 13), none, .si (.t 11) (.t 12)⟩, ⟨(some 5), none, .mv (.t 13)⟩])
     (.block 2 (.seq (.reg false [⟨(some 15), none, .mv (.t 5)⟩, ⟨(some 16), none, .call 34 [(.t 15)]⟩, ⟨(some 14), none, .mv (.t 16)⟩])
      (.cond (.t 14)
       (.reg false [⟨(some 3), none, .mv (.c (.bool false))⟩])
       (.seq (.reg false [⟨(some 18), none, .mv (.t 3)⟩, ⟨(some 17), none, .mv (.t 18)⟩])
       (.cond (.t 17)
        (.seq (.reg false [⟨(some 2), none, .mv (.c (.bool false))⟩])
        (.ret))
        (.seq (.reg false [⟨(some 20), none, .mv (.t 5)⟩, ⟨(some 21), none, .ic .eql (.t 20) (.c (.int .u8 46))⟩, ⟨(some 19), none, .mv (.t 21)⟩])
        (.cond (.t 19)
         (.reg false [⟨(some 3), none, .mv (.c (.bool true))⟩])
         (.seq (.reg false [⟨(some 23), none, .mv (.t 5)⟩, ⟨(some 24), none, .ic .lss (.t 23) (.c (.int .u8 48))⟩, ⟨(some 25), none, .mv (.t 24)⟩, ⟨(some 26), (some (25, false)), .mv (.t 5)⟩, ⟨(some 27), (some (25, false)), .ic .gtr (.t 26) (.c (.int .u8 57))⟩, ⟨(some 28), none, .pick (.t 25) (.c (.bool true)) (.t 27)⟩, ⟨(some 22), none, .mv (.t 28)⟩])
         (.cond (.t 22)
          (.seq (.reg false [⟨(some 29), none, .mv (.t 5)⟩, ⟨(some 30), none, .ic .neq (.t 29) (.c (.int .u8 39))⟩])
          (.cond (.t 30)
           (.seq (.reg false [⟨(some 2), none, .mv (.c (.bool false))⟩])
           (.ret))
           (.skip)))
          (.skip)))))))))))))
    (.reg false [⟨(some 31), none, .ar .add (.t 8) (.c (.int .i64 1))⟩, ⟨(some 8), none, .mv (.t 31)⟩])))
def cc19 : CC :=
  .seq (.reg false [⟨(some 2), none, .mv (.c (.bool false))⟩])
  (.seq (.reg false [⟨(some 3), none, .mv (.c (.bool true))⟩])
  (.seq (.seq (.reg false [⟨(some 6), none, .mv (.t 0)⟩, ⟨(some 7), none, .ln true (.t 6)⟩, ⟨(some 8), none, .mv (.c (.int .i64 0))⟩])
  (.block 0 (.loop (cc19_l0))))
  (.seq (.reg false [⟨(some 32), none, .mv (.t 3)⟩, ⟨(some 33), none, .no (.t 32)⟩, ⟨(some 34), none, .mv (.t 33)⟩, ⟨(some 35), (some (34, true)), .mv (.t 0)⟩, ⟨(some 36), (some (34, true)), .ln true (.t 35)⟩, ⟨(some 37), (some (34, true)), .ic .leq (.t 36) (.c (.int .i64 64))⟩, ⟨(some 38), none, .pick (.t 34) (.t 37) (.c (.bool false))⟩, ⟨(some 2), none, .mv (.t 38)⟩])
  (.ret))))
theorem comp19 : comp tt esc19 (Tryd.f19.body.getD .skip) = cc19 := by kernel_rfl
theorem has19 : Has Tryd.prog 19 := ⟨_, Tryd.func19, by kernel_rfl, by decide⟩
theorem enter19 (a0 : AV) {M : Mem} {R : AEnd → Mem → Prop} (h : CWp none Tryd.prog tt esc19 cc19 (Am.Fin Tryd.prog Tryd.f19 R) { tmps := [.v a0, .junk, .junk, .junk, .junk, .junk, .junk, .junk, .junk, .junk, .junk, .junk, .junk, .junk, .junk, .junk, .junk, .junk, .junk, .junk, .junk, .junk, .junk, .junk, .junk, .junk, .junk, .junk, .junk, .junk, .junk, .junk, .junk, .junk, .junk, .junk, .junk, .junk, .junk], loc := [], rows := [], defs := [], M := M }) : ACalls Tryd.prog 19 [a0] M R := ACalls.of 38 cc19 Tryd.func19 (by kernel_rfl) rfl comp19 h

/-- euclid/scope.enclosing (1 parameters, 0 captured, 4 slots) -/
def esc20 : List Nat := [1]
def cc20 : CC :=
  .seq (.reg false [⟨(some 1), none, .bxS 27 (.t 0)⟩, ⟨(some 2), none, .mv (.c .nilfn)⟩])
  (.seq (.reg false [⟨(some 3), none, .mf (.func 35) [] [(.t 1)]⟩, ⟨(some 2), none, .mv (.t 3)⟩])
  (.ret))
theorem comp20 : comp tt esc20 (Tryd.f20.body.getD .skip) = cc20 := by kernel_rfl
theorem has20 : Has Tryd.prog 20 := ⟨_, Tryd.func20, by kernel_rfl, by decide⟩
theorem enter20 (a0 : AV) {M : Mem} {R : AEnd → Mem → Prop} (h : CWp none Tryd.prog tt esc20 cc20 (Am.Fin Tryd.prog Tryd.f20 R) { tmps := [.v a0, .junk, .junk, .junk], loc := [], rows := [], defs := [], M := M }) : ACalls Tryd.prog 20 [a0] M R := ACalls.of 3 cc20 Tryd.func20 (by kernel_rfl) rfl comp20 h

/-- (euclid/scope.path).joined (2 parameters, 0 captured, 11 slots) -/
def esc21 : List Nat := []
def cc21 : CC :=
  .seq (.reg false [⟨(some 4), none, .mv (.c (.str []))⟩])
  (.seq (.reg false [⟨(some 5), none, .mv (.t 0)⟩, ⟨(some 6), none, .call 37 [(.t 5)]⟩, ⟨(some 7), none, .mv (.t 1)⟩, ⟨(some 8), none, .bs 9 1 [(.t 7)]⟩, ⟨(some 9), none, .app 9 1 16 (.t 6) (.t 8)⟩, ⟨(some 10), none, .call 36 [(.t 9), (.c (.str [46]))]⟩, ⟨(some 4), none, .mv (.t 10)⟩])
  (.ret))
theorem comp21 : comp tt esc21 (Tryd.f21.body.getD .skip) = cc21 := by kernel_rfl
theorem has21 : Has Tryd.prog 21 := ⟨_, Tryd.func21, by kernel_rfl, by decide⟩
theorem enter21 (a0 a1 : AV) {M : Mem} {R : AEnd → Mem → Prop} (h : CWp none Tryd.prog tt esc21 cc21 (Am.Fin Tryd.prog Tryd.f21 R) { tmps := [.v a0, .v a1, .junk, .junk, .junk, .junk, .junk, .junk, .junk, .junk, .junk], loc := [], rows := [], defs := [], M := M }) : ACalls Tryd.prog 21 [a0, a1] M R := ACalls.of 9 cc21 Tryd.func21 (by kernel_rfl) rfl comp21 h

def lp22_0 (x1 x2 x5 x10 x11 x12 : TV) : List TV := [.junk, x1, x2, .junk, .junk, x5, .junk, .junk, .junk, .junk, x10, x11, x12, .junk, .junk, .junk, .junk, .junk, .junk, .junk, .junk, .junk, .junk, .junk, .junk, .junk, .junk, .junk, .junk, .junk, .junk, .junk, .junk, .junk, .junk]

/-- euclid/scope.opened (2 parameters, 0 captured, 35 slots) -/
def esc22 : List Nat := []
def cc22_l0 : CC :=
  .seq (.reg false [⟨(some 13), none, .ic .lss (.t 12) (.t 11)⟩])
    (.seq (.cond (.t 13)
     (.skip)
     (.exit 0))
    (.seq (.block 1 (.seq (.reg false [⟨(some 14), none, .ia 1 (.t 10) (.t 12)⟩, ⟨(some 15), none, .ld 1 false (.t 14)⟩, ⟨(some 7), none, .mv (.t 15)⟩])
     (.seq (.reg false [⟨(some 16), none, .mv (.t 7)⟩, ⟨(some 17), none, .bs 9 1 [(.t 16)]⟩, ⟨(some 18), none, .mv (.t 1)⟩, ⟨(some 19), none, .call 21 [(.t 17), (.t 18)]⟩, ⟨(some 8), none, .mv (.t 19)⟩])
     (.seq (.reg false [⟨(some 20), none, .ld 7 true (.t 2)⟩, ⟨(some 21), none, .mv (.t 8)⟩, ⟨(some 22), none, .call 10 [(.t 20), (.t 21)]⟩, ⟨(some 23), none, .mv (.t 22)⟩, ⟨(some 24), (some (23, true)), .mv (.t 5)⟩, ⟨(some 25), (some (23, true)), .mv (.t 8)⟩, ⟨(some 26), (some (23, true)), .call 29 [(.t 24), (.t 25)]⟩, ⟨(some 27), (some (23, true)), .no (.t 26)⟩, ⟨(some 28), none, .pick (.t 23) (.t 27) (.c (.bool false))⟩])
     (.cond (.t 28)
      (.reg false [⟨(some 29), none, .mv (.t 5)⟩, ⟨(some 30), none, .mv (.t 8)⟩, ⟨(some 31), none, .bs 9 1 [(.t 30)]⟩, ⟨(some 32), none, .app 9 1 16 (.t 29) (.t 31)⟩, ⟨(some 5), none, .mv (.t 32)⟩])
      (.skip))))))
    (.reg false [⟨(some 33), none, .ar .add (.t 12) (.c (.int .i64 1))⟩, ⟨(some 12), none, .mv (.t 33)⟩])))
def cc22 : CC :=
  .seq (.reg false [⟨(some 2), none, .bx 27 (.t 0)⟩, ⟨(some 4), none, .mv (.c (.sl .full 1 []))⟩])
  (.seq (.reg false [⟨(some 5), none, .mv (.c (.sl .full 1 []))⟩])
  (.seq (.seq (.reg false [⟨(some 9), none, .fa 6 (.t 2)⟩, ⟨(some 10), none, .ld 1 false (.t 9)⟩, ⟨(some 11), none, .ln false (.t 10)⟩, ⟨(some 12), none, .mv (.c (.int .i64 0))⟩])
  (.block 0 (.loop (cc22_l0))))
  (.seq (.reg false [⟨(some 34), none, .mv (.t 5)⟩, ⟨(some 4), none, .mv (.t 34)⟩])
  (.ret))))
theorem comp22 : comp tt esc22 (Tryd.f22.body.getD .skip) = cc22 := by kernel_rfl
theorem has22 : Has Tryd.prog 22 := ⟨_, Tryd.func22, by kernel_rfl, by decide⟩
theorem enter22 (a0 a1 : AV) {M : Mem} {R : AEnd → Mem → Prop} (h : CWp none Tryd.prog tt esc22 cc22 (Am.Fin Tryd.prog Tryd.f22 R) { tmps := [.v a0, .v a1, .junk, .junk, .junk, .junk, .junk, .junk, .junk, .junk, .junk, .junk, .junk, .junk, .junk, .junk, .junk, .junk, .junk, .junk, .junk, .junk, .junk, .junk, .junk, .junk, .junk, .junk, .junk, .junk, .junk, .junk, .junk, .junk, .junk], loc := [], rows := [], defs := [], M := M }) : ACalls Tryd.prog 22 [a0, a1] M R := ACalls.of 33 cc22 Tryd.func22 (by kernel_rfl) rfl comp22 h

def lp23_0 (x0 x3 x4 : TV) : List TV := (x0 :: .junk :: .junk :: x3 :: x4 :: .junk :: .junk :: .junk :: .junk :: .junk :: .junk :: .junk :: .junk :: .junk :: .junk :: .junk :: .junk :: .junk :: .junk :: .junk :: .junk :: .junk :: .junk :: .junk :: .junk :: .junk :: .junk :: .junk :: .junk :: .junk :: .junk :: .junk :: .junk :: .junk :: .junk :: .junk :: .junk :: .junk :: .junk :: .junk :: .junk :: .junk :: .junk :: .junk :: .junk :: [])

/-- euclid/euclidref03.Name (1 parameters, 0 captured, 45 slots) -/
def esc23 : List Nat := []
def cc23_l0 : CC :=
  .seq (.seq (.reg false [⟨(some 13), none, .mv (.t 4)⟩, ⟨(some 14), none, .mv (.t 0)⟩, ⟨(some 15), none, .ln true (.t 14)⟩, ⟨(some 16), none, .ic .lss (.t 13) (.t 15)⟩])
    (.cond (.t 16)
     (.skip)
     (.exit 0)))
    (.seq (.block 1 (.seq (.reg false [⟨(some 19), none, .mv (.t 0)⟩, ⟨(some 20), none, .mv (.t 4)⟩, ⟨(some 21), none, .si (.t 19) (.t 20)⟩, ⟨(some 5), none, .mv (.t 21)⟩])
     (.seq (.seq (.reg false [⟨(some 22), none, .mv (.t 3)⟩])
     (.cond (.t 22)
      (.seq (.seq (.reg false [⟨(some 23), none, .mv (.t 5)⟩, ⟨(some 24), none, .call 38 [(.t 23)]⟩, ⟨(some 25), none, .no (.t 24)⟩])
      (.cond (.t 25)
       (.seq (.reg false [⟨(some 2), none, .mv (.c (.bool false))⟩])
       (.ret))
       (.skip)))
      (.seq (.reg false [⟨(some 3), none, .mv (.c (.bool false))⟩])
      (.exit 1)))
      (.skip)))
     (.seq (.seq (.reg false [⟨(some 26), none, .mv (.t 5)⟩, ⟨(some 27), none, .ic .eql (.t 26) (.c (.int .u8 46))⟩])
     (.cond (.t 27)
      (.seq (.reg false [⟨(some 3), none, .mv (.c (.bool true))⟩])
      (.exit 1))
      (.skip)))
     (.seq (.reg false [⟨(some 28), none, .mv (.t 5)⟩, ⟨(some 29), none, .call 38 [(.t 28)]⟩, ⟨(some 30), none, .no (.t 29)⟩, ⟨(some 31), none, .mv (.t 30)⟩, ⟨(some 32), (some (31, true)), .mv (.t 5)⟩, ⟨(some 33), (some (31, true)), .ic .neq (.t 32) (.c (.int .u8 39))⟩, ⟨(some 34), none, .pick (.t 31) (.t 33) (.c (.bool false))⟩, ⟨(some 35), none, .mv (.t 34)⟩, ⟨(some 36), (some (35, true)), .mv (.t 5)⟩, ⟨(some 37), (some (35, true)), .ic .lss (.t 36) (.c (.int .u8 48))⟩, ⟨(some 38), (some (35, true)), .mv (.t 37)⟩, ⟨(some 39), (some (38, false)), .mv (.t 5)⟩, ⟨(some 40), (some (38, false)), .ic .gtr (.t 39) (.c (.int .u8 57))⟩, ⟨(some 41), (some (35, true)), .pick (.t 38) (.c (.bool true)) (.t 40)⟩, ⟨(some 42), none, .pick (.t 35) (.t 41) (.c (.bool false))⟩])
     (.cond (.t 42)
      (.seq (.reg false [⟨(some 2), none, .mv (.c (.bool false))⟩])
      (.ret))
      (.skip)))))))
    (.reg false [⟨(some 17), none, .mv (.t 4)⟩, ⟨(some 18), none, .ar .add (.t 17) (.c (.int .i64 1))⟩, ⟨(some 4), none, .mv (.t 18)⟩]))
def cc23 : CC :=
  .seq (.reg false [⟨(some 2), none, .mv (.c (.bool false))⟩])
  (.seq (.seq (.reg false [⟨(some 6), none, .mv (.t 0)⟩, ⟨(some 7), none, .sc .eql (.t 6) (.c (.str []))⟩, ⟨(some 8), none, .mv (.t 7)⟩, ⟨(some 9), (some (8, false)), .mv (.t 0)⟩, ⟨(some 10), (some (8, false)), .ln true (.t 9)⟩, ⟨(some 11), (some (8, false)), .ic .gtr (.t 10) (.c (.int .i64 64))⟩, ⟨(some 12), none, .pick (.t 8) (.c (.bool true)) (.t 11)⟩])
  (.cond (.t 12)
   (.seq (.reg false [⟨(some 2), none, .mv (.c (.bool false))⟩])
   (.ret))
   (.skip)))
  (.seq (.reg false [⟨(some 3), none, .mv (.c (.bool true))⟩])
  (.seq (.seq (.reg false [⟨(some 4), none, .mv (.c (.int .i64 0))⟩])
  (.block 0 (.loop (cc23_l0))))
  (.seq (.reg false [⟨(some 43), none, .mv (.t 3)⟩, ⟨(some 44), none, .no (.t 43)⟩, ⟨(some 2), none, .mv (.t 44)⟩])
  (.ret)))))
theorem comp23 : comp tt esc23 (Tryd.f23.body.getD .skip) = cc23 := by kernel_rfl
theorem has23 : Has Tryd.prog 23 := ⟨_, Tryd.func23, by kernel_rfl, by decide⟩
theorem enter23 (a0 : AV) {M : Mem} {R : AEnd → Mem → Prop} (h : CWp none Tryd.prog tt esc23 cc23 (Am.Fin Tryd.prog Tryd.f23 R) { tmps := (.v a0 :: .junk :: .junk :: .junk :: .junk :: .junk :: .junk :: .junk :: .junk :: .junk :: .junk :: .junk :: .junk :: .junk :: .junk :: .junk :: .junk :: .junk :: .junk :: .junk :: .junk :: .junk :: .junk :: .junk :: .junk :: .junk :: .junk :: .junk :: .junk :: .junk :: .junk :: .junk :: .junk :: .junk :: .junk :: .junk :: .junk :: .junk :: .junk :: .junk :: .junk :: .junk :: .junk :: .junk :: .junk :: []), loc := [], rows := [], defs := [], M := M }) : ACalls Tryd.prog 23 [a0] M R := ACalls.of 44 cc23 Tryd.func23 (by kernel_rfl) rfl comp23 h

def lp24_0 (x0 x1 x2 x7 x8 : TV) : List TV := [x0, x1, x2, .junk, .junk, .junk, .junk, x7, x8, .junk, .junk, .junk, .junk, .junk, .junk, .junk, .junk, .junk, .junk, .junk, .junk, .junk, .junk, .junk]

/-- euclid/euclidref27.join (3 parameters, 0 captured, 24 slots) -/
def esc24 : List Nat := []
def cc24_l0 : CC :=
  .seq (.seq (.reg false [⟨(some 9), none, .mv (.t 8)⟩, ⟨(some 10), none, .mv (.t 1)⟩, ⟨(some 11), none, .ic .lss (.t 9) (.t 10)⟩])
    (.cond (.t 11)
     (.skip)
     (.exit 0)))
    (.seq (.block 1 (.reg false [⟨(some 14), none, .mv (.t 7)⟩, ⟨(some 15), none, .mv (.t 0)⟩, ⟨(some 16), none, .mv (.t 8)⟩, ⟨(some 17), none, .ia 1 (.t 15) (.t 16)⟩, ⟨(some 18), none, .ld 1 false (.t 17)⟩, ⟨(some 19), none, .cat (.t 18) (.c (.str [46]))⟩, ⟨(some 20), none, .cat (.t 14) (.t 19)⟩, ⟨(some 7), none, .mv (.t 20)⟩]))
    (.reg false [⟨(some 12), none, .mv (.t 8)⟩, ⟨(some 13), none, .ar .add (.t 12) (.c (.int .i64 1))⟩, ⟨(some 8), none, .mv (.t 13)⟩]))
def cc24 : CC :=
  .seq (.reg false [⟨(some 6), none, .mv (.c (.str []))⟩])
  (.seq (.reg false [⟨(some 7), none, .mv (.c (.str []))⟩])
  (.seq (.seq (.reg false [⟨(some 8), none, .mv (.c (.int .i64 0))⟩])
  (.block 0 (.loop (cc24_l0))))
  (.seq (.reg false [⟨(some 21), none, .mv (.t 7)⟩, ⟨(some 22), none, .mv (.t 2)⟩, ⟨(some 23), none, .cat (.t 21) (.t 22)⟩, ⟨(some 6), none, .mv (.t 23)⟩])
  (.ret))))
theorem comp24 : comp tt esc24 (Tryd.f24.body.getD .skip) = cc24 := by kernel_rfl
theorem has24 : Has Tryd.prog 24 := ⟨_, Tryd.func24, by kernel_rfl, by decide⟩
theorem enter24 (a0 a1 a2 : AV) {M : Mem} {R : AEnd → Mem → Prop} (h : CWp none Tryd.prog tt esc24 cc24 (Am.Fin Tryd.prog Tryd.f24 R) { tmps := [.v a0, .v a1, .v a2, .junk, .junk, .junk, .junk, .junk, .junk, .junk, .junk, .junk, .junk, .junk, .junk, .junk, .junk, .junk, .junk, .junk, .junk, .junk, .junk, .junk], loc := [], rows := [], defs := [], M := M }) : ACalls Tryd.prog 24 [a0, a1, a2] M R := ACalls.of 21 cc24 Tryd.func24 (by kernel_rfl) rfl comp24 h

def lp26_0 (x0 x1 x4 : TV) : List TV := [x0, x1, .junk, .junk, x4, .junk, .junk, .junk, .junk, .junk, .junk, .junk, .junk, .junk, .junk, .junk, .junk, .junk, .junk]

/-- (euclid/scope.path).ends (2 parameters, 0 captured, 19 slots) -/
def esc26 : List Nat := []
def cc26_l0 : CC :=
  .seq (.seq (.reg false [⟨(some 8), none, .mv (.t 4)⟩, ⟨(some 9), none, .ic .geq (.t 8) (.c (.int .i64 0))⟩])
    (.cond (.t 9)
     (.skip)
     (.exit 0)))
    (.seq (.block 1 (.seq (.reg false [⟨(some 12), none, .mv (.t 1)⟩, ⟨(some 13), none, .mv (.t 0)⟩, ⟨(some 14), none, .mv (.t 4)⟩, ⟨(some 15), none, .sls 1 (.t 13) (some (.t 14)) none⟩, ⟨(some 16), none, .call 36 [(.t 15), (.c (.str [46]))]⟩, ⟨(some 17), none, .callv (.t 12) [(.t 16)]⟩, ⟨(some 18), none, .no (.t 17)⟩])
     (.cond (.t 18)
      (.ret)
      (.skip))))
    (.reg false [⟨(some 10), none, .mv (.t 4)⟩, ⟨(some 11), none, .ar .sub (.t 10) (.c (.int .i64 1))⟩, ⟨(some 4), none, .mv (.t 11)⟩]))
def cc26 : CC :=
  .seq (.reg false [⟨(some 5), none, .mv (.t 0)⟩, ⟨(some 6), none, .ln false (.t 5)⟩, ⟨(some 7), none, .ar .sub (.t 6) (.c (.int .i64 1))⟩, ⟨(some 4), none, .mv (.t 7)⟩])
  (.block 0 (.loop (cc26_l0)))
theorem comp26 : comp tt esc26 (Tryd.f26.body.getD .skip) = cc26 := by kernel_rfl
theorem has26 : Has Tryd.prog 26 := ⟨_, Tryd.func26, by kernel_rfl, by decide⟩
theorem enter26 (a0 a1 : AV) {M : Mem} {R : AEnd → Mem → Prop} (h : CWp none Tryd.prog tt esc26 cc26 (Am.Fin Tryd.prog Tryd.f26 R) { tmps := [.v a0, .v a1, .junk, .junk, .junk, .junk, .junk, .junk, .junk, .junk, .junk, .junk, .junk, .junk, .junk, .junk, .junk, .junk, .junk], loc := [], rows := [], defs := [], M := M }) : ACalls Tryd.prog 26 [a0, a1] M R := ACalls.of 17 cc26 Tryd.func26 (by kernel_rfl) rfl comp26 h

/-- slices.ContainsFunc[[]euclid/api.Decl,euclid/api.Decl] (2 parameters, 0 captured, 9 slots) -/
def esc27 : List Nat := []
def cc27 : CC :=
  .seq (.reg false [⟨(some 4), none, .mv (.c (.bool false))⟩])
  (.seq (.reg false [⟨(some 5), none, .mv (.t 0)⟩, ⟨(some 6), none, .mv (.t 1)⟩, ⟨(some 7), none, .call 40 [(.t 5), (.t 6)]⟩, ⟨(some 8), none, .ic .geq (.t 7) (.c (.int .i64 0))⟩, ⟨(some 4), none, .mv (.t 8)⟩])
  (.ret))
theorem comp27 : comp tt esc27 (Tryd.f27.body.getD .skip) = cc27 := by kernel_rfl
theorem has27 : Has Tryd.prog 27 := ⟨_, Tryd.func27, by kernel_rfl, by decide⟩
theorem enter27 (a0 a1 : AV) {M : Mem} {R : AEnd → Mem → Prop} (h : CWp none Tryd.prog tt esc27 cc27 (Am.Fin Tryd.prog Tryd.f27 R) { tmps := [.v a0, .v a1, .junk, .junk, .junk, .junk, .junk, .junk, .junk], loc := [], rows := [], defs := [], M := M }) : ACalls Tryd.prog 27 [a0, a1] M R := ACalls.of 7 cc27 Tryd.func27 (by kernel_rfl) rfl comp27 h

/-- euclid/scope.Declared$1 (1 parameters, 1 captured, 8 slots) -/
def esc28 : List Nat := []
def dl28_0 : List COp := [⟨(some 4), none, .ld 23 true (.t 2)⟩, ⟨(some 5), none, .call 30 [(.t 4)]⟩, ⟨(some 6), none, .ld 1 false (.t 1)⟩, ⟨(some 7), none, .call 29 [(.t 5), (.t 6)]⟩, ⟨(some 3), none, .mv (.t 7)⟩]
def dp28_0 : List (List Nat) := [[], [0], [], [1, 2, 1], [3, 3, 0, 1, 2, 3]]
def dk28_0 : List (List Nat) := [[], [2], [2], [], []]
theorem dr28_0 : DrawOk dl28_0 dp28_0 dk28_0 [(0, ⟨(some 4), none, .ld 23 true (.t 2)⟩, []), (2, ⟨(some 6), none, .ld 1 false (.t 1)⟩, [2]), (1, ⟨(some 5), none, .call 30 [(.t 4)]⟩, [2]), (3, ⟨(some 7), none, .call 29 [(.t 5), (.t 6)]⟩, []), (4, ⟨(some 3), none, .mv (.t 7)⟩, [])] := ⟨⟨[0, 2, 1, 3, 4], rfl, by kernel_rfl, by kernel_rfl⟩, by kernel_rfl⟩
def cc28 : CC :=
  .seq (.reg false [⟨(some 2), none, .bx 46 (.t 0)⟩, ⟨(some 3), none, .mv (.c (.bool false))⟩])
  (.seq (.dreg dl28_0 dp28_0)
  (.ret))
theorem comp28 : comp tt esc28 (Tryd.f28.body.getD .skip) = cc28 := by kernel_rfl
theorem has28 : Has Tryd.prog 28 := ⟨_, Tryd.func28, by kernel_rfl, by decide⟩
theorem enter28 (a0 a1 : AV) {M : Mem} {R : AEnd → Mem → Prop} (h : CWp none Tryd.prog tt esc28 cc28 (Am.Fin Tryd.prog Tryd.f28 R) { tmps := [.v a0, .v a1, .junk, .junk, .junk, .junk, .junk, .junk], loc := [], rows := [], defs := [], M := M }) : ACalls Tryd.prog 28 [a0, a1] M R := ACalls.of 6 cc28 Tryd.func28 (by kernel_rfl) rfl comp28 h

/-- slices.Contains[[]string,string] (2 parameters, 0 captured, 9 slots) -/
def esc29 : List Nat := []
def cc29 : CC :=
  .seq (.reg false [⟨(some 4), none, .mv (.c (.bool false))⟩])
  (.seq (.reg false [⟨(some 5), none, .mv (.t 0)⟩, ⟨(some 6), none, .mv (.t 1)⟩, ⟨(some 7), none, .call 41 [(.t 5), (.t 6)]⟩, ⟨(some 8), none, .ic .geq (.t 7) (.c (.int .i64 0))⟩, ⟨(some 4), none, .mv (.t 8)⟩])
  (.ret))
theorem comp29 : comp tt esc29 (Tryd.f29.body.getD .skip) = cc29 := by kernel_rfl
theorem has29 : Has Tryd.prog 29 := ⟨_, Tryd.func29, by kernel_rfl, by decide⟩
theorem enter29 (a0 a1 : AV) {M : Mem} {R : AEnd → Mem → Prop} (h : CWp none Tryd.prog tt esc29 cc29 (Am.Fin Tryd.prog Tryd.f29 R) { tmps := [.v a0, .v a1, .junk, .junk, .junk, .junk, .junk, .junk, .junk], loc := [], rows := [], defs := [], M := M }) : ACalls Tryd.prog 29 [a0, a1] M R := ACalls.of 7 cc29 Tryd.func29 (by kernel_rfl) rfl comp29 h

def lp30_0 (x1 x3 x27 x28 x29 : TV) : List TV := (.junk :: x1 :: .junk :: x3 :: .junk :: .junk :: .junk :: .junk :: .junk :: .junk :: .junk :: .junk :: .junk :: .junk :: .junk :: .junk :: .junk :: .junk :: .junk :: .junk :: .junk :: .junk :: .junk :: .junk :: .junk :: .junk :: .junk :: x27 :: x28 :: x29 :: .junk :: .junk :: .junk :: .junk :: .junk :: .junk :: .junk :: .junk :: .junk :: .junk :: .junk :: .junk :: .junk :: .junk :: .junk :: .junk :: .junk :: .junk :: .junk :: .junk :: .junk :: .junk :: .junk :: .junk :: .junk :: .junk :: .junk :: .junk :: .junk :: .junk :: .junk :: [])

def lp30_1 (x3 x48 x49 x50 : TV) : List TV := (.junk :: .junk :: .junk :: x3 :: .junk :: .junk :: .junk :: .junk :: .junk :: .junk :: .junk :: .junk :: .junk :: .junk :: .junk :: .junk :: .junk :: .junk :: .junk :: .junk :: .junk :: .junk :: .junk :: .junk :: .junk :: .junk :: .junk :: .junk :: .junk :: .junk :: .junk :: .junk :: .junk :: .junk :: .junk :: .junk :: .junk :: .junk :: .junk :: .junk :: .junk :: .junk :: .junk :: .junk :: .junk :: .junk :: .junk :: .junk :: x48 :: x49 :: x50 :: .junk :: .junk :: .junk :: .junk :: .junk :: .junk :: .junk :: .junk :: .junk :: .junk :: [])

/-- euclid/signature.Names (1 parameters, 0 captured, 61 slots) -/
def esc30 : List Nat := []
def cc30_l0 : CC :=
  .seq (.reg false [⟨(some 30), none, .ic .lss (.t 29) (.t 28)⟩])
       (.seq (.cond (.t 30)
        (.skip)
        (.exit 1))
       (.seq (.block 2 (.seq (.reg false [⟨(some 31), none, .ia 6 (.t 27) (.t 29)⟩, ⟨(some 32), none, .ld 6 true (.t 31)⟩, ⟨(some 5), none, .al 48 [(.str []), (.int .i64 0), (.int .i64 0), (.str []), (.sl .full 2 []), (.sl .full 5 [])]⟩, ⟨none, none, .sto 6 (.t 5) (.t 32)⟩])
        (.reg false [⟨(some 33), none, .mv (.t 3)⟩, ⟨(some 34), none, .fa 0 (.t 5)⟩, ⟨(some 35), none, .ld 1 false (.t 34)⟩, ⟨(some 36), none, .bs 9 1 [(.t 35)]⟩, ⟨(some 37), none, .app 9 1 16 (.t 33) (.t 36)⟩, ⟨(some 3), none, .mv (.t 37)⟩])))
       (.reg false [⟨(some 38), none, .ar .add (.t 29) (.c (.int .i64 1))⟩, ⟨(some 29), none, .mv (.t 38)⟩])))
def cc30_l1 : CC :=
  .seq (.reg false [⟨(some 51), none, .ic .lss (.t 50) (.t 49)⟩])
        (.seq (.cond (.t 51)
         (.skip)
         (.exit 3))
        (.seq (.block 4 (.seq (.reg false [⟨(some 52), none, .ia 15 (.t 48) (.t 50)⟩, ⟨(some 53), none, .ld 15 true (.t 52)⟩, ⟨(some 7), none, .al 53 [(.str []), (.int .i64 0), (.int .i64 0), (.str []), (.sl .full 2 []), (.sl .full 5 []), (.int .i64 0), (.int .i64 0), (.int .i64 0), (.int .i64 0), (.str []), (.sl .full 2 []), (.sl .full 5 []), (.int .i64 0), (.sl .full 10 [])]⟩, ⟨none, none, .sto 15 (.t 7) (.t 53)⟩])
         (.reg false [⟨(some 54), none, .mv (.t 3)⟩, ⟨(some 55), none, .fa 0 (.t 7)⟩, ⟨(some 56), none, .ld 1 false (.t 55)⟩, ⟨(some 57), none, .bs 9 1 [(.t 56)]⟩, ⟨(some 58), none, .app 9 1 16 (.t 54) (.t 57)⟩, ⟨(some 3), none, .mv (.t 58)⟩])))
        (.reg false [⟨(some 59), none, .ar .add (.t 50) (.c (.int .i64 1))⟩, ⟨(some 50), none, .mv (.t 59)⟩])))
def cc30 : CC :=
  .seq (.reg false [⟨(some 1), none, .bx 46 (.t 0)⟩, ⟨(some 2), none, .mv (.c (.sl .full 1 []))⟩])
  (.seq (.reg false [⟨(some 3), none, .mv (.c (.sl .full 1 []))⟩])
  (.seq (.seq (.reg false [⟨(some 8), none, .fa 0 (.t 1)⟩, ⟨(some 9), none, .ld 1 false (.t 8)⟩])
  (.block 0 (.seq (.seq (.reg false [⟨(some 11), none, .ic .eql (.t 9) (.c (.int .i64 0))⟩, ⟨(some 10), none, .mv (.t 11)⟩])
   (.cond (.t 10)
    (.skip)
    (.seq (.reg false [⟨(some 12), none, .ic .eql (.t 9) (.c (.int .i64 1))⟩, ⟨(some 10), none, .mv (.t 12)⟩])
    (.cond (.t 10)
     (.skip)
     (.reg false [⟨(some 13), none, .ic .eql (.t 9) (.c (.int .i64 2))⟩, ⟨(some 10), none, .mv (.t 13)⟩])))))
   (.cond (.t 10)
    (.reg false [⟨(some 14), none, .mv (.t 3)⟩, ⟨(some 15), none, .fa 1 (.t 1)⟩, ⟨(some 16), none, .ld 1 false (.t 15)⟩, ⟨(some 17), none, .bs 9 1 [(.t 16)]⟩, ⟨(some 18), none, .app 9 1 16 (.t 14) (.t 17)⟩, ⟨(some 3), none, .mv (.t 18)⟩])
    (.seq (.reg false [⟨(some 20), none, .ic .eql (.t 9) (.c (.int .i64 3))⟩, ⟨(some 19), none, .mv (.t 20)⟩])
    (.cond (.t 19)
     (.seq (.reg false [⟨(some 21), none, .mv (.t 3)⟩, ⟨(some 22), none, .fa 1 (.t 1)⟩, ⟨(some 23), none, .ld 1 false (.t 22)⟩, ⟨(some 24), none, .bs 9 1 [(.t 23)]⟩, ⟨(some 25), none, .app 9 1 16 (.t 21) (.t 24)⟩, ⟨(some 3), none, .mv (.t 25)⟩])
     (.seq (.seq (.reg false [⟨(some 26), none, .fa 14 (.t 1)⟩, ⟨(some 27), none, .ld 1 false (.t 26)⟩, ⟨(some 28), none, .ln false (.t 27)⟩, ⟨(some 29), none, .mv (.c (.int .i64 0))⟩])
     (.block 1 (.loop (cc30_l0))))
     (.reg false [⟨(some 39), none, .mv (.t 3)⟩, ⟨(some 40), none, .fa 1 (.t 1)⟩, ⟨(some 41), none, .ld 1 false (.t 40)⟩, ⟨(some 42), none, .cat (.t 41) (.c (.str [46, 114, 101, 99]))⟩, ⟨(some 43), none, .bs 9 1 [(.t 42)]⟩, ⟨(some 44), none, .app 9 1 16 (.t 39) (.t 43)⟩, ⟨(some 3), none, .mv (.t 44)⟩])))
     (.seq (.reg false [⟨(some 46), none, .ic .eql (.t 9) (.c (.int .i64 4))⟩, ⟨(some 45), none, .mv (.t 46)⟩])
     (.cond (.t 45)
      (.seq (.reg false [⟨(some 47), none, .fa 22 (.t 1)⟩, ⟨(some 48), none, .ld 1 false (.t 47)⟩, ⟨(some 49), none, .ln false (.t 48)⟩, ⟨(some 50), none, .mv (.c (.int .i64 0))⟩])
      (.block 3 (.loop (cc30_l1))))
      (.skip)))))))))
  (.seq (.reg false [⟨(some 60), none, .mv (.t 3)⟩, ⟨(some 2), none, .mv (.t 60)⟩])
  (.ret))))
theorem comp30 : comp tt esc30 (Tryd.f30.body.getD .skip) = cc30 := by kernel_rfl
theorem has30 : Has Tryd.prog 30 := ⟨_, Tryd.func30, by kernel_rfl, by decide⟩
theorem enter30 (a0 : AV) {M : Mem} {R : AEnd → Mem → Prop} (h : CWp none Tryd.prog tt esc30 cc30 (Am.Fin Tryd.prog Tryd.f30 R) { tmps := (.v a0 :: .junk :: .junk :: .junk :: .junk :: .junk :: .junk :: .junk :: .junk :: .junk :: .junk :: .junk :: .junk :: .junk :: .junk :: .junk :: .junk :: .junk :: .junk :: .junk :: .junk :: .junk :: .junk :: .junk :: .junk :: .junk :: .junk :: .junk :: .junk :: .junk :: .junk :: .junk :: .junk :: .junk :: .junk :: .junk :: .junk :: .junk :: .junk :: .junk :: .junk :: .junk :: .junk :: .junk :: .junk :: .junk :: .junk :: .junk :: .junk :: .junk :: .junk :: .junk :: .junk :: .junk :: .junk :: .junk :: .junk :: .junk :: .junk :: .junk :: .junk :: []), loc := [], rows := [], defs := [], M := M }) : ACalls Tryd.prog 30 [a0] M R := ACalls.of 60 cc30 Tryd.func30 (by kernel_rfl) rfl comp30 h

def lp31_0 (x1 x2 x5 : TV) : List TV := (.junk :: x1 :: x2 :: .junk :: .junk :: x5 :: .junk :: .junk :: .junk :: .junk :: .junk :: .junk :: .junk :: .junk :: .junk :: .junk :: .junk :: .junk :: .junk :: .junk :: .junk :: .junk :: .junk :: .junk :: .junk :: .junk :: .junk :: .junk :: .junk :: .junk :: .junk :: .junk :: .junk :: .junk :: .junk :: .junk :: .junk :: .junk :: .junk :: .junk :: .junk :: .junk :: .junk :: .junk :: .junk :: .junk :: .junk :: .junk :: .junk :: .junk :: .junk :: .junk :: .junk :: .junk :: .junk :: .junk :: .junk :: .junk :: .junk :: .junk :: .junk :: .junk :: .junk :: .junk :: .junk :: .junk :: .junk :: .junk :: .junk :: .junk :: .junk :: .junk :: .junk :: .junk :: .junk :: .junk :: .junk :: .junk :: .junk :: .junk :: [])

def lp31_1 (x1 x2 x7 : TV) : List TV := (.junk :: x1 :: x2 :: .junk :: .junk :: .junk :: .junk :: x7 :: .junk :: .junk :: .junk :: .junk :: .junk :: .junk :: .junk :: .junk :: .junk :: .junk :: .junk :: .junk :: .junk :: .junk :: .junk :: .junk :: .junk :: .junk :: .junk :: .junk :: .junk :: .junk :: .junk :: .junk :: .junk :: .junk :: .junk :: .junk :: .junk :: .junk :: .junk :: .junk :: .junk :: .junk :: .junk :: .junk :: .junk :: .junk :: .junk :: .junk :: .junk :: .junk :: .junk :: .junk :: .junk :: .junk :: .junk :: .junk :: .junk :: .junk :: .junk :: .junk :: .junk :: .junk :: .junk :: .junk :: .junk :: .junk :: .junk :: .junk :: .junk :: .junk :: .junk :: .junk :: .junk :: .junk :: .junk :: .junk :: .junk :: .junk :: .junk :: .junk :: [])

/-- euclid/euclidref07.Declares (2 parameters, 0 captured, 80 slots) -/
def esc31 : List Nat := []
def dl31_0 : List COp := [⟨(some 38), none, .mv (.t 1)⟩, ⟨(some 39), none, .fa 1 (.t 2)⟩, ⟨(some 40), none, .ld 1 false (.t 39)⟩, ⟨(some 41), none, .sc .eql (.t 38) (.t 40)⟩, ⟨(some 42), none, .mv (.t 41)⟩, ⟨(some 43), (some (42, false)), .mv (.t 1)⟩, ⟨(some 44), (some (42, false)), .ln true (.t 43)⟩, ⟨(some 45), (some (42, false)), .mv (.t 6)⟩, ⟨(some 46), (some (42, false)), .ar .add (.t 45) (.c (.int .i64 4))⟩, ⟨(some 47), (some (42, false)), .ic .eql (.t 44) (.t 46)⟩, ⟨(some 48), (some (42, false)), .mv (.t 47)⟩, ⟨(some 49), (some (48, true)), .mv (.t 1)⟩, ⟨(some 50), (some (48, true)), .mv (.t 6)⟩, ⟨(some 51), (some (48, true)), .ss (.t 49) none (some (.t 50))⟩, ⟨(some 52), (some (48, true)), .fa 1 (.t 2)⟩, ⟨(some 53), (some (48, true)), .ld 1 false (.t 52)⟩, ⟨(some 54), (some (48, true)), .sc .eql (.t 51) (.t 53)⟩, ⟨(some 55), (some (42, false)), .pick (.t 48) (.t 54) (.c (.bool false))⟩, ⟨(some 56), (some (42, false)), .mv (.t 55)⟩, ⟨(some 57), (some (56, true)), .mv (.t 1)⟩, ⟨(some 58), (some (56, true)), .mv (.t 6)⟩, ⟨(some 59), (some (56, true)), .ss (.t 57) (some (.t 58)) none⟩, ⟨(some 60), (some (56, true)), .sc .eql (.t 59) (.c (.str [46, 114, 101, 99]))⟩, ⟨(some 61), (some (42, false)), .pick (.t 56) (.t 60) (.c (.bool false))⟩, ⟨(some 62), none, .pick (.t 42) (.c (.bool true)) (.t 61)⟩, ⟨(some 4), none, .mv (.t 62)⟩]
def dp31_0 : List (List Nat) := [[], [], [1], [0, 2], [3], [4], [5, 4], [4], [7, 4], [6, 8, 4], [9, 4, 4], [10], [10], [11, 12, 10], [10], [14, 10], [13, 15, 10], [10, 16, 4], [17, 10, 4], [18], [18], [19, 20, 18], [21, 18], [18, 22, 4], [4, 23], [24, 18, 0, 1, 2, 3, 4, 5, 6, 7, 8, 9, 10, 11, 12, 13, 14, 15, 16, 17, 18, 19, 20, 21, 22, 23, 24]]
def dk31_0 : List (List Nat) := [[], [], [], [], [], [], [], [], [], [], [], [], [], [], [], [], [], [], [], [], [], [], [], [], [], []]
theorem dr31_0 : DrawOk dl31_0 dp31_0 dk31_0 [(0, ⟨(some 38), none, .mv (.t 1)⟩, []), (1, ⟨(some 39), none, .fa 1 (.t 2)⟩, []), (2, ⟨(some 40), none, .ld 1 false (.t 39)⟩, []), (3, ⟨(some 41), none, .sc .eql (.t 38) (.t 40)⟩, []), (4, ⟨(some 42), none, .mv (.t 41)⟩, []), (5, ⟨(some 43), (some (42, false)), .mv (.t 1)⟩, []), (6, ⟨(some 44), (some (42, false)), .ln true (.t 43)⟩, []), (7, ⟨(some 45), (some (42, false)), .mv (.t 6)⟩, []), (8, ⟨(some 46), (some (42, false)), .ar .add (.t 45) (.c (.int .i64 4))⟩, []), (9, ⟨(some 47), (some (42, false)), .ic .eql (.t 44) (.t 46)⟩, []), (10, ⟨(some 48), (some (42, false)), .mv (.t 47)⟩, []), (11, ⟨(some 49), (some (48, true)), .mv (.t 1)⟩, []), (12, ⟨(some 50), (some (48, true)), .mv (.t 6)⟩, []), (13, ⟨(some 51), (some (48, true)), .ss (.t 49) none (some (.t 50))⟩, []), (14, ⟨(some 52), (some (48, true)), .fa 1 (.t 2)⟩, []), (15, ⟨(some 53), (some (48, true)), .ld 1 false (.t 52)⟩, []), (16, ⟨(some 54), (some (48, true)), .sc .eql (.t 51) (.t 53)⟩, []), (17, ⟨(some 55), (some (42, false)), .pick (.t 48) (.t 54) (.c (.bool false))⟩, []), (18, ⟨(some 56), (some (42, false)), .mv (.t 55)⟩, []), (19, ⟨(some 57), (some (56, true)), .mv (.t 1)⟩, []), (20, ⟨(some 58), (some (56, true)), .mv (.t 6)⟩, []), (21, ⟨(some 59), (some (56, true)), .ss (.t 57) (some (.t 58)) none⟩, []), (22, ⟨(some 60), (some (56, true)), .sc .eql (.t 59) (.c (.str [46, 114, 101, 99]))⟩, []), (23, ⟨(some 61), (some (42, false)), .pick (.t 56) (.t 60) (.c (.bool false))⟩, []), (24, ⟨(some 62), none, .pick (.t 42) (.c (.bool true)) (.t 61)⟩, []), (25, ⟨(some 4), none, .mv (.t 62)⟩, [])] := ⟨⟨[0, 1, 2, 3, 4, 5, 6, 7, 8, 9, 10, 11, 12, 13, 14, 15, 16, 17, 18, 19, 20, 21, 22, 23, 24, 25], rfl, by kernel_rfl, by kernel_rfl⟩, by kernel_rfl⟩
def cc31_l0 : CC :=
  .seq (.seq (.reg false [⟨(some 20), none, .mv (.t 5)⟩, ⟨(some 21), none, .fa 14 (.t 2)⟩, ⟨(some 22), none, .ld 1 false (.t 21)⟩, ⟨(some 23), none, .ln false (.t 22)⟩, ⟨(some 24), none, .ic .lss (.t 20) (.t 23)⟩])
       (.cond (.t 24)
        (.skip)
        (.exit 1)))
       (.seq (.block 2 (.seq (.reg false [⟨(some 27), none, .fa 14 (.t 2)⟩, ⟨(some 28), none, .ld 1 false (.t 27)⟩, ⟨(some 29), none, .mv (.t 5)⟩, ⟨(some 30), none, .ia 6 (.t 28) (.t 29)⟩, ⟨(some 31), none, .fa 0 (.t 30)⟩, ⟨(some 32), none, .ld 1 false (.t 31)⟩, ⟨(some 33), none, .mv (.t 1)⟩, ⟨(some 34), none, .sc .eql (.t 32) (.t 33)⟩])
        (.cond (.t 34)
         (.seq (.reg false [⟨(some 4), none, .mv (.c (.bool true))⟩])
         (.ret))
         (.skip))))
       (.reg false [⟨(some 25), none, .mv (.t 5)⟩, ⟨(some 26), none, .ar .add (.t 25) (.c (.int .i64 1))⟩, ⟨(some 5), none, .mv (.t 26)⟩]))
def cc31_l1 : CC :=
  .seq (.seq (.reg false [⟨(some 65), none, .mv (.t 7)⟩, ⟨(some 66), none, .fa 22 (.t 2)⟩, ⟨(some 67), none, .ld 1 false (.t 66)⟩, ⟨(some 68), none, .ln false (.t 67)⟩, ⟨(some 69), none, .ic .lss (.t 65) (.t 68)⟩])
        (.cond (.t 69)
         (.skip)
         (.exit 3)))
        (.seq (.block 4 (.seq (.reg false [⟨(some 72), none, .fa 22 (.t 2)⟩, ⟨(some 73), none, .ld 1 false (.t 72)⟩, ⟨(some 74), none, .mv (.t 7)⟩, ⟨(some 75), none, .ia 15 (.t 73) (.t 74)⟩, ⟨(some 76), none, .fa 0 (.t 75)⟩, ⟨(some 77), none, .ld 1 false (.t 76)⟩, ⟨(some 78), none, .mv (.t 1)⟩, ⟨(some 79), none, .sc .eql (.t 77) (.t 78)⟩])
         (.cond (.t 79)
          (.seq (.reg false [⟨(some 4), none, .mv (.c (.bool true))⟩])
          (.ret))
          (.skip))))
        (.reg false [⟨(some 70), none, .mv (.t 7)⟩, ⟨(some 71), none, .ar .add (.t 70) (.c (.int .i64 1))⟩, ⟨(some 7), none, .mv (.t 71)⟩]))
def cc31 : CC :=
  .seq (.reg false [⟨(some 2), none, .bx 46 (.t 0)⟩, ⟨(some 4), none, .mv (.c (.bool false))⟩])
  (.seq (.seq (.reg false [⟨(some 8), none, .fa 0 (.t 2)⟩, ⟨(some 9), none, .ld 1 false (.t 8)⟩])
  (.block 0 (.seq (.seq (.reg false [⟨(some 11), none, .ic .eql (.t 9) (.c (.int .i64 0))⟩, ⟨(some 10), none, .mv (.t 11)⟩])
   (.cond (.t 10)
    (.skip)
    (.seq (.reg false [⟨(some 12), none, .ic .eql (.t 9) (.c (.int .i64 1))⟩, ⟨(some 10), none, .mv (.t 12)⟩])
    (.cond (.t 10)
     (.skip)
     (.reg false [⟨(some 13), none, .ic .eql (.t 9) (.c (.int .i64 2))⟩, ⟨(some 10), none, .mv (.t 13)⟩])))))
   (.cond (.t 10)
    (.seq (.reg false [⟨(some 14), none, .mv (.t 1)⟩, ⟨(some 15), none, .fa 1 (.t 2)⟩, ⟨(some 16), none, .ld 1 false (.t 15)⟩, ⟨(some 17), none, .sc .eql (.t 14) (.t 16)⟩, ⟨(some 4), none, .mv (.t 17)⟩])
    (.ret))
    (.seq (.reg false [⟨(some 19), none, .ic .eql (.t 9) (.c (.int .i64 3))⟩, ⟨(some 18), none, .mv (.t 19)⟩])
    (.cond (.t 18)
     (.seq (.seq (.reg false [⟨(some 5), none, .mv (.c (.int .i64 0))⟩])
     (.block 1 (.loop (cc31_l0))))
     (.seq (.reg false [⟨(some 35), none, .fa 1 (.t 2)⟩, ⟨(some 36), none, .ld 1 false (.t 35)⟩, ⟨(some 37), none, .ln true (.t 36)⟩, ⟨(some 6), none, .mv (.t 37)⟩])
     (.seq (.dreg dl31_0 dp31_0)
     (.ret))))
     (.seq (.reg false [⟨(some 64), none, .ic .eql (.t 9) (.c (.int .i64 4))⟩, ⟨(some 63), none, .mv (.t 64)⟩])
     (.cond (.t 63)
      (.seq (.reg false [⟨(some 7), none, .mv (.c (.int .i64 0))⟩])
      (.block 3 (.loop (cc31_l1))))
      (.skip)))))))))
  (.seq (.reg false [⟨(some 4), none, .mv (.c (.bool false))⟩])
  (.ret)))
theorem comp31 : comp tt esc31 (Tryd.f31.body.getD .skip) = cc31 := by kernel_rfl
theorem has31 : Has Tryd.prog 31 := ⟨_, Tryd.func31, by kernel_rfl, by decide⟩
theorem enter31 (a0 a1 : AV) {M : Mem} {R : AEnd → Mem → Prop} (h : CWp none Tryd.prog tt esc31 cc31 (Am.Fin Tryd.prog Tryd.f31 R) { tmps := (.v a0 :: .v a1 :: .junk :: .junk :: .junk :: .junk :: .junk :: .junk :: .junk :: .junk :: .junk :: .junk :: .junk :: .junk :: .junk :: .junk :: .junk :: .junk :: .junk :: .junk :: .junk :: .junk :: .junk :: .junk :: .junk :: .junk :: .junk :: .junk :: .junk :: .junk :: .junk :: .junk :: .junk :: .junk :: .junk :: .junk :: .junk :: .junk :: .junk :: .junk :: .junk :: .junk :: .junk :: .junk :: .junk :: .junk :: .junk :: .junk :: .junk :: .junk :: .junk :: .junk :: .junk :: .junk :: .junk :: .junk :: .junk :: .junk :: .junk :: .junk :: .junk :: .junk :: .junk :: .junk :: .junk :: .junk :: .junk :: .junk :: .junk :: .junk :: .junk :: .junk :: .junk :: .junk :: .junk :: .junk :: .junk :: .junk :: .junk :: .junk :: []), loc := [], rows := [], defs := [], M := M }) : ACalls Tryd.prog 31 [a0, a1] M R := ACalls.of 78 cc31 Tryd.func31 (by kernel_rfl) rfl comp31 h

/-- euclid/euclidlaw27.short$1 (1 parameters, 0 captured, 6 slots) -/
def esc32 : List Nat := []
def cc32 : CC :=
  .seq (.reg false [⟨(some 2), none, .mv (.c (.bool false))⟩])
  (.seq (.reg false [⟨(some 3), none, .mv (.t 0)⟩, ⟨(some 4), none, .ln true (.t 3)⟩, ⟨(some 5), none, .ic .gtr (.t 4) (.c (.int .i64 100))⟩, ⟨(some 2), none, .mv (.t 5)⟩])
  (.ret))
theorem comp32 : comp tt esc32 (Tryd.f32.body.getD .skip) = cc32 := by kernel_rfl
theorem has32 : Has Tryd.prog 32 := ⟨_, Tryd.func32, by kernel_rfl, by decide⟩
theorem enter32 (a0 : AV) {M : Mem} {R : AEnd → Mem → Prop} (h : CWp none Tryd.prog tt esc32 cc32 (Am.Fin Tryd.prog Tryd.f32 R) { tmps := [.v a0, .junk, .junk, .junk, .junk, .junk], loc := [], rows := [], defs := [], M := M }) : ACalls Tryd.prog 32 [a0] M R := ACalls.of 5 cc32 Tryd.func32 (by kernel_rfl) rfl comp32 h

def lp33_0 (x0 x1 x7 x8 : TV) : List TV := [x0, x1, .junk, .junk, .junk, .junk, .junk, x7, x8, .junk, .junk, .junk, .junk, .junk, .junk, .junk, .junk, .junk, .junk]

/-- slices.IndexFunc[[]string,string] (2 parameters, 0 captured, 19 slots) -/
def esc33 : List Nat := []
def cc33_l0 : CC :=
  .seq (.reg false [⟨(some 9), none, .ic .lss (.t 8) (.t 7)⟩])
    (.seq (.cond (.t 9)
     (.skip)
     (.exit 0))
    (.seq (.block 1 (.seq (.reg false [⟨(some 10), none, .mv (.t 8)⟩, ⟨(some 5), none, .mv (.t 10)⟩])
     (.seq (.reg false [⟨(some 11), none, .mv (.t 1)⟩, ⟨(some 12), none, .mv (.t 0)⟩, ⟨(some 13), none, .mv (.t 5)⟩, ⟨(some 14), none, .ia 1 (.t 12) (.t 13)⟩, ⟨(some 15), none, .ld 1 false (.t 14)⟩, ⟨(some 16), none, .callv (.t 11) [(.t 15)]⟩])
     (.cond (.t 16)
      (.seq (.reg false [⟨(some 17), none, .mv (.t 5)⟩, ⟨(some 4), none, .mv (.t 17)⟩])
      (.ret))
      (.skip)))))
    (.reg false [⟨(some 18), none, .ar .add (.t 8) (.c (.int .i64 1))⟩, ⟨(some 8), none, .mv (.t 18)⟩])))
def cc33 : CC :=
  .seq (.reg false [⟨(some 4), none, .mv (.c (.int .i64 0))⟩])
  (.seq (.seq (.reg false [⟨(some 6), none, .mv (.t 0)⟩, ⟨(some 7), none, .ln false (.t 6)⟩, ⟨(some 8), none, .mv (.c (.int .i64 0))⟩])
  (.block 0 (.loop (cc33_l0))))
  (.seq (.reg false [⟨(some 4), none, .mv (.c (.int .i64 (-1)))⟩])
  (.ret)))
theorem comp33 : comp tt esc33 (Tryd.f33.body.getD .skip) = cc33 := by kernel_rfl
theorem has33 : Has Tryd.prog 33 := ⟨_, Tryd.func33, by kernel_rfl, by decide⟩
theorem enter33 (a0 a1 : AV) {M : Mem} {R : AEnd → Mem → Prop} (h : CWp none Tryd.prog tt esc33 cc33 (Am.Fin Tryd.prog Tryd.f33 R) { tmps := [.v a0, .v a1, .junk, .junk, .junk, .junk, .junk, .junk, .junk, .junk, .junk, .junk, .junk, .junk, .junk, .junk, .junk, .junk, .junk], loc := [], rows := [], defs := [], M := M }) : ACalls Tryd.prog 33 [a0, a1] M R := ACalls.of 17 cc33 Tryd.func33 (by kernel_rfl) rfl comp33 h

/-- euclid/term.letter (1 parameters, 0 captured, 21 slots) -/
def esc34 : List Nat := []
def cc34 : CC :=
  .seq (.reg false [⟨(some 2), none, .mv (.c (.bool false))⟩])
  (.seq (.reg false [⟨(some 3), none, .mv (.t 0)⟩, ⟨(some 4), none, .ic .geq (.t 3) (.c (.int .u8 97))⟩, ⟨(some 5), none, .mv (.t 4)⟩, ⟨(some 6), (some (5, true)), .mv (.t 0)⟩, ⟨(some 7), (some (5, true)), .ic .leq (.t 6) (.c (.int .u8 122))⟩, ⟨(some 8), none, .pick (.t 5) (.t 7) (.c (.bool false))⟩, ⟨(some 9), none, .mv (.t 8)⟩, ⟨(some 10), (some (9, false)), .mv (.t 0)⟩, ⟨(some 11), (some (9, false)), .ic .geq (.t 10) (.c (.int .u8 65))⟩, ⟨(some 12), (some (9, false)), .mv (.t 11)⟩, ⟨(some 13), (some (12, true)), .mv (.t 0)⟩, ⟨(some 14), (some (12, true)), .ic .leq (.t 13) (.c (.int .u8 90))⟩, ⟨(some 15), (some (9, false)), .pick (.t 12) (.t 14) (.c (.bool false))⟩, ⟨(some 16), none, .pick (.t 9) (.c (.bool true)) (.t 15)⟩, ⟨(some 17), none, .mv (.t 16)⟩, ⟨(some 18), (some (17, false)), .mv (.t 0)⟩, ⟨(some 19), (some (17, false)), .ic .eql (.t 18) (.c (.int .u8 95))⟩, ⟨(some 20), none, .pick (.t 17) (.c (.bool true)) (.t 19)⟩, ⟨(some 2), none, .mv (.t 20)⟩])
  (.ret))
theorem comp34 : comp tt esc34 (Tryd.f34.body.getD .skip) = cc34 := by kernel_rfl
theorem has34 : Has Tryd.prog 34 := ⟨_, Tryd.func34, by kernel_rfl, by decide⟩
theorem enter34 (a0 : AV) {M : Mem} {R : AEnd → Mem → Prop} (h : CWp none Tryd.prog tt esc34 cc34 (Am.Fin Tryd.prog Tryd.f34 R) { tmps := [.v a0, .junk, .junk, .junk, .junk, .junk, .junk, .junk, .junk, .junk, .junk, .junk, .junk, .junk, .junk, .junk, .junk, .junk, .junk, .junk, .junk], loc := [], rows := [], defs := [], M := M }) : ACalls Tryd.prog 34 [a0] M R := ACalls.of 20 cc34 Tryd.func34 (by kernel_rfl) rfl comp34 h

def lp35_0 (x0 x1 x3 : TV) : List TV := [x0, x1, .junk, x3, .junk, .junk, .junk, .junk, .junk, .junk, .junk, .junk, .junk, .junk, .junk, .junk, .junk, .junk]

/-- euclid/scope.enclosing$1 (1 parameters, 1 captured, 18 slots) -/
def esc35 : List Nat := []
def cc35_l0 : CC :=
  .seq (.seq (.reg false [⟨(some 7), none, .mv (.t 3)⟩, ⟨(some 8), none, .ic .gtr (.t 7) (.c (.int .i64 0))⟩])
    (.cond (.t 8)
     (.skip)
     (.exit 0)))
    (.seq (.block 1 (.seq (.reg false [⟨(some 11), none, .mv (.t 0)⟩, ⟨(some 12), none, .fa 5 (.t 1)⟩, ⟨(some 13), none, .ld 1 false (.t 12)⟩, ⟨(some 14), none, .mv (.t 3)⟩, ⟨(some 15), none, .sls 1 (.t 13) none (some (.t 14))⟩, ⟨(some 16), none, .callv (.t 11) [(.t 15)]⟩, ⟨(some 17), none, .no (.t 16)⟩])
     (.cond (.t 17)
      (.ret)
      (.skip))))
    (.reg false [⟨(some 9), none, .mv (.t 3)⟩, ⟨(some 10), none, .ar .sub (.t 9) (.c (.int .i64 1))⟩, ⟨(some 3), none, .mv (.t 10)⟩]))
def cc35 : CC :=
  .seq (.reg false [⟨(some 4), none, .fa 5 (.t 1)⟩, ⟨(some 5), none, .ld 1 false (.t 4)⟩, ⟨(some 6), none, .ln false (.t 5)⟩, ⟨(some 3), none, .mv (.t 6)⟩])
  (.block 0 (.loop (cc35_l0)))
theorem comp35 : comp tt esc35 (Tryd.f35.body.getD .skip) = cc35 := by kernel_rfl
theorem has35 : Has Tryd.prog 35 := ⟨_, Tryd.func35, by kernel_rfl, by decide⟩
theorem enter35 (a0 a1 : AV) {M : Mem} {R : AEnd → Mem → Prop} (h : CWp none Tryd.prog tt esc35 cc35 (Am.Fin Tryd.prog Tryd.f35 R) { tmps := [.v a0, .v a1, .junk, .junk, .junk, .junk, .junk, .junk, .junk, .junk, .junk, .junk, .junk, .junk, .junk, .junk, .junk, .junk], loc := [], rows := [], defs := [], M := M }) : ACalls Tryd.prog 35 [a0, a1] M R := ACalls.of 16 cc35 Tryd.func35 (by kernel_rfl) rfl comp35 h

/-- slices.Clone[euclid/scope.path,string] (1 parameters, 0 captured, 8 slots) -/
def esc37 : List Nat := []
def cc37 : CC :=
  .seq (.reg false [⟨(some 2), none, .mv (.c (.sl .full 1 []))⟩])
  (.seq (.seq (.reg false [⟨(some 3), none, .mv (.t 0)⟩, ⟨(some 4), none, .nl .eql .slice (.t 3)⟩])
  (.cond (.t 4)
   (.seq (.reg false [⟨(some 2), none, .mv (.c (.sl .full 1 []))⟩])
   (.ret))
   (.skip)))
  (.seq (.reg false [⟨(some 5), none, .bs 9 1 []⟩, ⟨(some 6), none, .mv (.t 0)⟩, ⟨(some 7), none, .app 9 1 16 (.t 5) (.t 6)⟩, ⟨(some 2), none, .mv (.t 7)⟩])
  (.ret)))
theorem comp37 : comp tt esc37 (Tryd.f37.body.getD .skip) = cc37 := by kernel_rfl
theorem has37 : Has Tryd.prog 37 := ⟨_, Tryd.func37, by kernel_rfl, by decide⟩
theorem enter37 (a0 : AV) {M : Mem} {R : AEnd → Mem → Prop} (h : CWp none Tryd.prog tt esc37 cc37 (Am.Fin Tryd.prog Tryd.f37 R) { tmps := [.v a0, .junk, .junk, .junk, .junk, .junk, .junk, .junk], loc := [], rows := [], defs := [], M := M }) : ACalls Tryd.prog 37 [a0] M R := ACalls.of 7 cc37 Tryd.func37 (by kernel_rfl) rfl comp37 h

/-- euclid/euclidref03.letter (1 parameters, 0 captured, 21 slots) -/
def esc38 : List Nat := []
def cc38 : CC :=
  .seq (.reg false [⟨(some 2), none, .mv (.c (.bool false))⟩])
  (.seq (.reg false [⟨(some 3), none, .mv (.t 0)⟩, ⟨(some 4), none, .ic .geq (.t 3) (.c (.int .u8 97))⟩, ⟨(some 5), none, .mv (.t 4)⟩, ⟨(some 6), (some (5, true)), .mv (.t 0)⟩, ⟨(some 7), (some (5, true)), .ic .leq (.t 6) (.c (.int .u8 122))⟩, ⟨(some 8), none, .pick (.t 5) (.t 7) (.c (.bool false))⟩, ⟨(some 9), none, .mv (.t 8)⟩, ⟨(some 10), (some (9, false)), .mv (.t 0)⟩, ⟨(some 11), (some (9, false)), .ic .geq (.t 10) (.c (.int .u8 65))⟩, ⟨(some 12), (some (9, false)), .mv (.t 11)⟩, ⟨(some 13), (some (12, true)), .mv (.t 0)⟩, ⟨(some 14), (some (12, true)), .ic .leq (.t 13) (.c (.int .u8 90))⟩, ⟨(some 15), (some (9, false)), .pick (.t 12) (.t 14) (.c (.bool false))⟩, ⟨(some 16), none, .pick (.t 9) (.c (.bool true)) (.t 15)⟩, ⟨(some 17), none, .mv (.t 16)⟩, ⟨(some 18), (some (17, false)), .mv (.t 0)⟩, ⟨(some 19), (some (17, false)), .ic .eql (.t 18) (.c (.int .u8 95))⟩, ⟨(some 20), none, .pick (.t 17) (.c (.bool true)) (.t 19)⟩, ⟨(some 2), none, .mv (.t 20)⟩])
  (.ret))
theorem comp38 : comp tt esc38 (Tryd.f38.body.getD .skip) = cc38 := by kernel_rfl
theorem has38 : Has Tryd.prog 38 := ⟨_, Tryd.func38, by kernel_rfl, by decide⟩
theorem enter38 (a0 : AV) {M : Mem} {R : AEnd → Mem → Prop} (h : CWp none Tryd.prog tt esc38 cc38 (Am.Fin Tryd.prog Tryd.f38 R) { tmps := [.v a0, .junk, .junk, .junk, .junk, .junk, .junk, .junk, .junk, .junk, .junk, .junk, .junk, .junk, .junk, .junk, .junk, .junk, .junk, .junk, .junk], loc := [], rows := [], defs := [], M := M }) : ACalls Tryd.prog 38 [a0] M R := ACalls.of 20 cc38 Tryd.func38 (by kernel_rfl) rfl comp38 h

def lp40_0 (x0 x1 x7 x8 : TV) : List TV := [x0, x1, .junk, .junk, .junk, .junk, .junk, x7, x8, .junk, .junk, .junk, .junk, .junk, .junk, .junk, .junk, .junk, .junk]

/-- slices.IndexFunc[[]euclid/api.Decl,euclid/api.Decl] (2 parameters, 0 captured, 19 slots) -/
def esc40 : List Nat := []
def cc40_l0 : CC :=
  .seq (.reg false [⟨(some 9), none, .ic .lss (.t 8) (.t 7)⟩])
    (.seq (.cond (.t 9)
     (.skip)
     (.exit 0))
    (.seq (.block 1 (.seq (.reg false [⟨(some 10), none, .mv (.t 8)⟩, ⟨(some 5), none, .mv (.t 10)⟩])
     (.seq (.reg false [⟨(some 11), none, .mv (.t 1)⟩, ⟨(some 12), none, .mv (.t 0)⟩, ⟨(some 13), none, .mv (.t 5)⟩, ⟨(some 14), none, .ia 23 (.t 12) (.t 13)⟩, ⟨(some 15), none, .ld 23 true (.t 14)⟩, ⟨(some 16), none, .callv (.t 11) [(.t 15)]⟩])
     (.cond (.t 16)
      (.seq (.reg false [⟨(some 17), none, .mv (.t 5)⟩, ⟨(some 4), none, .mv (.t 17)⟩])
      (.ret))
      (.skip)))))
    (.reg false [⟨(some 18), none, .ar .add (.t 8) (.c (.int .i64 1))⟩, ⟨(some 8), none, .mv (.t 18)⟩])))
def cc40 : CC :=
  .seq (.reg false [⟨(some 4), none, .mv (.c (.int .i64 0))⟩])
  (.seq (.seq (.reg false [⟨(some 6), none, .mv (.t 0)⟩, ⟨(some 7), none, .ln false (.t 6)⟩, ⟨(some 8), none, .mv (.c (.int .i64 0))⟩])
  (.block 0 (.loop (cc40_l0))))
  (.seq (.reg false [⟨(some 4), none, .mv (.c (.int .i64 (-1)))⟩])
  (.ret)))
theorem comp40 : comp tt esc40 (Tryd.f40.body.getD .skip) = cc40 := by kernel_rfl
theorem has40 : Has Tryd.prog 40 := ⟨_, Tryd.func40, by kernel_rfl, by decide⟩
theorem enter40 (a0 a1 : AV) {M : Mem} {R : AEnd → Mem → Prop} (h : CWp none Tryd.prog tt esc40 cc40 (Am.Fin Tryd.prog Tryd.f40 R) { tmps := [.v a0, .v a1, .junk, .junk, .junk, .junk, .junk, .junk, .junk, .junk, .junk, .junk, .junk, .junk, .junk, .junk, .junk, .junk, .junk], loc := [], rows := [], defs := [], M := M }) : ACalls Tryd.prog 40 [a0, a1] M R := ACalls.of 17 cc40 Tryd.func40 (by kernel_rfl) rfl comp40 h

def lp41_0 (x0 x1 x7 x8 : TV) : List TV := [x0, x1, .junk, .junk, .junk, .junk, .junk, x7, x8, .junk, .junk, .junk, .junk, .junk, .junk, .junk, .junk, .junk, .junk]

/-- slices.Index[[]string,string] (2 parameters, 0 captured, 19 slots) -/
def esc41 : List Nat := []
def cc41_l0 : CC :=
  .seq (.reg false [⟨(some 9), none, .ic .lss (.t 8) (.t 7)⟩])
    (.seq (.cond (.t 9)
     (.skip)
     (.exit 0))
    (.seq (.block 1 (.seq (.reg false [⟨(some 10), none, .mv (.t 8)⟩, ⟨(some 5), none, .mv (.t 10)⟩])
     (.seq (.reg false [⟨(some 11), none, .mv (.t 1)⟩, ⟨(some 12), none, .mv (.t 0)⟩, ⟨(some 13), none, .mv (.t 5)⟩, ⟨(some 14), none, .ia 1 (.t 12) (.t 13)⟩, ⟨(some 15), none, .ld 1 false (.t 14)⟩, ⟨(some 16), none, .sc .eql (.t 11) (.t 15)⟩])
     (.cond (.t 16)
      (.seq (.reg false [⟨(some 17), none, .mv (.t 5)⟩, ⟨(some 4), none, .mv (.t 17)⟩])
      (.ret))
      (.skip)))))
    (.reg false [⟨(some 18), none, .ar .add (.t 8) (.c (.int .i64 1))⟩, ⟨(some 8), none, .mv (.t 18)⟩])))
def cc41 : CC :=
  .seq (.reg false [⟨(some 4), none, .mv (.c (.int .i64 0))⟩])
  (.seq (.seq (.reg false [⟨(some 6), none, .mv (.t 0)⟩, ⟨(some 7), none, .ln false (.t 6)⟩, ⟨(some 8), none, .mv (.c (.int .i64 0))⟩])
  (.block 0 (.loop (cc41_l0))))
  (.seq (.reg false [⟨(some 4), none, .mv (.c (.int .i64 (-1)))⟩])
  (.ret)))
theorem comp41 : comp tt esc41 (Tryd.f41.body.getD .skip) = cc41 := by kernel_rfl
theorem has41 : Has Tryd.prog 41 := ⟨_, Tryd.func41, by kernel_rfl, by decide⟩
theorem enter41 (a0 a1 : AV) {M : Mem} {R : AEnd → Mem → Prop} (h : CWp none Tryd.prog tt esc41 cc41 (Am.Fin Tryd.prog Tryd.f41 R) { tmps := [.v a0, .v a1, .junk, .junk, .junk, .junk, .junk, .junk, .junk, .junk, .junk, .junk, .junk, .junk, .junk, .junk, .junk, .junk, .junk], loc := [], rows := [], defs := [], M := M }) : ACalls Tryd.prog 41 [a0, a1] M R := ACalls.of 17 cc41 Tryd.func41 (by kernel_rfl) rfl comp41 h
end Go.Proofs.ScA
