import Derived.Test.YtpephlhhdefdgaaDoorProg
import Derived.Test.YtpephlhhdefdgaaDoorAmX
import Derived.KernelRfl
set_option linter.unusedVariables false
set_option maxRecDepth 100000
namespace Go.Proofs.ScA
open Go Go.Am Go.Proofs
noncomputable def tl : List (Nat × TI) := [
  (1, ⟨Tryd.t1.desc, 1, 8, .nilfn⟩),
  (2, ⟨Tryd.t2.desc, 1, 8, (.int .i64 0)⟩),
  (3, ⟨Tryd.t3.desc, 1, 8, (.int .i64 0)⟩),
  (4, ⟨Tryd.t4.desc, 1, 1, (.bool false)⟩),
  (5, ⟨Tryd.t5.desc, 1, 1, (.int .u8 0)⟩),
  (6, ⟨Tryd.t5.desc, 1, 1, (.int .u8 0)⟩),
  (7, ⟨Tryd.t7.desc, 4, 24, (.agg [(.int .i64 0), (.int .i64 0), (.bool false), (.int .u8 0)])⟩),
  (8, ⟨Tryd.t7.desc, 4, 24, (.agg [(.int .i64 0), (.int .i64 0), (.bool false), (.int .u8 0)])⟩),
  (9, ⟨Tryd.t9.desc, 1, 16, (.str [])⟩),
  (10, ⟨Tryd.t9.desc, 1, 16, (.str [])⟩),
  (11, ⟨Tryd.t9.desc, 1, 16, (.str [])⟩),
  (12, ⟨Tryd.t12.desc, 1, 8, (.int .u64 0)⟩),
  (13, ⟨Tryd.t13.desc, 2, 24, (.agg [(.str []), (.int .u64 0)])⟩),
  (14, ⟨Tryd.t13.desc, 2, 24, (.agg [(.str []), (.int .u64 0)])⟩),
  (15, ⟨Tryd.t15.desc, 1, 8, .nilp⟩),
  (16, ⟨Tryd.t16.desc, 1, 8, .nilp⟩),
  (17, ⟨Tryd.t17.desc, 1, 8, .nilp⟩),
  (18, ⟨Tryd.t18.desc, 1, 8, (.agg [.nilp])⟩),
  (19, ⟨Tryd.t18.desc, 1, 8, (.agg [.nilp])⟩),
  (20, ⟨Tryd.t20.desc, 1, 16, .niliface⟩),
  (21, ⟨Tryd.t21.desc, 1, 4, (.int .i32 0)⟩),
  (22, ⟨Tryd.t22.desc, 1, 24, (.sl .full 23 [])⟩),
  (23, ⟨Tryd.t23.desc, 1, 24, (.sl .full 2 [])⟩),
  (24, ⟨Tryd.t24.desc, 1, 24, (.sl .full 1 [])⟩),
  (25, ⟨Tryd.t25.desc, 1, 24, (.sl .full 4 [])⟩),
  (26, ⟨Tryd.t26.desc, 7, 168, (.agg [(.sl .full 23 []), (.sl .full 2 []), (.sl .full 1 []), (.sl .full 1 []), (.sl .full 4 []), (.sl .full 1 []), (.sl .full 1 [])])⟩),
  (27, ⟨Tryd.t26.desc, 7, 168, (.agg [(.sl .full 23 []), (.sl .full 2 []), (.sl .full 1 []), (.sl .full 1 []), (.sl .full 4 []), (.sl .full 1 []), (.sl .full 1 [])])⟩),
  (28, ⟨Tryd.t28.desc, 1, 8, .nilfn⟩),
  (29, ⟨Tryd.t29.desc, 1, 8, .nilfn⟩),
  (30, ⟨Tryd.t3.desc, 1, 8, (.int .i64 0)⟩),
  (32, ⟨Tryd.t32.desc, 1, 8, .nilfn⟩),
  (34, ⟨Tryd.t34.desc, 1, 8, .nilfn⟩),
  (35, ⟨Tryd.t35.desc, 1, 8, .nilfn⟩),
  (36, ⟨Tryd.t36.desc, 1, 8, .nilfn⟩),
  (37, ⟨Tryd.t37.desc, 1, 24, (.sl .full 2 [])⟩),
  (38, ⟨Tryd.t38.desc, 1, 24, (.sl .full 5 [])⟩),
  (39, ⟨Tryd.t39.desc, 5, 80, (.agg [(.int .i64 0), (.int .i64 0), (.str []), (.sl .full 2 []), (.sl .full 5 [])])⟩),
  (40, ⟨Tryd.t39.desc, 5, 80, (.agg [(.int .i64 0), (.int .i64 0), (.str []), (.sl .full 2 []), (.sl .full 5 [])])⟩),
  (41, ⟨Tryd.t41.desc, 1, 24, (.sl .full 6 [])⟩),
  (42, ⟨Tryd.t42.desc, 7, 112, (.agg [(.int .i64 0), (.int .i64 0), (.int .i64 0), (.str []), (.sl .full 2 []), (.sl .full 5 []), (.sl .full 5 [])])⟩),
  (43, ⟨Tryd.t42.desc, 7, 112, (.agg [(.int .i64 0), (.int .i64 0), (.int .i64 0), (.str []), (.sl .full 2 []), (.sl .full 5 []), (.sl .full 5 [])])⟩),
  (44, ⟨Tryd.t44.desc, 1, 24, (.sl .full 15 [])⟩),
  (45, ⟨Tryd.t45.desc, 23, 360, (.agg [(.int .i64 0), (.str []), (.int .i64 0), (.int .i64 0), (.int .i64 0), (.str []), (.sl .full 2 []), (.sl .full 5 []), (.int .i64 0), (.int .i64 0), (.str []), (.sl .full 2 []), (.sl .full 5 []), (.int .i64 0), (.sl .full 6 []), (.int .i64 0), (.int .i64 0), (.int .i64 0), (.str []), (.sl .full 2 []), (.sl .full 5 []), (.sl .full 5 []), (.sl .full 15 [])])⟩),
  (46, ⟨Tryd.t45.desc, 23, 360, (.agg [(.int .i64 0), (.str []), (.int .i64 0), (.int .i64 0), (.int .i64 0), (.str []), (.sl .full 2 []), (.sl .full 5 []), (.int .i64 0), (.int .i64 0), (.str []), (.sl .full 2 []), (.sl .full 5 []), (.int .i64 0), (.sl .full 6 []), (.int .i64 0), (.int .i64 0), (.int .i64 0), (.str []), (.sl .full 2 []), (.sl .full 5 []), (.sl .full 5 []), (.sl .full 15 [])])⟩),
  (47, ⟨Tryd.t47.desc, 6, 96, (.agg [(.str []), (.int .i64 0), (.int .i64 0), (.str []), (.sl .full 2 []), (.sl .full 5 [])])⟩),
  (48, ⟨Tryd.t47.desc, 6, 96, (.agg [(.str []), (.int .i64 0), (.int .i64 0), (.str []), (.sl .full 2 []), (.sl .full 5 [])])⟩),
  (49, ⟨Tryd.t49.desc, 1, 24, (.sl .full 10 [])⟩),
  (50, ⟨Tryd.t50.desc, 8, 120, (.agg [(.int .i64 0), (.int .i64 0), (.int .i64 0), (.str []), (.sl .full 2 []), (.sl .full 5 []), (.int .i64 0), (.sl .full 10 [])])⟩),
  (51, ⟨Tryd.t50.desc, 8, 120, (.agg [(.int .i64 0), (.int .i64 0), (.int .i64 0), (.str []), (.sl .full 2 []), (.sl .full 5 []), (.int .i64 0), (.sl .full 10 [])])⟩),
  (52, ⟨Tryd.t52.desc, 15, 224, (.agg [(.str []), (.int .i64 0), (.int .i64 0), (.str []), (.sl .full 2 []), (.sl .full 5 []), (.int .i64 0), (.int .i64 0), (.int .i64 0), (.int .i64 0), (.str []), (.sl .full 2 []), (.sl .full 5 []), (.int .i64 0), (.sl .full 10 [])])⟩),
  (53, ⟨Tryd.t52.desc, 15, 224, (.agg [(.str []), (.int .i64 0), (.int .i64 0), (.str []), (.sl .full 2 []), (.sl .full 5 []), (.int .i64 0), (.int .i64 0), (.int .i64 0), (.int .i64 0), (.str []), (.sl .full 2 []), (.sl .full 5 []), (.int .i64 0), (.sl .full 10 [])])⟩),
  (54, ⟨Tryd.t54.desc, 1, 8, .nilfn⟩),
  (55, ⟨Tryd.t55.desc, 1, 8, .nilfn⟩),
  (56, ⟨Tryd.t56.desc, 1, 8, .nilfn⟩),
  (57, ⟨Tryd.t57.desc, 1, 8, .nilfn⟩),
  (58, ⟨Tryd.t58.desc, 1, 8, .nilfn⟩),
  (59, ⟨Tryd.t59.desc, 1, 8, .nilfn⟩),
  (60, ⟨Tryd.t60.desc, 1, 8, .nilfn⟩),
  (61, ⟨Tryd.t24.desc, 1, 24, (.sl .full 1 [])⟩),
  (62, ⟨Tryd.t62.desc, 1, 8, .nilfn⟩),
  (63, ⟨Tryd.t63.desc, 1, 8, .nilfn⟩),
  (64, ⟨Tryd.t64.desc, 1, 8, .nilfn⟩),
  (65, ⟨Tryd.t65.desc, 1, 8, .nilfn⟩),
  (66, ⟨Tryd.t66.desc, 1, 8, .nilfn⟩),
  (67, ⟨Tryd.t67.desc, 1, 8, .nilfn⟩),
  (68, ⟨Tryd.t68.desc, 1, 8, .nilfn⟩),
  (69, ⟨Tryd.t69.desc, 1, 8, .nilfn⟩),
  (70, ⟨Tryd.t70.desc, 1, 8, .nilfn⟩),
  (71, ⟨Tryd.t71.desc, 1, 8, .nilfn⟩),
  (72, ⟨Tryd.t72.desc, 1, 8, .nilfn⟩),
  (73, ⟨Tryd.t73.desc, 1, 8, .nilfn⟩),
  (74, ⟨Tryd.t74.desc, 1, 8, .nilfn⟩),
  (75, ⟨Tryd.t75.desc, 1, 8, .nilfn⟩),
  (76, ⟨Tryd.t76.desc, 1, 8, .nilfn⟩),
  (77, ⟨Tryd.t77.desc, 1, 8, .nilfn⟩),
  (78, ⟨Tryd.t78.desc, 1, 8, .nilfn⟩),
  (79, ⟨Tryd.t79.desc, 1, 8, .nilfn⟩),
  (80, ⟨Tryd.t80.desc, 1, 8, .nilp⟩),
  (81, ⟨Tryd.t81.desc, 1, 24, (.sl .full 1 [])⟩),
  (82, ⟨Tryd.t82.desc, 2, 32, (.agg [.nilp, (.sl .full 1 [])])⟩),
  (83, ⟨Tryd.t82.desc, 2, 32, (.agg [.nilp, (.sl .full 1 [])])⟩),
  (84, ⟨Tryd.t84.desc, 1, 8, .nilfn⟩),
  (85, ⟨Tryd.t85.desc, 1, 16, .niliface⟩),
  (86, ⟨Tryd.t85.desc, 1, 16, .niliface⟩),
  (88, ⟨Tryd.t88.desc, 1, 8, .nilfn⟩),
  (89, ⟨Tryd.t89.desc, 1, 8, .nilfn⟩),
  (90, ⟨Tryd.t90.desc, 1, 8, .nilfn⟩),
  (91, ⟨Tryd.t91.desc, 1, 8, .nilfn⟩),
  (92, ⟨Tryd.t92.desc, 1, 8, .nilp⟩),
  (93, ⟨Tryd.t93.desc, 1, 8, .nilfn⟩),
  (95, ⟨Tryd.t95.desc, 1, 8, .nilfn⟩),
  (96, ⟨Tryd.t96.desc, 1, 8, .nilfn⟩),
  (97, ⟨Tryd.t97.desc, 1, 8, .nilp⟩),
  (98, ⟨Tryd.t98.desc, 1, 8, .nilfn⟩),
  (99, ⟨Tryd.t99.desc, 1, 8, .nilfn⟩),
  (100, ⟨Tryd.t100.desc, 1, 8, .nilfn⟩),
  (101, ⟨Tryd.t101.desc, 1, 8, (.int .u64 0)⟩),
  (103, ⟨Tryd.t103.desc, 2, 2, (.agg [(.int .u8 0), (.int .u8 0)])⟩),
  (104, ⟨Tryd.t103.desc, 2, 2, (.agg [(.int .u8 0), (.int .u8 0)])⟩),
  (105, ⟨Tryd.t105.desc, 32, 32, (.agg [(.int .u8 0), (.int .u8 0), (.int .u8 0), (.int .u8 0), (.int .u8 0), (.int .u8 0), (.int .u8 0), (.int .u8 0), (.int .u8 0), (.int .u8 0), (.int .u8 0), (.int .u8 0), (.int .u8 0), (.int .u8 0), (.int .u8 0), (.int .u8 0), (.int .u8 0), (.int .u8 0), (.int .u8 0), (.int .u8 0), (.int .u8 0), (.int .u8 0), (.int .u8 0), (.int .u8 0), (.int .u8 0), (.int .u8 0), (.int .u8 0), (.int .u8 0), (.int .u8 0), (.int .u8 0), (.int .u8 0), (.int .u8 0)])⟩),
  (106, ⟨Tryd.t106.desc, 1, 4, (.int .u32 0)⟩),
  (108, ⟨Tryd.t108.desc, 1, 8, .nilfn⟩),
  (109, ⟨Tryd.t109.desc, 4, 40, (.agg [.nilp, .nilp, .nilp, (.str [])])⟩),
  (110, ⟨Tryd.t109.desc, 4, 40, (.agg [.nilp, .nilp, .nilp, (.str [])])⟩),
  (111, ⟨Tryd.t111.desc, 0, 0, (.agg [])⟩),
  (112, ⟨Tryd.t112.desc, 0, 0, (.agg [])⟩),
  (113, ⟨Tryd.t112.desc, 0, 0, (.agg [])⟩),
  (114, ⟨Tryd.t114.desc, 1, 8, .nilfn⟩),
  (115, ⟨Tryd.t5.desc, 1, 1, (.int .u8 0)⟩),
  (116, ⟨Tryd.t5.desc, 1, 1, (.int .u8 0)⟩),
  (117, ⟨Tryd.t117.desc, 1, 8, .nilfn⟩),
  (118, ⟨Tryd.t21.desc, 1, 4, (.int .i32 0)⟩),
  (119, ⟨Tryd.t21.desc, 1, 4, (.int .i32 0)⟩),
  (120, ⟨Tryd.t120.desc, 11, 48, (.agg [(.int .u64 0), (.int .u64 0), (.int .u32 0), (.int .u8 0), (.int .u8 0), (.int .u8 0), (.int .u8 0), .nilfn, .nilp, (.int .i32 0), (.int .i32 0)])⟩),
  (121, ⟨Tryd.t120.desc, 11, 48, (.agg [(.int .u64 0), (.int .u64 0), (.int .u32 0), (.int .u8 0), (.int .u8 0), (.int .u8 0), (.int .u8 0), .nilfn, .nilp, (.int .i32 0), (.int .i32 0)])⟩),
  (122, ⟨Tryd.t122.desc, 1, 24, (.sl .full 1 [])⟩),
  (123, ⟨Tryd.t123.desc, 2, 40, (.agg [(.str []), (.sl .full 1 [])])⟩),
  (124, ⟨Tryd.t123.desc, 2, 40, (.agg [(.str []), (.sl .full 1 [])])⟩),
  (125, ⟨Tryd.t125.desc, 4, 56, (.agg [(.sl .full 1 []), (.int .i64 0), (.int .i64 0), (.str [])])⟩),
  (126, ⟨Tryd.t125.desc, 4, 56, (.agg [(.sl .full 1 []), (.int .i64 0), (.int .i64 0), (.str [])])⟩),
  (127, ⟨Tryd.t127.desc, 1, 24, (.sl .full 2 [])⟩),
  (128, ⟨Tryd.t128.desc, 2, 32, (.agg [(.int .i64 0), (.sl .full 2 [])])⟩),
  (129, ⟨Tryd.t128.desc, 2, 32, (.agg [(.int .i64 0), (.sl .full 2 [])])⟩),
  (130, ⟨Tryd.t130.desc, 10, 144, (.agg [(.str []), (.bool false), (.int .i64 0), (.int .i64 0), (.int .i64 0), (.str []), (.sl .full 2 []), (.sl .full 5 []), (.int .i64 0), (.sl .full 10 [])])⟩),
  (131, ⟨Tryd.t130.desc, 10, 144, (.agg [(.str []), (.bool false), (.int .i64 0), (.int .i64 0), (.int .i64 0), (.str []), (.sl .full 2 []), (.sl .full 5 []), (.int .i64 0), (.sl .full 10 [])])⟩),
  (132, ⟨Tryd.t132.desc, 2, 16, (.agg [(.int .i64 0), (.int .i64 0)])⟩),
  (133, ⟨Tryd.t132.desc, 2, 16, (.agg [(.int .i64 0), (.int .i64 0)])⟩)]
noncomputable def tt : TT := lookT tl

theorem tok1 : TIOk Tryd.prog 1 ⟨Tryd.t1.desc, 1, 8, .nilfn⟩ := ⟨Tryd.underlying1, Tryd.t1, _, by kernel_rfl, rfl, rfl, rfl, rfl, rfl⟩
theorem tok2 : TIOk Tryd.prog 2 ⟨Tryd.t2.desc, 1, 8, (.int .i64 0)⟩ := ⟨Tryd.underlying2, Tryd.t2, _, by kernel_rfl, rfl, rfl, rfl, rfl, rfl⟩
theorem tok3 : TIOk Tryd.prog 3 ⟨Tryd.t3.desc, 1, 8, (.int .i64 0)⟩ := ⟨Tryd.underlying3, Tryd.t3, _, by kernel_rfl, rfl, rfl, rfl, rfl, rfl⟩
theorem tok4 : TIOk Tryd.prog 4 ⟨Tryd.t4.desc, 1, 1, (.bool false)⟩ := ⟨Tryd.underlying4, Tryd.t4, _, by kernel_rfl, rfl, rfl, rfl, rfl, rfl⟩
theorem tok5 : TIOk Tryd.prog 5 ⟨Tryd.t5.desc, 1, 1, (.int .u8 0)⟩ := ⟨Tryd.underlying5, Tryd.t5, _, by kernel_rfl, rfl, rfl, rfl, rfl, rfl⟩
theorem tok6 : TIOk Tryd.prog 6 ⟨Tryd.t5.desc, 1, 1, (.int .u8 0)⟩ := ⟨Tryd.underlying6, Tryd.t6, _, by kernel_rfl, rfl, rfl, rfl, rfl, rfl⟩
theorem tok7 : TIOk Tryd.prog 7 ⟨Tryd.t7.desc, 4, 24, (.agg [(.int .i64 0), (.int .i64 0), (.bool false), (.int .u8 0)])⟩ := ⟨Tryd.underlying7, Tryd.t7, _, by kernel_rfl, rfl, rfl, rfl, rfl, rfl⟩
theorem tok8 : TIOk Tryd.prog 8 ⟨Tryd.t7.desc, 4, 24, (.agg [(.int .i64 0), (.int .i64 0), (.bool false), (.int .u8 0)])⟩ := ⟨Tryd.underlying8, Tryd.t8, _, by kernel_rfl, rfl, rfl, rfl, rfl, rfl⟩
theorem tok9 : TIOk Tryd.prog 9 ⟨Tryd.t9.desc, 1, 16, (.str [])⟩ := ⟨Tryd.underlying9, Tryd.t9, _, by kernel_rfl, rfl, rfl, rfl, rfl, rfl⟩
theorem tok10 : TIOk Tryd.prog 10 ⟨Tryd.t9.desc, 1, 16, (.str [])⟩ := ⟨Tryd.underlying10, Tryd.t10, _, by kernel_rfl, rfl, rfl, rfl, rfl, rfl⟩
theorem tok11 : TIOk Tryd.prog 11 ⟨Tryd.t9.desc, 1, 16, (.str [])⟩ := ⟨Tryd.underlying11, Tryd.t11, _, by kernel_rfl, rfl, rfl, rfl, rfl, rfl⟩
theorem tok12 : TIOk Tryd.prog 12 ⟨Tryd.t12.desc, 1, 8, (.int .u64 0)⟩ := ⟨Tryd.underlying12, Tryd.t12, _, by kernel_rfl, rfl, rfl, rfl, rfl, rfl⟩
theorem tok13 : TIOk Tryd.prog 13 ⟨Tryd.t13.desc, 2, 24, (.agg [(.str []), (.int .u64 0)])⟩ := ⟨Tryd.underlying13, Tryd.t13, _, by kernel_rfl, rfl, rfl, rfl, rfl, rfl⟩
theorem tok14 : TIOk Tryd.prog 14 ⟨Tryd.t13.desc, 2, 24, (.agg [(.str []), (.int .u64 0)])⟩ := ⟨Tryd.underlying14, Tryd.t14, _, by kernel_rfl, rfl, rfl, rfl, rfl, rfl⟩
theorem tok15 : TIOk Tryd.prog 15 ⟨Tryd.t15.desc, 1, 8, .nilp⟩ := ⟨Tryd.underlying15, Tryd.t15, _, by kernel_rfl, rfl, rfl, rfl, rfl, rfl⟩
theorem tok16 : TIOk Tryd.prog 16 ⟨Tryd.t16.desc, 1, 8, .nilp⟩ := ⟨Tryd.underlying16, Tryd.t16, _, by kernel_rfl, rfl, rfl, rfl, rfl, rfl⟩
theorem tok17 : TIOk Tryd.prog 17 ⟨Tryd.t17.desc, 1, 8, .nilp⟩ := ⟨Tryd.underlying17, Tryd.t17, _, by kernel_rfl, rfl, rfl, rfl, rfl, rfl⟩
theorem tok18 : TIOk Tryd.prog 18 ⟨Tryd.t18.desc, 1, 8, (.agg [.nilp])⟩ := ⟨Tryd.underlying18, Tryd.t18, _, by kernel_rfl, rfl, rfl, rfl, rfl, rfl⟩
theorem tok19 : TIOk Tryd.prog 19 ⟨Tryd.t18.desc, 1, 8, (.agg [.nilp])⟩ := ⟨Tryd.underlying19, Tryd.t19, _, by kernel_rfl, rfl, rfl, rfl, rfl, rfl⟩
theorem tok20 : TIOk Tryd.prog 20 ⟨Tryd.t20.desc, 1, 16, .niliface⟩ := ⟨Tryd.underlying20, Tryd.t20, _, by kernel_rfl, rfl, rfl, rfl, rfl, rfl⟩
theorem tok21 : TIOk Tryd.prog 21 ⟨Tryd.t21.desc, 1, 4, (.int .i32 0)⟩ := ⟨Tryd.underlying21, Tryd.t21, _, by kernel_rfl, rfl, rfl, rfl, rfl, rfl⟩
theorem tok22 : TIOk Tryd.prog 22 ⟨Tryd.t22.desc, 1, 24, (.sl .full 23 [])⟩ := ⟨Tryd.underlying22, Tryd.t22, _, by kernel_rfl, rfl, rfl, rfl, rfl, rfl⟩
theorem tok23 : TIOk Tryd.prog 23 ⟨Tryd.t23.desc, 1, 24, (.sl .full 2 [])⟩ := ⟨Tryd.underlying23, Tryd.t23, _, by kernel_rfl, rfl, rfl, rfl, rfl, rfl⟩
theorem tok24 : TIOk Tryd.prog 24 ⟨Tryd.t24.desc, 1, 24, (.sl .full 1 [])⟩ := ⟨Tryd.underlying24, Tryd.t24, _, by kernel_rfl, rfl, rfl, rfl, rfl, rfl⟩
theorem tok25 : TIOk Tryd.prog 25 ⟨Tryd.t25.desc, 1, 24, (.sl .full 4 [])⟩ := ⟨Tryd.underlying25, Tryd.t25, _, by kernel_rfl, rfl, rfl, rfl, rfl, rfl⟩
theorem tok26 : TIOk Tryd.prog 26 ⟨Tryd.t26.desc, 7, 168, (.agg [(.sl .full 23 []), (.sl .full 2 []), (.sl .full 1 []), (.sl .full 1 []), (.sl .full 4 []), (.sl .full 1 []), (.sl .full 1 [])])⟩ := ⟨Tryd.underlying26, Tryd.t26, _, by kernel_rfl, rfl, rfl, rfl, rfl, rfl⟩
theorem tok27 : TIOk Tryd.prog 27 ⟨Tryd.t26.desc, 7, 168, (.agg [(.sl .full 23 []), (.sl .full 2 []), (.sl .full 1 []), (.sl .full 1 []), (.sl .full 4 []), (.sl .full 1 []), (.sl .full 1 [])])⟩ := ⟨Tryd.underlying27, Tryd.t27, _, by kernel_rfl, rfl, rfl, rfl, rfl, rfl⟩
theorem tok28 : TIOk Tryd.prog 28 ⟨Tryd.t28.desc, 1, 8, .nilfn⟩ := ⟨Tryd.underlying28, Tryd.t28, _, by kernel_rfl, rfl, rfl, rfl, rfl, rfl⟩
theorem tok29 : TIOk Tryd.prog 29 ⟨Tryd.t29.desc, 1, 8, .nilfn⟩ := ⟨Tryd.underlying29, Tryd.t29, _, by kernel_rfl, rfl, rfl, rfl, rfl, rfl⟩
theorem tok30 : TIOk Tryd.prog 30 ⟨Tryd.t3.desc, 1, 8, (.int .i64 0)⟩ := ⟨Tryd.underlying30, Tryd.t30, _, by kernel_rfl, rfl, rfl, rfl, rfl, rfl⟩
theorem tok32 : TIOk Tryd.prog 32 ⟨Tryd.t32.desc, 1, 8, .nilfn⟩ := ⟨Tryd.underlying32, Tryd.t32, _, by kernel_rfl, rfl, rfl, rfl, rfl, rfl⟩
theorem tok34 : TIOk Tryd.prog 34 ⟨Tryd.t34.desc, 1, 8, .nilfn⟩ := ⟨Tryd.underlying34, Tryd.t34, _, by kernel_rfl, rfl, rfl, rfl, rfl, rfl⟩
theorem tok35 : TIOk Tryd.prog 35 ⟨Tryd.t35.desc, 1, 8, .nilfn⟩ := ⟨Tryd.underlying35, Tryd.t35, _, by kernel_rfl, rfl, rfl, rfl, rfl, rfl⟩
theorem tok36 : TIOk Tryd.prog 36 ⟨Tryd.t36.desc, 1, 8, .nilfn⟩ := ⟨Tryd.underlying36, Tryd.t36, _, by kernel_rfl, rfl, rfl, rfl, rfl, rfl⟩
theorem tok37 : TIOk Tryd.prog 37 ⟨Tryd.t37.desc, 1, 24, (.sl .full 2 [])⟩ := ⟨Tryd.underlying37, Tryd.t37, _, by kernel_rfl, rfl, rfl, rfl, rfl, rfl⟩
theorem tok38 : TIOk Tryd.prog 38 ⟨Tryd.t38.desc, 1, 24, (.sl .full 5 [])⟩ := ⟨Tryd.underlying38, Tryd.t38, _, by kernel_rfl, rfl, rfl, rfl, rfl, rfl⟩
theorem tok39 : TIOk Tryd.prog 39 ⟨Tryd.t39.desc, 5, 80, (.agg [(.int .i64 0), (.int .i64 0), (.str []), (.sl .full 2 []), (.sl .full 5 [])])⟩ := ⟨Tryd.underlying39, Tryd.t39, _, by kernel_rfl, rfl, rfl, rfl, rfl, rfl⟩
theorem tok40 : TIOk Tryd.prog 40 ⟨Tryd.t39.desc, 5, 80, (.agg [(.int .i64 0), (.int .i64 0), (.str []), (.sl .full 2 []), (.sl .full 5 [])])⟩ := ⟨Tryd.underlying40, Tryd.t40, _, by kernel_rfl, rfl, rfl, rfl, rfl, rfl⟩
theorem tok41 : TIOk Tryd.prog 41 ⟨Tryd.t41.desc, 1, 24, (.sl .full 6 [])⟩ := ⟨Tryd.underlying41, Tryd.t41, _, by kernel_rfl, rfl, rfl, rfl, rfl, rfl⟩
theorem tok42 : TIOk Tryd.prog 42 ⟨Tryd.t42.desc, 7, 112, (.agg [(.int .i64 0), (.int .i64 0), (.int .i64 0), (.str []), (.sl .full 2 []), (.sl .full 5 []), (.sl .full 5 [])])⟩ := ⟨Tryd.underlying42, Tryd.t42, _, by kernel_rfl, rfl, rfl, rfl, rfl, rfl⟩
theorem tok43 : TIOk Tryd.prog 43 ⟨Tryd.t42.desc, 7, 112, (.agg [(.int .i64 0), (.int .i64 0), (.int .i64 0), (.str []), (.sl .full 2 []), (.sl .full 5 []), (.sl .full 5 [])])⟩ := ⟨Tryd.underlying43, Tryd.t43, _, by kernel_rfl, rfl, rfl, rfl, rfl, rfl⟩
theorem tok44 : TIOk Tryd.prog 44 ⟨Tryd.t44.desc, 1, 24, (.sl .full 15 [])⟩ := ⟨Tryd.underlying44, Tryd.t44, _, by kernel_rfl, rfl, rfl, rfl, rfl, rfl⟩
theorem tok45 : TIOk Tryd.prog 45 ⟨Tryd.t45.desc, 23, 360, (.agg [(.int .i64 0), (.str []), (.int .i64 0), (.int .i64 0), (.int .i64 0), (.str []), (.sl .full 2 []), (.sl .full 5 []), (.int .i64 0), (.int .i64 0), (.str []), (.sl .full 2 []), (.sl .full 5 []), (.int .i64 0), (.sl .full 6 []), (.int .i64 0), (.int .i64 0), (.int .i64 0), (.str []), (.sl .full 2 []), (.sl .full 5 []), (.sl .full 5 []), (.sl .full 15 [])])⟩ := ⟨Tryd.underlying45, Tryd.t45, _, by kernel_rfl, rfl, rfl, rfl, rfl, rfl⟩
theorem tok46 : TIOk Tryd.prog 46 ⟨Tryd.t45.desc, 23, 360, (.agg [(.int .i64 0), (.str []), (.int .i64 0), (.int .i64 0), (.int .i64 0), (.str []), (.sl .full 2 []), (.sl .full 5 []), (.int .i64 0), (.int .i64 0), (.str []), (.sl .full 2 []), (.sl .full 5 []), (.int .i64 0), (.sl .full 6 []), (.int .i64 0), (.int .i64 0), (.int .i64 0), (.str []), (.sl .full 2 []), (.sl .full 5 []), (.sl .full 5 []), (.sl .full 15 [])])⟩ := ⟨Tryd.underlying46, Tryd.t46, _, by kernel_rfl, rfl, rfl, rfl, rfl, rfl⟩
theorem tok47 : TIOk Tryd.prog 47 ⟨Tryd.t47.desc, 6, 96, (.agg [(.str []), (.int .i64 0), (.int .i64 0), (.str []), (.sl .full 2 []), (.sl .full 5 [])])⟩ := ⟨Tryd.underlying47, Tryd.t47, _, by kernel_rfl, rfl, rfl, rfl, rfl, rfl⟩
theorem tok48 : TIOk Tryd.prog 48 ⟨Tryd.t47.desc, 6, 96, (.agg [(.str []), (.int .i64 0), (.int .i64 0), (.str []), (.sl .full 2 []), (.sl .full 5 [])])⟩ := ⟨Tryd.underlying48, Tryd.t48, _, by kernel_rfl, rfl, rfl, rfl, rfl, rfl⟩
theorem tok49 : TIOk Tryd.prog 49 ⟨Tryd.t49.desc, 1, 24, (.sl .full 10 [])⟩ := ⟨Tryd.underlying49, Tryd.t49, _, by kernel_rfl, rfl, rfl, rfl, rfl, rfl⟩
theorem tok50 : TIOk Tryd.prog 50 ⟨Tryd.t50.desc, 8, 120, (.agg [(.int .i64 0), (.int .i64 0), (.int .i64 0), (.str []), (.sl .full 2 []), (.sl .full 5 []), (.int .i64 0), (.sl .full 10 [])])⟩ := ⟨Tryd.underlying50, Tryd.t50, _, by kernel_rfl, rfl, rfl, rfl, rfl, rfl⟩
theorem tok51 : TIOk Tryd.prog 51 ⟨Tryd.t50.desc, 8, 120, (.agg [(.int .i64 0), (.int .i64 0), (.int .i64 0), (.str []), (.sl .full 2 []), (.sl .full 5 []), (.int .i64 0), (.sl .full 10 [])])⟩ := ⟨Tryd.underlying51, Tryd.t51, _, by kernel_rfl, rfl, rfl, rfl, rfl, rfl⟩
theorem tok52 : TIOk Tryd.prog 52 ⟨Tryd.t52.desc, 15, 224, (.agg [(.str []), (.int .i64 0), (.int .i64 0), (.str []), (.sl .full 2 []), (.sl .full 5 []), (.int .i64 0), (.int .i64 0), (.int .i64 0), (.int .i64 0), (.str []), (.sl .full 2 []), (.sl .full 5 []), (.int .i64 0), (.sl .full 10 [])])⟩ := ⟨Tryd.underlying52, Tryd.t52, _, by kernel_rfl, rfl, rfl, rfl, rfl, rfl⟩
theorem tok53 : TIOk Tryd.prog 53 ⟨Tryd.t52.desc, 15, 224, (.agg [(.str []), (.int .i64 0), (.int .i64 0), (.str []), (.sl .full 2 []), (.sl .full 5 []), (.int .i64 0), (.int .i64 0), (.int .i64 0), (.int .i64 0), (.str []), (.sl .full 2 []), (.sl .full 5 []), (.int .i64 0), (.sl .full 10 [])])⟩ := ⟨Tryd.underlying53, Tryd.t53, _, by kernel_rfl, rfl, rfl, rfl, rfl, rfl⟩
theorem tok54 : TIOk Tryd.prog 54 ⟨Tryd.t54.desc, 1, 8, .nilfn⟩ := ⟨Tryd.underlying54, Tryd.t54, _, by kernel_rfl, rfl, rfl, rfl, rfl, rfl⟩
theorem tok55 : TIOk Tryd.prog 55 ⟨Tryd.t55.desc, 1, 8, .nilfn⟩ := ⟨Tryd.underlying55, Tryd.t55, _, by kernel_rfl, rfl, rfl, rfl, rfl, rfl⟩
theorem tok56 : TIOk Tryd.prog 56 ⟨Tryd.t56.desc, 1, 8, .nilfn⟩ := ⟨Tryd.underlying56, Tryd.t56, _, by kernel_rfl, rfl, rfl, rfl, rfl, rfl⟩
theorem tok57 : TIOk Tryd.prog 57 ⟨Tryd.t57.desc, 1, 8, .nilfn⟩ := ⟨Tryd.underlying57, Tryd.t57, _, by kernel_rfl, rfl, rfl, rfl, rfl, rfl⟩
theorem tok58 : TIOk Tryd.prog 58 ⟨Tryd.t58.desc, 1, 8, .nilfn⟩ := ⟨Tryd.underlying58, Tryd.t58, _, by kernel_rfl, rfl, rfl, rfl, rfl, rfl⟩
theorem tok59 : TIOk Tryd.prog 59 ⟨Tryd.t59.desc, 1, 8, .nilfn⟩ := ⟨Tryd.underlying59, Tryd.t59, _, by kernel_rfl, rfl, rfl, rfl, rfl, rfl⟩
theorem tok60 : TIOk Tryd.prog 60 ⟨Tryd.t60.desc, 1, 8, .nilfn⟩ := ⟨Tryd.underlying60, Tryd.t60, _, by kernel_rfl, rfl, rfl, rfl, rfl, rfl⟩
theorem tok61 : TIOk Tryd.prog 61 ⟨Tryd.t24.desc, 1, 24, (.sl .full 1 [])⟩ := ⟨Tryd.underlying61, Tryd.t61, _, by kernel_rfl, rfl, rfl, rfl, rfl, rfl⟩
theorem tok62 : TIOk Tryd.prog 62 ⟨Tryd.t62.desc, 1, 8, .nilfn⟩ := ⟨Tryd.underlying62, Tryd.t62, _, by kernel_rfl, rfl, rfl, rfl, rfl, rfl⟩
theorem tok63 : TIOk Tryd.prog 63 ⟨Tryd.t63.desc, 1, 8, .nilfn⟩ := ⟨Tryd.underlying63, Tryd.t63, _, by kernel_rfl, rfl, rfl, rfl, rfl, rfl⟩
theorem tok64 : TIOk Tryd.prog 64 ⟨Tryd.t64.desc, 1, 8, .nilfn⟩ := ⟨Tryd.underlying64, Tryd.t64, _, by kernel_rfl, rfl, rfl, rfl, rfl, rfl⟩
theorem tok65 : TIOk Tryd.prog 65 ⟨Tryd.t65.desc, 1, 8, .nilfn⟩ := ⟨Tryd.underlying65, Tryd.t65, _, by kernel_rfl, rfl, rfl, rfl, rfl, rfl⟩
theorem tok66 : TIOk Tryd.prog 66 ⟨Tryd.t66.desc, 1, 8, .nilfn⟩ := ⟨Tryd.underlying66, Tryd.t66, _, by kernel_rfl, rfl, rfl, rfl, rfl, rfl⟩
theorem tok67 : TIOk Tryd.prog 67 ⟨Tryd.t67.desc, 1, 8, .nilfn⟩ := ⟨Tryd.underlying67, Tryd.t67, _, by kernel_rfl, rfl, rfl, rfl, rfl, rfl⟩
theorem tok68 : TIOk Tryd.prog 68 ⟨Tryd.t68.desc, 1, 8, .nilfn⟩ := ⟨Tryd.underlying68, Tryd.t68, _, by kernel_rfl, rfl, rfl, rfl, rfl, rfl⟩
theorem tok69 : TIOk Tryd.prog 69 ⟨Tryd.t69.desc, 1, 8, .nilfn⟩ := ⟨Tryd.underlying69, Tryd.t69, _, by kernel_rfl, rfl, rfl, rfl, rfl, rfl⟩
theorem tok70 : TIOk Tryd.prog 70 ⟨Tryd.t70.desc, 1, 8, .nilfn⟩ := ⟨Tryd.underlying70, Tryd.t70, _, by kernel_rfl, rfl, rfl, rfl, rfl, rfl⟩
theorem tok71 : TIOk Tryd.prog 71 ⟨Tryd.t71.desc, 1, 8, .nilfn⟩ := ⟨Tryd.underlying71, Tryd.t71, _, by kernel_rfl, rfl, rfl, rfl, rfl, rfl⟩
theorem tok72 : TIOk Tryd.prog 72 ⟨Tryd.t72.desc, 1, 8, .nilfn⟩ := ⟨Tryd.underlying72, Tryd.t72, _, by kernel_rfl, rfl, rfl, rfl, rfl, rfl⟩
theorem tok73 : TIOk Tryd.prog 73 ⟨Tryd.t73.desc, 1, 8, .nilfn⟩ := ⟨Tryd.underlying73, Tryd.t73, _, by kernel_rfl, rfl, rfl, rfl, rfl, rfl⟩
theorem tok74 : TIOk Tryd.prog 74 ⟨Tryd.t74.desc, 1, 8, .nilfn⟩ := ⟨Tryd.underlying74, Tryd.t74, _, by kernel_rfl, rfl, rfl, rfl, rfl, rfl⟩
theorem tok75 : TIOk Tryd.prog 75 ⟨Tryd.t75.desc, 1, 8, .nilfn⟩ := ⟨Tryd.underlying75, Tryd.t75, _, by kernel_rfl, rfl, rfl, rfl, rfl, rfl⟩
theorem tok76 : TIOk Tryd.prog 76 ⟨Tryd.t76.desc, 1, 8, .nilfn⟩ := ⟨Tryd.underlying76, Tryd.t76, _, by kernel_rfl, rfl, rfl, rfl, rfl, rfl⟩
theorem tok77 : TIOk Tryd.prog 77 ⟨Tryd.t77.desc, 1, 8, .nilfn⟩ := ⟨Tryd.underlying77, Tryd.t77, _, by kernel_rfl, rfl, rfl, rfl, rfl, rfl⟩
theorem tok78 : TIOk Tryd.prog 78 ⟨Tryd.t78.desc, 1, 8, .nilfn⟩ := ⟨Tryd.underlying78, Tryd.t78, _, by kernel_rfl, rfl, rfl, rfl, rfl, rfl⟩
theorem tok79 : TIOk Tryd.prog 79 ⟨Tryd.t79.desc, 1, 8, .nilfn⟩ := ⟨Tryd.underlying79, Tryd.t79, _, by kernel_rfl, rfl, rfl, rfl, rfl, rfl⟩
theorem tok80 : TIOk Tryd.prog 80 ⟨Tryd.t80.desc, 1, 8, .nilp⟩ := ⟨Tryd.underlying80, Tryd.t80, _, by kernel_rfl, rfl, rfl, rfl, rfl, rfl⟩
theorem tok81 : TIOk Tryd.prog 81 ⟨Tryd.t81.desc, 1, 24, (.sl .full 1 [])⟩ := ⟨Tryd.underlying81, Tryd.t81, _, by kernel_rfl, rfl, rfl, rfl, rfl, rfl⟩
theorem tok82 : TIOk Tryd.prog 82 ⟨Tryd.t82.desc, 2, 32, (.agg [.nilp, (.sl .full 1 [])])⟩ := ⟨Tryd.underlying82, Tryd.t82, _, by kernel_rfl, rfl, rfl, rfl, rfl, rfl⟩
theorem tok83 : TIOk Tryd.prog 83 ⟨Tryd.t82.desc, 2, 32, (.agg [.nilp, (.sl .full 1 [])])⟩ := ⟨Tryd.underlying83, Tryd.t83, _, by kernel_rfl, rfl, rfl, rfl, rfl, rfl⟩
theorem tok84 : TIOk Tryd.prog 84 ⟨Tryd.t84.desc, 1, 8, .nilfn⟩ := ⟨Tryd.underlying84, Tryd.t84, _, by kernel_rfl, rfl, rfl, rfl, rfl, rfl⟩
theorem tok85 : TIOk Tryd.prog 85 ⟨Tryd.t85.desc, 1, 16, .niliface⟩ := ⟨Tryd.underlying85, Tryd.t85, _, by kernel_rfl, rfl, rfl, rfl, rfl, rfl⟩
theorem tok86 : TIOk Tryd.prog 86 ⟨Tryd.t85.desc, 1, 16, .niliface⟩ := ⟨Tryd.underlying86, Tryd.t86, _, by kernel_rfl, rfl, rfl, rfl, rfl, rfl⟩
theorem tok88 : TIOk Tryd.prog 88 ⟨Tryd.t88.desc, 1, 8, .nilfn⟩ := ⟨Tryd.underlying88, Tryd.t88, _, by kernel_rfl, rfl, rfl, rfl, rfl, rfl⟩
theorem tok89 : TIOk Tryd.prog 89 ⟨Tryd.t89.desc, 1, 8, .nilfn⟩ := ⟨Tryd.underlying89, Tryd.t89, _, by kernel_rfl, rfl, rfl, rfl, rfl, rfl⟩
theorem tok90 : TIOk Tryd.prog 90 ⟨Tryd.t90.desc, 1, 8, .nilfn⟩ := ⟨Tryd.underlying90, Tryd.t90, _, by kernel_rfl, rfl, rfl, rfl, rfl, rfl⟩
theorem tok91 : TIOk Tryd.prog 91 ⟨Tryd.t91.desc, 1, 8, .nilfn⟩ := ⟨Tryd.underlying91, Tryd.t91, _, by kernel_rfl, rfl, rfl, rfl, rfl, rfl⟩
theorem tok92 : TIOk Tryd.prog 92 ⟨Tryd.t92.desc, 1, 8, .nilp⟩ := ⟨Tryd.underlying92, Tryd.t92, _, by kernel_rfl, rfl, rfl, rfl, rfl, rfl⟩
theorem tok93 : TIOk Tryd.prog 93 ⟨Tryd.t93.desc, 1, 8, .nilfn⟩ := ⟨Tryd.underlying93, Tryd.t93, _, by kernel_rfl, rfl, rfl, rfl, rfl, rfl⟩
theorem tok95 : TIOk Tryd.prog 95 ⟨Tryd.t95.desc, 1, 8, .nilfn⟩ := ⟨Tryd.underlying95, Tryd.t95, _, by kernel_rfl, rfl, rfl, rfl, rfl, rfl⟩
theorem tok96 : TIOk Tryd.prog 96 ⟨Tryd.t96.desc, 1, 8, .nilfn⟩ := ⟨Tryd.underlying96, Tryd.t96, _, by kernel_rfl, rfl, rfl, rfl, rfl, rfl⟩
theorem tok97 : TIOk Tryd.prog 97 ⟨Tryd.t97.desc, 1, 8, .nilp⟩ := ⟨Tryd.underlying97, Tryd.t97, _, by kernel_rfl, rfl, rfl, rfl, rfl, rfl⟩
theorem tok98 : TIOk Tryd.prog 98 ⟨Tryd.t98.desc, 1, 8, .nilfn⟩ := ⟨Tryd.underlying98, Tryd.t98, _, by kernel_rfl, rfl, rfl, rfl, rfl, rfl⟩
theorem tok99 : TIOk Tryd.prog 99 ⟨Tryd.t99.desc, 1, 8, .nilfn⟩ := ⟨Tryd.underlying99, Tryd.t99, _, by kernel_rfl, rfl, rfl, rfl, rfl, rfl⟩
theorem tok100 : TIOk Tryd.prog 100 ⟨Tryd.t100.desc, 1, 8, .nilfn⟩ := ⟨Tryd.underlying100, Tryd.t100, _, by kernel_rfl, rfl, rfl, rfl, rfl, rfl⟩
theorem tok101 : TIOk Tryd.prog 101 ⟨Tryd.t101.desc, 1, 8, (.int .u64 0)⟩ := ⟨Tryd.underlying101, Tryd.t101, _, by kernel_rfl, rfl, rfl, rfl, rfl, rfl⟩
theorem tok103 : TIOk Tryd.prog 103 ⟨Tryd.t103.desc, 2, 2, (.agg [(.int .u8 0), (.int .u8 0)])⟩ := ⟨Tryd.underlying103, Tryd.t103, _, by kernel_rfl, rfl, rfl, rfl, rfl, rfl⟩
theorem tok104 : TIOk Tryd.prog 104 ⟨Tryd.t103.desc, 2, 2, (.agg [(.int .u8 0), (.int .u8 0)])⟩ := ⟨Tryd.underlying104, Tryd.t104, _, by kernel_rfl, rfl, rfl, rfl, rfl, rfl⟩
theorem tok105 : TIOk Tryd.prog 105 ⟨Tryd.t105.desc, 32, 32, (.agg [(.int .u8 0), (.int .u8 0), (.int .u8 0), (.int .u8 0), (.int .u8 0), (.int .u8 0), (.int .u8 0), (.int .u8 0), (.int .u8 0), (.int .u8 0), (.int .u8 0), (.int .u8 0), (.int .u8 0), (.int .u8 0), (.int .u8 0), (.int .u8 0), (.int .u8 0), (.int .u8 0), (.int .u8 0), (.int .u8 0), (.int .u8 0), (.int .u8 0), (.int .u8 0), (.int .u8 0), (.int .u8 0), (.int .u8 0), (.int .u8 0), (.int .u8 0), (.int .u8 0), (.int .u8 0), (.int .u8 0), (.int .u8 0)])⟩ := ⟨Tryd.underlying105, Tryd.t105, _, by kernel_rfl, rfl, rfl, rfl, rfl, rfl⟩
theorem tok106 : TIOk Tryd.prog 106 ⟨Tryd.t106.desc, 1, 4, (.int .u32 0)⟩ := ⟨Tryd.underlying106, Tryd.t106, _, by kernel_rfl, rfl, rfl, rfl, rfl, rfl⟩
theorem tok108 : TIOk Tryd.prog 108 ⟨Tryd.t108.desc, 1, 8, .nilfn⟩ := ⟨Tryd.underlying108, Tryd.t108, _, by kernel_rfl, rfl, rfl, rfl, rfl, rfl⟩
theorem tok109 : TIOk Tryd.prog 109 ⟨Tryd.t109.desc, 4, 40, (.agg [.nilp, .nilp, .nilp, (.str [])])⟩ := ⟨Tryd.underlying109, Tryd.t109, _, by kernel_rfl, rfl, rfl, rfl, rfl, rfl⟩
theorem tok110 : TIOk Tryd.prog 110 ⟨Tryd.t109.desc, 4, 40, (.agg [.nilp, .nilp, .nilp, (.str [])])⟩ := ⟨Tryd.underlying110, Tryd.t110, _, by kernel_rfl, rfl, rfl, rfl, rfl, rfl⟩
theorem tok111 : TIOk Tryd.prog 111 ⟨Tryd.t111.desc, 0, 0, (.agg [])⟩ := ⟨Tryd.underlying111, Tryd.t111, _, by kernel_rfl, rfl, rfl, rfl, rfl, rfl⟩
theorem tok112 : TIOk Tryd.prog 112 ⟨Tryd.t112.desc, 0, 0, (.agg [])⟩ := ⟨Tryd.underlying112, Tryd.t112, _, by kernel_rfl, rfl, rfl, rfl, rfl, rfl⟩
theorem tok113 : TIOk Tryd.prog 113 ⟨Tryd.t112.desc, 0, 0, (.agg [])⟩ := ⟨Tryd.underlying113, Tryd.t113, _, by kernel_rfl, rfl, rfl, rfl, rfl, rfl⟩
theorem tok114 : TIOk Tryd.prog 114 ⟨Tryd.t114.desc, 1, 8, .nilfn⟩ := ⟨Tryd.underlying114, Tryd.t114, _, by kernel_rfl, rfl, rfl, rfl, rfl, rfl⟩
theorem tok115 : TIOk Tryd.prog 115 ⟨Tryd.t5.desc, 1, 1, (.int .u8 0)⟩ := ⟨Tryd.underlying115, Tryd.t115, _, by kernel_rfl, rfl, rfl, rfl, rfl, rfl⟩
theorem tok116 : TIOk Tryd.prog 116 ⟨Tryd.t5.desc, 1, 1, (.int .u8 0)⟩ := ⟨Tryd.underlying116, Tryd.t116, _, by kernel_rfl, rfl, rfl, rfl, rfl, rfl⟩
theorem tok117 : TIOk Tryd.prog 117 ⟨Tryd.t117.desc, 1, 8, .nilfn⟩ := ⟨Tryd.underlying117, Tryd.t117, _, by kernel_rfl, rfl, rfl, rfl, rfl, rfl⟩
theorem tok118 : TIOk Tryd.prog 118 ⟨Tryd.t21.desc, 1, 4, (.int .i32 0)⟩ := ⟨Tryd.underlying118, Tryd.t118, _, by kernel_rfl, rfl, rfl, rfl, rfl, rfl⟩
theorem tok119 : TIOk Tryd.prog 119 ⟨Tryd.t21.desc, 1, 4, (.int .i32 0)⟩ := ⟨Tryd.underlying119, Tryd.t119, _, by kernel_rfl, rfl, rfl, rfl, rfl, rfl⟩
theorem tok120 : TIOk Tryd.prog 120 ⟨Tryd.t120.desc, 11, 48, (.agg [(.int .u64 0), (.int .u64 0), (.int .u32 0), (.int .u8 0), (.int .u8 0), (.int .u8 0), (.int .u8 0), .nilfn, .nilp, (.int .i32 0), (.int .i32 0)])⟩ := ⟨Tryd.underlying120, Tryd.t120, _, by kernel_rfl, rfl, rfl, rfl, rfl, rfl⟩
theorem tok121 : TIOk Tryd.prog 121 ⟨Tryd.t120.desc, 11, 48, (.agg [(.int .u64 0), (.int .u64 0), (.int .u32 0), (.int .u8 0), (.int .u8 0), (.int .u8 0), (.int .u8 0), .nilfn, .nilp, (.int .i32 0), (.int .i32 0)])⟩ := ⟨Tryd.underlying121, Tryd.t121, _, by kernel_rfl, rfl, rfl, rfl, rfl, rfl⟩
theorem tok122 : TIOk Tryd.prog 122 ⟨Tryd.t122.desc, 1, 24, (.sl .full 1 [])⟩ := ⟨Tryd.underlying122, Tryd.t122, _, by kernel_rfl, rfl, rfl, rfl, rfl, rfl⟩
theorem tok123 : TIOk Tryd.prog 123 ⟨Tryd.t123.desc, 2, 40, (.agg [(.str []), (.sl .full 1 [])])⟩ := ⟨Tryd.underlying123, Tryd.t123, _, by kernel_rfl, rfl, rfl, rfl, rfl, rfl⟩
theorem tok124 : TIOk Tryd.prog 124 ⟨Tryd.t123.desc, 2, 40, (.agg [(.str []), (.sl .full 1 [])])⟩ := ⟨Tryd.underlying124, Tryd.t124, _, by kernel_rfl, rfl, rfl, rfl, rfl, rfl⟩
theorem tok125 : TIOk Tryd.prog 125 ⟨Tryd.t125.desc, 4, 56, (.agg [(.sl .full 1 []), (.int .i64 0), (.int .i64 0), (.str [])])⟩ := ⟨Tryd.underlying125, Tryd.t125, _, by kernel_rfl, rfl, rfl, rfl, rfl, rfl⟩
theorem tok126 : TIOk Tryd.prog 126 ⟨Tryd.t125.desc, 4, 56, (.agg [(.sl .full 1 []), (.int .i64 0), (.int .i64 0), (.str [])])⟩ := ⟨Tryd.underlying126, Tryd.t126, _, by kernel_rfl, rfl, rfl, rfl, rfl, rfl⟩
theorem tok127 : TIOk Tryd.prog 127 ⟨Tryd.t127.desc, 1, 24, (.sl .full 2 [])⟩ := ⟨Tryd.underlying127, Tryd.t127, _, by kernel_rfl, rfl, rfl, rfl, rfl, rfl⟩
theorem tok128 : TIOk Tryd.prog 128 ⟨Tryd.t128.desc, 2, 32, (.agg [(.int .i64 0), (.sl .full 2 [])])⟩ := ⟨Tryd.underlying128, Tryd.t128, _, by kernel_rfl, rfl, rfl, rfl, rfl, rfl⟩
theorem tok129 : TIOk Tryd.prog 129 ⟨Tryd.t128.desc, 2, 32, (.agg [(.int .i64 0), (.sl .full 2 [])])⟩ := ⟨Tryd.underlying129, Tryd.t129, _, by kernel_rfl, rfl, rfl, rfl, rfl, rfl⟩
theorem tok130 : TIOk Tryd.prog 130 ⟨Tryd.t130.desc, 10, 144, (.agg [(.str []), (.bool false), (.int .i64 0), (.int .i64 0), (.int .i64 0), (.str []), (.sl .full 2 []), (.sl .full 5 []), (.int .i64 0), (.sl .full 10 [])])⟩ := ⟨Tryd.underlying130, Tryd.t130, _, by kernel_rfl, rfl, rfl, rfl, rfl, rfl⟩
theorem tok131 : TIOk Tryd.prog 131 ⟨Tryd.t130.desc, 10, 144, (.agg [(.str []), (.bool false), (.int .i64 0), (.int .i64 0), (.int .i64 0), (.str []), (.sl .full 2 []), (.sl .full 5 []), (.int .i64 0), (.sl .full 10 [])])⟩ := ⟨Tryd.underlying131, Tryd.t131, _, by kernel_rfl, rfl, rfl, rfl, rfl, rfl⟩
theorem tok132 : TIOk Tryd.prog 132 ⟨Tryd.t132.desc, 2, 16, (.agg [(.int .i64 0), (.int .i64 0)])⟩ := ⟨Tryd.underlying132, Tryd.t132, _, by kernel_rfl, rfl, rfl, rfl, rfl, rfl⟩
theorem tok133 : TIOk Tryd.prog 133 ⟨Tryd.t132.desc, 2, 16, (.agg [(.int .i64 0), (.int .i64 0)])⟩ := ⟨Tryd.underlying133, Tryd.t133, _, by kernel_rfl, rfl, rfl, rfl, rfl, rfl⟩

theorem tt_ok : TTOk Tryd.prog tt := lookT_ok ⟨tok1, tok2, tok3, tok4, tok5, tok6, tok7, tok8, tok9, tok10, tok11, tok12, tok13, tok14, tok15, tok16, tok17, tok18, tok19, tok20, tok21, tok22, tok23, tok24, tok25, tok26, tok27, tok28, tok29, tok30, tok32, tok34, tok35, tok36, tok37, tok38, tok39, tok40, tok41, tok42, tok43, tok44, tok45, tok46, tok47, tok48, tok49, tok50, tok51, tok52, tok53, tok54, tok55, tok56, tok57, tok58, tok59, tok60, tok61, tok62, tok63, tok64, tok65, tok66, tok67, tok68, tok69, tok70, tok71, tok72, tok73, tok74, tok75, tok76, tok77, tok78, tok79, tok80, tok81, tok82, tok83, tok84, tok85, tok86, tok88, tok89, tok90, tok91, tok92, tok93, tok95, tok96, tok97, tok98, tok99, tok100, tok101, tok103, tok104, tok105, tok106, tok108, tok109, tok110, tok111, tok112, tok113, tok114, tok115, tok116, tok117, tok118, tok119, tok120, tok121, tok122, tok123, tok124, tok125, tok126, tok127, tok128, tok129, tok130, tok131, tok132, tok133, trivial⟩
end Go.Proofs.ScA
