import Derived.Test.YtcamoojddlpbgaaK0
import Derived.Test.YtcamoojddlpbgaaK1
import Derived.Test.YtcamoojddlpbgaaK2
import Derived.Test.YtcamoojddlpbgaaK3
import Derived.Test.YtcamoojddlpbgaaProg
namespace Go.Proofs.Ytcamoojddlpbgaa.V
open Go.Proofs.Try
/-- the program's functions, in own code -/
noncomputable def tabL : TabL := [(2, ⟨k2, 1, []⟩),
 (3, ⟨k3, 97, [(8, none)]⟩),
 (4, ⟨k4, 97, [(8, none)]⟩),
 (5, ⟨k5, 76, [(10, none)]⟩),
 (6, ⟨k6, 102, [(8, none)]⟩),
 (7, ⟨k7, 203, [(12, none)]⟩),
 (8, ⟨k8, 91, [(8, none)]⟩),
 (9, ⟨k9, 121, [(12, none)]⟩),
 (10, ⟨k10, 247, [(10, none)]⟩),
 (11, ⟨k11, 104, [(2, none)]⟩),
 (12, ⟨k12, 64, [(6, none)]⟩),
 (13, ⟨k13, 88, [(6, none)]⟩),
 (14, ⟨k14, 148, [(4, none)]⟩),
 (15, ⟨k15, 205, [(0, none)]⟩),
 (16, ⟨k16, 6, [(2, none)]⟩),
 (17, ⟨k17, 41, [(6, some (true, 2)), (7, none)]⟩),
 (18, ⟨k18, 41, [(6, some (true, 2)), (7, none)]⟩),
 (19, ⟨k19, 29, [(6, some (true, 2)), (7, none)]⟩),
 (20, ⟨k20, 29, [(6, some (true, 2)), (7, none)]⟩),
 (21, ⟨k21, 41, [(6, some (true, 2)), (7, none)]⟩),
 (22, ⟨k22, 54, [(6, some (true, 2)), (7, none)]⟩),
 (23, ⟨k23, 26, [(6, some (true, 2)), (7, none)]⟩),
 (24, ⟨k24, 38, [(6, some (true, 2)), (7, none)]⟩),
 (25, ⟨k25, 36, [(6, some (true, 2)), (7, none)]⟩),
 (26, ⟨k26, 51, [(6, some (true, 2)), (7, none)]⟩),
 (27, ⟨k27, 41, [(6, some (true, 2)), (7, none)]⟩),
 (28, ⟨k28, 54, [(6, some (true, 2)), (7, none)]⟩),
 (29, ⟨k29, 54, [(8, some (true, 2)), (9, none)]⟩),
 (30, ⟨k30, 80, [(8, some (true, 2)), (9, none)]⟩),
 (31, ⟨k31, 52, [(8, some (true, 2)), (9, none)]⟩),
 (32, ⟨k32, 102, [(8, some (true, 2)), (9, none)]⟩),
 (33, ⟨k33, 60, [(6, none)]⟩),
 (34, ⟨k34, 36, [(8, none)]⟩),
 (35, ⟨k35, 49, [(2, none)]⟩),
 (36, ⟨k36, 24, [(2, none), (3, none), (4, none), (5, none)]⟩),
 (37, ⟨k37, 23, [(2, none), (3, none), (4, none), (5, none)]⟩),
 (38, ⟨k38, 8, [(2, none), (3, none)]⟩),
 (39, ⟨k39, 31, [(2, none), (3, none)]⟩),
 (40, ⟨k40, 8, [(2, none), (3, none)]⟩),
 (41, ⟨k41, 31, [(2, none), (3, none)]⟩),
 (42, ⟨k42, 55, [(2, none)]⟩),
 (43, ⟨k43, 26, [(4, none)]⟩),
 (44, ⟨k44, 50, [(4, none), (5, none)]⟩),
 (45, ⟨k45, 47, [(4, none), (5, none)]⟩),
 (46, ⟨k46, 85, [(4, none), (5, none)]⟩),
 (47, ⟨k47, 50, [(4, none), (5, none)]⟩),
 (48, ⟨k48, 26, [(4, none)]⟩),
 (49, ⟨k49, 27, [(4, none), (5, none)]⟩),
 (50, ⟨k50, 32, [(4, none), (5, none)]⟩),
 (51, ⟨k51, 55, [(4, none), (5, none)]⟩),
 (52, ⟨k52, 79, [(4, none), (5, none)]⟩),
 (53, ⟨k53, 85, [(2, none), (3, none)]⟩),
 (54, ⟨k54, 88, [(2, none), (3, none)]⟩),
 (55, ⟨k55, 26, [(4, none)]⟩),
 (57, ⟨k57, 8, [(4, some (true, 2))]⟩),
 (58, ⟨k58, 4, [(0, none)]⟩),
 (59, ⟨k59, 9, [(4, none)]⟩),
 (60, ⟨k60, 6, [(2, none)]⟩),
 (61, ⟨k61, 10, [(2, some (true, 3))]⟩),
 (62, ⟨k62, 14, [(4, none)]⟩),
 (63, ⟨k63, 13, [(4, some (true, 3))]⟩),
 (64, ⟨k64, 27, [(4, some (true, 3))]⟩),
 (65, ⟨k65, 17, [(2, some (true, 2))]⟩),
 (66, ⟨k66, 31, [(6, none)]⟩),
 (67, ⟨k67, 41, [(4, some (true, 3))]⟩),
 (68, ⟨k68, 20, [(8, some (true, 2))]⟩),
 (69, ⟨k69, 23, [(4, none)]⟩),
 (70, ⟨k70, 29, [(6, some (true, 3)), (7, none)]⟩),
 (71, ⟨k71, 27, [(4, some (true, 3))]⟩),
 (72, ⟨k72, 21, [(6, some (true, 3))]⟩),
 (73, ⟨k73, 24, [(6, some (true, 3))]⟩),
 (74, ⟨k74, 15, [(4, some (true, 2))]⟩),
 (75, ⟨k75, 23, [(4, none)]⟩),
 (76, ⟨k76, 14, [(4, some (true, 3))]⟩),
 (77, ⟨k77, 20, [(4, none)]⟩),
 (78, ⟨k78, 14, [(2, none)]⟩),
 (79, ⟨k79, 52, [(4, some (true, 3))]⟩),
 (80, ⟨k80, 40, [(4, some (true, 3))]⟩),
 (81, ⟨k81, 49, [(6, some (true, 3))]⟩),
 (82, ⟨k82, 18, [(6, some (true, 3))]⟩),
 (83, ⟨k83, 23, [(4, none)]⟩),
 (84, ⟨k84, 28, [(6, some (true, 3)), (7, none)]⟩),
 (85, ⟨k85, 5, [(2, some (true, 3))]⟩),
 (86, ⟨k86, 49, [(6, some (true, 3))]⟩),
 (87, ⟨k87, 13, [(4, some (true, 3))]⟩),
 (88, ⟨k88, 14, [(2, none)]⟩),
 (89, ⟨k89, 52, [(4, some (true, 3))]⟩),
 (90, ⟨k90, 18, [(2, none)]⟩),
 (91, ⟨k91, 48, [(10, none)]⟩),
 (92, ⟨k92, 8, [(2, none)]⟩),
 (93, ⟨k93, 15, [(6, none)]⟩),
 (94, ⟨k94, 31, [(2, none)]⟩),
 (95, ⟨k95, 14, [(2, none)]⟩),
 (96, ⟨k96, 48, [(4, none), (5, none)]⟩),
 (97, ⟨k97, 5, [(2, none)]⟩),
 (98, ⟨k98, 48, [(4, none), (5, none)]⟩),
 (99, ⟨k99, 5, [(2, none)]⟩),
 (100, ⟨k100, 16, [(2, none)]⟩),
 (101, ⟨k101, 41, [(6, some (true, 3))]⟩),
 (102, ⟨k102, 31, [(4, some (true, 3))]⟩),
 (103, ⟨k103, 38, [(4, some (true, 3)), (5, none)]⟩),
 (105, ⟨k105, 19, [(4, none)]⟩),
 (106, ⟨k106, 56, [(4, none)]⟩),
 (107, ⟨k107, 5, [(2, none)]⟩),
 (108, ⟨k108, 56, [(4, none)]⟩),
 (109, ⟨k109, 56, [(4, none)]⟩),
 (110, ⟨k110, 27, [(4, some (true, 3))]⟩),
 (111, ⟨k111, 52, [(4, some (true, 3))]⟩),
 (112, ⟨k112, 27, [(6, some (true, 3))]⟩),
 (113, ⟨k113, 9, [(2, none)]⟩),
 (114, ⟨k114, 9, [(4, none)]⟩),
 (115, ⟨k115, 27, [(4, none)]⟩),
 (116, ⟨k116, 27, [(4, some (true, 3))]⟩),
 (117, ⟨k117, 27, [(4, none)]⟩),
 (118, ⟨k118, 46, [(8, none)]⟩),
 (119, ⟨k119, 36, [(2, some (false, 1))]⟩),
 (120, ⟨k120, 27, [(4, none)]⟩),
 (121, ⟨k121, 6, [(2, none)]⟩),
 (122, ⟨k122, 4, [(2, none)]⟩),
 (123, ⟨k123, 9, [(4, none)]⟩),
 (124, ⟨k124, 13, [(2, none)]⟩),
 (125, ⟨k125, 9, [(2, none)]⟩),
 (126, ⟨k126, 23, []⟩),
 (127, ⟨k127, 19, [(4, none)]⟩)]
theorem tab_eq : (tabL.map fun q => tab prog q.1) = tabL.map fun q => some q.2 := by kernel_rfl
theorem mixed : prog.follows .mixedOrders = true := by kernel_rfl
theorem t2 : tab prog 2 = some ⟨k2, 1, []⟩ := tab_get tab_eq (lookT_mem (by kernel_rfl))
theorem t3 : tab prog 3 = some ⟨k3, 97, [(8, none)]⟩ := tab_get tab_eq (lookT_mem (by kernel_rfl))
theorem t4 : tab prog 4 = some ⟨k4, 97, [(8, none)]⟩ := tab_get tab_eq (lookT_mem (by kernel_rfl))
theorem t5 : tab prog 5 = some ⟨k5, 76, [(10, none)]⟩ := tab_get tab_eq (lookT_mem (by kernel_rfl))
theorem t6 : tab prog 6 = some ⟨k6, 102, [(8, none)]⟩ := tab_get tab_eq (lookT_mem (by kernel_rfl))
theorem t7 : tab prog 7 = some ⟨k7, 203, [(12, none)]⟩ := tab_get tab_eq (lookT_mem (by kernel_rfl))
theorem t8 : tab prog 8 = some ⟨k8, 91, [(8, none)]⟩ := tab_get tab_eq (lookT_mem (by kernel_rfl))
theorem t9 : tab prog 9 = some ⟨k9, 121, [(12, none)]⟩ := tab_get tab_eq (lookT_mem (by kernel_rfl))
theorem t10 : tab prog 10 = some ⟨k10, 247, [(10, none)]⟩ := tab_get tab_eq (lookT_mem (by kernel_rfl))
theorem t11 : tab prog 11 = some ⟨k11, 104, [(2, none)]⟩ := tab_get tab_eq (lookT_mem (by kernel_rfl))
theorem t12 : tab prog 12 = some ⟨k12, 64, [(6, none)]⟩ := tab_get tab_eq (lookT_mem (by kernel_rfl))
theorem t13 : tab prog 13 = some ⟨k13, 88, [(6, none)]⟩ := tab_get tab_eq (lookT_mem (by kernel_rfl))
theorem t14 : tab prog 14 = some ⟨k14, 148, [(4, none)]⟩ := tab_get tab_eq (lookT_mem (by kernel_rfl))
theorem t15 : tab prog 15 = some ⟨k15, 205, [(0, none)]⟩ := tab_get tab_eq (lookT_mem (by kernel_rfl))
theorem t16 : tab prog 16 = some ⟨k16, 6, [(2, none)]⟩ := tab_get tab_eq (lookT_mem (by kernel_rfl))
theorem t17 : tab prog 17 = some ⟨k17, 41, [(6, some (true, 2)), (7, none)]⟩ := tab_get tab_eq (lookT_mem (by kernel_rfl))
theorem t18 : tab prog 18 = some ⟨k18, 41, [(6, some (true, 2)), (7, none)]⟩ := tab_get tab_eq (lookT_mem (by kernel_rfl))
theorem t19 : tab prog 19 = some ⟨k19, 29, [(6, some (true, 2)), (7, none)]⟩ := tab_get tab_eq (lookT_mem (by kernel_rfl))
theorem t20 : tab prog 20 = some ⟨k20, 29, [(6, some (true, 2)), (7, none)]⟩ := tab_get tab_eq (lookT_mem (by kernel_rfl))
theorem t21 : tab prog 21 = some ⟨k21, 41, [(6, some (true, 2)), (7, none)]⟩ := tab_get tab_eq (lookT_mem (by kernel_rfl))
theorem t22 : tab prog 22 = some ⟨k22, 54, [(6, some (true, 2)), (7, none)]⟩ := tab_get tab_eq (lookT_mem (by kernel_rfl))
theorem t23 : tab prog 23 = some ⟨k23, 26, [(6, some (true, 2)), (7, none)]⟩ := tab_get tab_eq (lookT_mem (by kernel_rfl))
theorem t24 : tab prog 24 = some ⟨k24, 38, [(6, some (true, 2)), (7, none)]⟩ := tab_get tab_eq (lookT_mem (by kernel_rfl))
theorem t25 : tab prog 25 = some ⟨k25, 36, [(6, some (true, 2)), (7, none)]⟩ := tab_get tab_eq (lookT_mem (by kernel_rfl))
theorem t26 : tab prog 26 = some ⟨k26, 51, [(6, some (true, 2)), (7, none)]⟩ := tab_get tab_eq (lookT_mem (by kernel_rfl))
theorem t27 : tab prog 27 = some ⟨k27, 41, [(6, some (true, 2)), (7, none)]⟩ := tab_get tab_eq (lookT_mem (by kernel_rfl))
theorem t28 : tab prog 28 = some ⟨k28, 54, [(6, some (true, 2)), (7, none)]⟩ := tab_get tab_eq (lookT_mem (by kernel_rfl))
theorem t29 : tab prog 29 = some ⟨k29, 54, [(8, some (true, 2)), (9, none)]⟩ := tab_get tab_eq (lookT_mem (by kernel_rfl))
theorem t30 : tab prog 30 = some ⟨k30, 80, [(8, some (true, 2)), (9, none)]⟩ := tab_get tab_eq (lookT_mem (by kernel_rfl))
theorem t31 : tab prog 31 = some ⟨k31, 52, [(8, some (true, 2)), (9, none)]⟩ := tab_get tab_eq (lookT_mem (by kernel_rfl))
theorem t32 : tab prog 32 = some ⟨k32, 102, [(8, some (true, 2)), (9, none)]⟩ := tab_get tab_eq (lookT_mem (by kernel_rfl))
theorem t33 : tab prog 33 = some ⟨k33, 60, [(6, none)]⟩ := tab_get tab_eq (lookT_mem (by kernel_rfl))
theorem t34 : tab prog 34 = some ⟨k34, 36, [(8, none)]⟩ := tab_get tab_eq (lookT_mem (by kernel_rfl))
theorem t35 : tab prog 35 = some ⟨k35, 49, [(2, none)]⟩ := tab_get tab_eq (lookT_mem (by kernel_rfl))
theorem t36 : tab prog 36 = some ⟨k36, 24, [(2, none), (3, none), (4, none), (5, none)]⟩ := tab_get tab_eq (lookT_mem (by kernel_rfl))
theorem t37 : tab prog 37 = some ⟨k37, 23, [(2, none), (3, none), (4, none), (5, none)]⟩ := tab_get tab_eq (lookT_mem (by kernel_rfl))
theorem t38 : tab prog 38 = some ⟨k38, 8, [(2, none), (3, none)]⟩ := tab_get tab_eq (lookT_mem (by kernel_rfl))
theorem t39 : tab prog 39 = some ⟨k39, 31, [(2, none), (3, none)]⟩ := tab_get tab_eq (lookT_mem (by kernel_rfl))
theorem t40 : tab prog 40 = some ⟨k40, 8, [(2, none), (3, none)]⟩ := tab_get tab_eq (lookT_mem (by kernel_rfl))
theorem t41 : tab prog 41 = some ⟨k41, 31, [(2, none), (3, none)]⟩ := tab_get tab_eq (lookT_mem (by kernel_rfl))
theorem t42 : tab prog 42 = some ⟨k42, 55, [(2, none)]⟩ := tab_get tab_eq (lookT_mem (by kernel_rfl))
theorem t43 : tab prog 43 = some ⟨k43, 26, [(4, none)]⟩ := tab_get tab_eq (lookT_mem (by kernel_rfl))
theorem t44 : tab prog 44 = some ⟨k44, 50, [(4, none), (5, none)]⟩ := tab_get tab_eq (lookT_mem (by kernel_rfl))
theorem t45 : tab prog 45 = some ⟨k45, 47, [(4, none), (5, none)]⟩ := tab_get tab_eq (lookT_mem (by kernel_rfl))
theorem t46 : tab prog 46 = some ⟨k46, 85, [(4, none), (5, none)]⟩ := tab_get tab_eq (lookT_mem (by kernel_rfl))
theorem t47 : tab prog 47 = some ⟨k47, 50, [(4, none), (5, none)]⟩ := tab_get tab_eq (lookT_mem (by kernel_rfl))
theorem t48 : tab prog 48 = some ⟨k48, 26, [(4, none)]⟩ := tab_get tab_eq (lookT_mem (by kernel_rfl))
theorem t49 : tab prog 49 = some ⟨k49, 27, [(4, none), (5, none)]⟩ := tab_get tab_eq (lookT_mem (by kernel_rfl))
theorem t50 : tab prog 50 = some ⟨k50, 32, [(4, none), (5, none)]⟩ := tab_get tab_eq (lookT_mem (by kernel_rfl))
theorem t51 : tab prog 51 = some ⟨k51, 55, [(4, none), (5, none)]⟩ := tab_get tab_eq (lookT_mem (by kernel_rfl))
theorem t52 : tab prog 52 = some ⟨k52, 79, [(4, none), (5, none)]⟩ := tab_get tab_eq (lookT_mem (by kernel_rfl))
theorem t53 : tab prog 53 = some ⟨k53, 85, [(2, none), (3, none)]⟩ := tab_get tab_eq (lookT_mem (by kernel_rfl))
theorem t54 : tab prog 54 = some ⟨k54, 88, [(2, none), (3, none)]⟩ := tab_get tab_eq (lookT_mem (by kernel_rfl))
theorem t55 : tab prog 55 = some ⟨k55, 26, [(4, none)]⟩ := tab_get tab_eq (lookT_mem (by kernel_rfl))
theorem t57 : tab prog 57 = some ⟨k57, 8, [(4, some (true, 2))]⟩ := tab_get tab_eq (lookT_mem (by kernel_rfl))
theorem t58 : tab prog 58 = some ⟨k58, 4, [(0, none)]⟩ := tab_get tab_eq (lookT_mem (by kernel_rfl))
theorem t59 : tab prog 59 = some ⟨k59, 9, [(4, none)]⟩ := tab_get tab_eq (lookT_mem (by kernel_rfl))
theorem t60 : tab prog 60 = some ⟨k60, 6, [(2, none)]⟩ := tab_get tab_eq (lookT_mem (by kernel_rfl))
theorem t61 : tab prog 61 = some ⟨k61, 10, [(2, some (true, 3))]⟩ := tab_get tab_eq (lookT_mem (by kernel_rfl))
theorem t62 : tab prog 62 = some ⟨k62, 14, [(4, none)]⟩ := tab_get tab_eq (lookT_mem (by kernel_rfl))
theorem t63 : tab prog 63 = some ⟨k63, 13, [(4, some (true, 3))]⟩ := tab_get tab_eq (lookT_mem (by kernel_rfl))
theorem t64 : tab prog 64 = some ⟨k64, 27, [(4, some (true, 3))]⟩ := tab_get tab_eq (lookT_mem (by kernel_rfl))
theorem t65 : tab prog 65 = some ⟨k65, 17, [(2, some (true, 2))]⟩ := tab_get tab_eq (lookT_mem (by kernel_rfl))
theorem t66 : tab prog 66 = some ⟨k66, 31, [(6, none)]⟩ := tab_get tab_eq (lookT_mem (by kernel_rfl))
theorem t67 : tab prog 67 = some ⟨k67, 41, [(4, some (true, 3))]⟩ := tab_get tab_eq (lookT_mem (by kernel_rfl))
theorem t68 : tab prog 68 = some ⟨k68, 20, [(8, some (true, 2))]⟩ := tab_get tab_eq (lookT_mem (by kernel_rfl))
theorem t69 : tab prog 69 = some ⟨k69, 23, [(4, none)]⟩ := tab_get tab_eq (lookT_mem (by kernel_rfl))
theorem t70 : tab prog 70 = some ⟨k70, 29, [(6, some (true, 3)), (7, none)]⟩ := tab_get tab_eq (lookT_mem (by kernel_rfl))
theorem t71 : tab prog 71 = some ⟨k71, 27, [(4, some (true, 3))]⟩ := tab_get tab_eq (lookT_mem (by kernel_rfl))
theorem t72 : tab prog 72 = some ⟨k72, 21, [(6, some (true, 3))]⟩ := tab_get tab_eq (lookT_mem (by kernel_rfl))
theorem t73 : tab prog 73 = some ⟨k73, 24, [(6, some (true, 3))]⟩ := tab_get tab_eq (lookT_mem (by kernel_rfl))
theorem t74 : tab prog 74 = some ⟨k74, 15, [(4, some (true, 2))]⟩ := tab_get tab_eq (lookT_mem (by kernel_rfl))
theorem t75 : tab prog 75 = some ⟨k75, 23, [(4, none)]⟩ := tab_get tab_eq (lookT_mem (by kernel_rfl))
theorem t76 : tab prog 76 = some ⟨k76, 14, [(4, some (true, 3))]⟩ := tab_get tab_eq (lookT_mem (by kernel_rfl))
theorem t77 : tab prog 77 = some ⟨k77, 20, [(4, none)]⟩ := tab_get tab_eq (lookT_mem (by kernel_rfl))
theorem t78 : tab prog 78 = some ⟨k78, 14, [(2, none)]⟩ := tab_get tab_eq (lookT_mem (by kernel_rfl))
theorem t79 : tab prog 79 = some ⟨k79, 52, [(4, some (true, 3))]⟩ := tab_get tab_eq (lookT_mem (by kernel_rfl))
theorem t80 : tab prog 80 = some ⟨k80, 40, [(4, some (true, 3))]⟩ := tab_get tab_eq (lookT_mem (by kernel_rfl))
theorem t81 : tab prog 81 = some ⟨k81, 49, [(6, some (true, 3))]⟩ := tab_get tab_eq (lookT_mem (by kernel_rfl))
theorem t82 : tab prog 82 = some ⟨k82, 18, [(6, some (true, 3))]⟩ := tab_get tab_eq (lookT_mem (by kernel_rfl))
theorem t83 : tab prog 83 = some ⟨k83, 23, [(4, none)]⟩ := tab_get tab_eq (lookT_mem (by kernel_rfl))
theorem t84 : tab prog 84 = some ⟨k84, 28, [(6, some (true, 3)), (7, none)]⟩ := tab_get tab_eq (lookT_mem (by kernel_rfl))
theorem t85 : tab prog 85 = some ⟨k85, 5, [(2, some (true, 3))]⟩ := tab_get tab_eq (lookT_mem (by kernel_rfl))
theorem t86 : tab prog 86 = some ⟨k86, 49, [(6, some (true, 3))]⟩ := tab_get tab_eq (lookT_mem (by kernel_rfl))
theorem t87 : tab prog 87 = some ⟨k87, 13, [(4, some (true, 3))]⟩ := tab_get tab_eq (lookT_mem (by kernel_rfl))
theorem t88 : tab prog 88 = some ⟨k88, 14, [(2, none)]⟩ := tab_get tab_eq (lookT_mem (by kernel_rfl))
theorem t89 : tab prog 89 = some ⟨k89, 52, [(4, some (true, 3))]⟩ := tab_get tab_eq (lookT_mem (by kernel_rfl))
theorem t90 : tab prog 90 = some ⟨k90, 18, [(2, none)]⟩ := tab_get tab_eq (lookT_mem (by kernel_rfl))
theorem t91 : tab prog 91 = some ⟨k91, 48, [(10, none)]⟩ := tab_get tab_eq (lookT_mem (by kernel_rfl))
theorem t92 : tab prog 92 = some ⟨k92, 8, [(2, none)]⟩ := tab_get tab_eq (lookT_mem (by kernel_rfl))
theorem t93 : tab prog 93 = some ⟨k93, 15, [(6, none)]⟩ := tab_get tab_eq (lookT_mem (by kernel_rfl))
theorem t94 : tab prog 94 = some ⟨k94, 31, [(2, none)]⟩ := tab_get tab_eq (lookT_mem (by kernel_rfl))
theorem t95 : tab prog 95 = some ⟨k95, 14, [(2, none)]⟩ := tab_get tab_eq (lookT_mem (by kernel_rfl))
theorem t96 : tab prog 96 = some ⟨k96, 48, [(4, none), (5, none)]⟩ := tab_get tab_eq (lookT_mem (by kernel_rfl))
theorem t97 : tab prog 97 = some ⟨k97, 5, [(2, none)]⟩ := tab_get tab_eq (lookT_mem (by kernel_rfl))
theorem t98 : tab prog 98 = some ⟨k98, 48, [(4, none), (5, none)]⟩ := tab_get tab_eq (lookT_mem (by kernel_rfl))
theorem t99 : tab prog 99 = some ⟨k99, 5, [(2, none)]⟩ := tab_get tab_eq (lookT_mem (by kernel_rfl))
theorem t100 : tab prog 100 = some ⟨k100, 16, [(2, none)]⟩ := tab_get tab_eq (lookT_mem (by kernel_rfl))
theorem t101 : tab prog 101 = some ⟨k101, 41, [(6, some (true, 3))]⟩ := tab_get tab_eq (lookT_mem (by kernel_rfl))
theorem t102 : tab prog 102 = some ⟨k102, 31, [(4, some (true, 3))]⟩ := tab_get tab_eq (lookT_mem (by kernel_rfl))
theorem t103 : tab prog 103 = some ⟨k103, 38, [(4, some (true, 3)), (5, none)]⟩ := tab_get tab_eq (lookT_mem (by kernel_rfl))
theorem t105 : tab prog 105 = some ⟨k105, 19, [(4, none)]⟩ := tab_get tab_eq (lookT_mem (by kernel_rfl))
theorem t106 : tab prog 106 = some ⟨k106, 56, [(4, none)]⟩ := tab_get tab_eq (lookT_mem (by kernel_rfl))
theorem t107 : tab prog 107 = some ⟨k107, 5, [(2, none)]⟩ := tab_get tab_eq (lookT_mem (by kernel_rfl))
theorem t108 : tab prog 108 = some ⟨k108, 56, [(4, none)]⟩ := tab_get tab_eq (lookT_mem (by kernel_rfl))
theorem t109 : tab prog 109 = some ⟨k109, 56, [(4, none)]⟩ := tab_get tab_eq (lookT_mem (by kernel_rfl))
theorem t110 : tab prog 110 = some ⟨k110, 27, [(4, some (true, 3))]⟩ := tab_get tab_eq (lookT_mem (by kernel_rfl))
theorem t111 : tab prog 111 = some ⟨k111, 52, [(4, some (true, 3))]⟩ := tab_get tab_eq (lookT_mem (by kernel_rfl))
theorem t112 : tab prog 112 = some ⟨k112, 27, [(6, some (true, 3))]⟩ := tab_get tab_eq (lookT_mem (by kernel_rfl))
theorem t113 : tab prog 113 = some ⟨k113, 9, [(2, none)]⟩ := tab_get tab_eq (lookT_mem (by kernel_rfl))
theorem t114 : tab prog 114 = some ⟨k114, 9, [(4, none)]⟩ := tab_get tab_eq (lookT_mem (by kernel_rfl))
theorem t115 : tab prog 115 = some ⟨k115, 27, [(4, none)]⟩ := tab_get tab_eq (lookT_mem (by kernel_rfl))
theorem t116 : tab prog 116 = some ⟨k116, 27, [(4, some (true, 3))]⟩ := tab_get tab_eq (lookT_mem (by kernel_rfl))
theorem t117 : tab prog 117 = some ⟨k117, 27, [(4, none)]⟩ := tab_get tab_eq (lookT_mem (by kernel_rfl))
theorem t118 : tab prog 118 = some ⟨k118, 46, [(8, none)]⟩ := tab_get tab_eq (lookT_mem (by kernel_rfl))
theorem t119 : tab prog 119 = some ⟨k119, 36, [(2, some (false, 1))]⟩ := tab_get tab_eq (lookT_mem (by kernel_rfl))
theorem t120 : tab prog 120 = some ⟨k120, 27, [(4, none)]⟩ := tab_get tab_eq (lookT_mem (by kernel_rfl))
theorem t121 : tab prog 121 = some ⟨k121, 6, [(2, none)]⟩ := tab_get tab_eq (lookT_mem (by kernel_rfl))
theorem t122 : tab prog 122 = some ⟨k122, 4, [(2, none)]⟩ := tab_get tab_eq (lookT_mem (by kernel_rfl))
theorem t123 : tab prog 123 = some ⟨k123, 9, [(4, none)]⟩ := tab_get tab_eq (lookT_mem (by kernel_rfl))
theorem t124 : tab prog 124 = some ⟨k124, 13, [(2, none)]⟩ := tab_get tab_eq (lookT_mem (by kernel_rfl))
theorem t125 : tab prog 125 = some ⟨k125, 9, [(2, none)]⟩ := tab_get tab_eq (lookT_mem (by kernel_rfl))
theorem t126 : tab prog 126 = some ⟨k126, 23, []⟩ := tab_get tab_eq (lookT_mem (by kernel_rfl))
theorem t127 : tab prog 127 = some ⟨k127, 19, [(4, none)]⟩ := tab_get tab_eq (lookT_mem (by kernel_rfl))
end Go.Proofs.Ytcamoojddlpbgaa.V
