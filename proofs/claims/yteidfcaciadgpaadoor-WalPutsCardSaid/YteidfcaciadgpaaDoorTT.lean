/- Contracts of functions of the program, and the laws that stand on them: what each function answers, whatever its arguments. -/
import Derived.Test.YteidfcaciadgpaaDoorVD
import Derived.Test.YteidfcaciadgpaaDoorProg
set_option linter.unusedSectionVars false
set_option linter.unnecessarySimpa false
namespace Go.Proofs.YteidfcaciadgpaaDoor
open Go Go.VA
def tbl : List (Nat × TI) := [
  (1, ⟨.func, 1, 8, [.nilFunc]⟩),
  (2, ⟨.int .i64, 1, 8, [.int .i64 0]⟩),
  (3, ⟨.int .i64, 1, 8, [.int .i64 0]⟩),
  (4, ⟨.bool, 1, 1, [.bool false]⟩),
  (5, ⟨.int .u8, 1, 1, [.int .u8 0]⟩),
  (6, ⟨.int .u8, 1, 1, [.int .u8 0]⟩),
  (7, ⟨.struct [(0, 2), (1, 3), (2, 4), (3, 6)], 4, 24, [.int .i64 0, .int .i64 0, .bool false, .int .u8 0]⟩),
  (8, ⟨.struct [(0, 2), (1, 3), (2, 4), (3, 6)], 4, 24, [.int .i64 0, .int .i64 0, .bool false, .int .u8 0]⟩),
  (9, ⟨.str, 1, 16, [.string ByteArray.empty]⟩),
  (10, ⟨.str, 1, 16, [.string ByteArray.empty]⟩),
  (11, ⟨.str, 1, 16, [.string ByteArray.empty]⟩),
  (12, ⟨.int .u64, 1, 8, [.int .u64 0]⟩),
  (13, ⟨.struct [(0, 9), (1, 12)], 2, 24, [.string ByteArray.empty, .int .u64 0]⟩),
  (14, ⟨.struct [(0, 9), (1, 12)], 2, 24, [.string ByteArray.empty, .int .u64 0]⟩),
  (15, ⟨.ptr 115, 1, 8, [.pointer none]⟩),
  (16, ⟨.ptr 118, 1, 8, [.pointer none]⟩),
  (17, ⟨.ptr 126, 1, 8, [.pointer none]⟩),
  (18, ⟨.struct [(0, 17)], 1, 8, [.pointer none]⟩),
  (19, ⟨.struct [(0, 17)], 1, 8, [.pointer none]⟩),
  (21, ⟨.int .i32, 1, 4, [.int .i32 0]⟩),
  (22, ⟨.slice 5, 1, 24, [.slice none 0 0]⟩),
  (23, ⟨.int .u64, 1, 8, [.int .u64 0]⟩),
  (24, ⟨.struct [(0, 9), (1, 9), (2, 3), (3, 2), (4, 9)], 5, 64, [.string ByteArray.empty, .string ByteArray.empty, .int .i64 0, .int .i64 0, .string ByteArray.empty]⟩),
  (25, ⟨.struct [(0, 9), (1, 9), (2, 3), (3, 2), (4, 9)], 5, 64, [.string ByteArray.empty, .string ByteArray.empty, .int .i64 0, .int .i64 0, .string ByteArray.empty]⟩),
  (26, ⟨.int .u32, 1, 4, [.int .u32 0]⟩),
  (27, ⟨.struct [(0, 25), (5, 26)], 6, 72, [.string ByteArray.empty, .string ByteArray.empty, .int .i64 0, .int .i64 0, .string ByteArray.empty, .int .u32 0]⟩),
  (28, ⟨.struct [(0, 25), (5, 26)], 6, 72, [.string ByteArray.empty, .string ByteArray.empty, .int .i64 0, .int .i64 0, .string ByteArray.empty, .int .u32 0]⟩),
  (29, ⟨.struct [(0, 23), (1, 3), (2, 28)], 8, 88, [.int .u64 0, .int .i64 0, .string ByteArray.empty, .string ByteArray.empty, .int .i64 0, .int .i64 0, .string ByteArray.empty, .int .u32 0]⟩),
  (30, ⟨.struct [(0, 23), (1, 3), (2, 28)], 8, 88, [.int .u64 0, .int .i64 0, .string ByteArray.empty, .string ByteArray.empty, .int .i64 0, .int .i64 0, .string ByteArray.empty, .int .u32 0]⟩),
  (31, ⟨.func, 1, 8, [.nilFunc]⟩),
  (32, ⟨.func, 1, 8, [.nilFunc]⟩),
  (33, ⟨.func, 1, 8, [.nilFunc]⟩),
  (34, ⟨.func, 1, 8, [.nilFunc]⟩),
  (35, ⟨.int .i64, 1, 8, [.int .i64 0]⟩),
  (37, ⟨.func, 1, 8, [.nilFunc]⟩),
  (39, ⟨.func, 1, 8, [.nilFunc]⟩),
  (40, ⟨.func, 1, 8, [.nilFunc]⟩),
  (41, ⟨.func, 1, 8, [.nilFunc]⟩),
  (42, ⟨.func, 1, 8, [.nilFunc]⟩),
  (43, ⟨.func, 1, 8, [.nilFunc]⟩),
  (44, ⟨.slice 30, 1, 24, [.slice none 0 0]⟩),
  (45, ⟨.slice 3, 1, 24, [.slice none 0 0]⟩),
  (46, ⟨.func, 1, 8, [.nilFunc]⟩),
  (48, ⟨.func, 1, 8, [.nilFunc]⟩),
  (49, ⟨.func, 1, 8, [.nilFunc]⟩),
  (50, ⟨.func, 1, 8, [.nilFunc]⟩),
  (52, ⟨.func, 1, 8, [.nilFunc]⟩),
  (53, ⟨.func, 1, 8, [.nilFunc]⟩),
  (54, ⟨.func, 1, 8, [.nilFunc]⟩),
  (55, ⟨.func, 1, 8, [.nilFunc]⟩),
  (57, ⟨.func, 1, 8, [.nilFunc]⟩),
  (58, ⟨.array 32 5, 32, 32, [.int .u8 0, .int .u8 0, .int .u8 0, .int .u8 0, .int .u8 0, .int .u8 0, .int .u8 0, .int .u8 0, .int .u8 0, .int .u8 0, .int .u8 0, .int .u8 0, .int .u8 0, .int .u8 0, .int .u8 0, .int .u8 0, .int .u8 0, .int .u8 0, .int .u8 0, .int .u8 0, .int .u8 0, .int .u8 0, .int .u8 0, .int .u8 0, .int .u8 0, .int .u8 0, .int .u8 0, .int .u8 0, .int .u8 0, .int .u8 0, .int .u8 0, .int .u8 0]⟩),
  (59, ⟨.array 32 5, 32, 32, [.int .u8 0, .int .u8 0, .int .u8 0, .int .u8 0, .int .u8 0, .int .u8 0, .int .u8 0, .int .u8 0, .int .u8 0, .int .u8 0, .int .u8 0, .int .u8 0, .int .u8 0, .int .u8 0, .int .u8 0, .int .u8 0, .int .u8 0, .int .u8 0, .int .u8 0, .int .u8 0, .int .u8 0, .int .u8 0, .int .u8 0, .int .u8 0, .int .u8 0, .int .u8 0, .int .u8 0, .int .u8 0, .int .u8 0, .int .u8 0, .int .u8 0, .int .u8 0]⟩),
  (60, ⟨.func, 1, 8, [.nilFunc]⟩),
  (61, ⟨.func, 1, 8, [.nilFunc]⟩),
  (62, ⟨.func, 1, 8, [.nilFunc]⟩),
  (63, ⟨.func, 1, 8, [.nilFunc]⟩),
  (65, ⟨.func, 1, 8, [.nilFunc]⟩),
  (67, ⟨.func, 1, 8, [.nilFunc]⟩),
  (68, ⟨.func, 1, 8, [.nilFunc]⟩),
  (69, ⟨.func, 1, 8, [.nilFunc]⟩),
  (70, ⟨.func, 1, 8, [.nilFunc]⟩),
  (71, ⟨.func, 1, 8, [.nilFunc]⟩),
  (72, ⟨.func, 1, 8, [.nilFunc]⟩),
  (73, ⟨.func, 1, 8, [.nilFunc]⟩),
  (74, ⟨.func, 1, 8, [.nilFunc]⟩),
  (75, ⟨.func, 1, 8, [.nilFunc]⟩),
  (76, ⟨.func, 1, 8, [.nilFunc]⟩),
  (77, ⟨.int .u64, 1, 8, [.int .u64 0]⟩),
  (78, ⟨.slice 22, 1, 24, [.slice none 0 0]⟩),
  (79, ⟨.ptr 99, 1, 8, [.pointer none]⟩),
  (80, ⟨.func, 1, 8, [.nilFunc]⟩),
  (81, ⟨.func, 1, 8, [.nilFunc]⟩),
  (82, ⟨.func, 1, 8, [.nilFunc]⟩),
  (84, ⟨.func, 1, 8, [.nilFunc]⟩),
  (86, ⟨.func, 1, 8, [.nilFunc]⟩),
  (87, ⟨.slice 26, 1, 24, [.slice none 0 0]⟩),
  (88, ⟨.func, 1, 8, [.nilFunc]⟩),
  (89, ⟨.func, 1, 8, [.nilFunc]⟩),
  (91, ⟨.func, 1, 8, [.nilFunc]⟩),
  (92, ⟨.func, 1, 8, [.nilFunc]⟩),
  (93, ⟨.func, 1, 8, [.nilFunc]⟩),
  (94, ⟨.func, 1, 8, [.nilFunc]⟩),
  (95, ⟨.func, 1, 8, [.nilFunc]⟩),
  (96, ⟨.func, 1, 8, [.nilFunc]⟩),
  (97, ⟨.array 8 26, 8, 32, [.int .u32 0, .int .u32 0, .int .u32 0, .int .u32 0, .int .u32 0, .int .u32 0, .int .u32 0, .int .u32 0]⟩),
  (98, ⟨.struct [(0, 97), (8, 23), (9, 22)], 10, 64, [.int .u32 0, .int .u32 0, .int .u32 0, .int .u32 0, .int .u32 0, .int .u32 0, .int .u32 0, .int .u32 0, .int .u64 0, .slice none 0 0]⟩),
  (99, ⟨.struct [(0, 97), (8, 23), (9, 22)], 10, 64, [.int .u32 0, .int .u32 0, .int .u32 0, .int .u32 0, .int .u32 0, .int .u32 0, .int .u32 0, .int .u32 0, .int .u64 0, .slice none 0 0]⟩),
  (100, ⟨.func, 1, 8, [.nilFunc]⟩),
  (101, ⟨.ptr 103, 1, 8, [.pointer none]⟩),
  (102, ⟨.struct [(0, 22), (1, 3), (2, 35)], 3, 40, [.slice none 0 0, .int .i64 0, .int .i64 0]⟩),
  (103, ⟨.struct [(0, 22), (1, 3), (2, 35)], 3, 40, [.slice none 0 0, .int .i64 0, .int .i64 0]⟩),
  (104, ⟨.func, 1, 8, [.nilFunc]⟩),
  (105, ⟨.func, 1, 8, [.nilFunc]⟩),
  (106, ⟨.func, 1, 8, [.nilFunc]⟩),
  (107, ⟨.func, 1, 8, [.nilFunc]⟩),
  (108, ⟨.array 64 26, 64, 256, [.int .u32 0, .int .u32 0, .int .u32 0, .int .u32 0, .int .u32 0, .int .u32 0, .int .u32 0, .int .u32 0, .int .u32 0, .int .u32 0, .int .u32 0, .int .u32 0, .int .u32 0, .int .u32 0, .int .u32 0, .int .u32 0, .int .u32 0, .int .u32 0, .int .u32 0, .int .u32 0, .int .u32 0, .int .u32 0, .int .u32 0, .int .u32 0, .int .u32 0, .int .u32 0, .int .u32 0, .int .u32 0, .int .u32 0, .int .u32 0, .int .u32 0, .int .u32 0, .int .u32 0, .int .u32 0, .int .u32 0, .int .u32 0, .int .u32 0, .int .u32 0, .int .u32 0, .int .u32 0, .int .u32 0, .int .u32 0, .int .u32 0, .int .u32 0, .int .u32 0, .int .u32 0, .int .u32 0, .int .u32 0, .int .u32 0, .int .u32 0, .int .u32 0, .int .u32 0, .int .u32 0, .int .u32 0, .int .u32 0, .int .u32 0, .int .u32 0, .int .u32 0, .int .u32 0, .int .u32 0, .int .u32 0, .int .u32 0, .int .u32 0, .int .u32 0]⟩),
  (109, ⟨.func, 1, 8, [.nilFunc]⟩),
  (111, ⟨.func, 1, 8, [.nilFunc]⟩),
  (112, ⟨.func, 1, 8, [.nilFunc]⟩),
  (113, ⟨.func, 1, 8, [.nilFunc]⟩),
  (114, ⟨.struct [(0, 17), (1, 17), (2, 17), (3, 9)], 4, 40, [.pointer none, .pointer none, .pointer none, .string ByteArray.empty]⟩),
  (115, ⟨.struct [(0, 17), (1, 17), (2, 17), (3, 9)], 4, 40, [.pointer none, .pointer none, .pointer none, .string ByteArray.empty]⟩),
  (116, ⟨.array 0 16, 0, 0, []⟩),
  (117, ⟨.struct [(0, 116)], 0, 0, []⟩),
  (118, ⟨.struct [(0, 116)], 0, 0, []⟩),
  (119, ⟨.int .u8, 1, 1, [.int .u8 0]⟩),
  (120, ⟨.int .u8, 1, 1, [.int .u8 0]⟩),
  (121, ⟨.func, 1, 8, [.nilFunc]⟩),
  (122, ⟨.ptr 5, 1, 8, [.pointer none]⟩),
  (123, ⟨.int .i32, 1, 4, [.int .i32 0]⟩),
  (124, ⟨.int .i32, 1, 4, [.int .i32 0]⟩),
  (125, ⟨.struct [(0, 12), (1, 12), (2, 26), (3, 119), (4, 5), (5, 5), (6, 120), (7, 121), (8, 122), (9, 123), (10, 124)], 11, 48, [.int .u64 0, .int .u64 0, .int .u32 0, .int .u8 0, .int .u8 0, .int .u8 0, .int .u8 0, .nilFunc, .pointer none, .int .i32 0, .int .i32 0]⟩),
  (126, ⟨.struct [(0, 12), (1, 12), (2, 26), (3, 119), (4, 5), (5, 5), (6, 120), (7, 121), (8, 122), (9, 123), (10, 124)], 11, 48, [.int .u64 0, .int .u64 0, .int .u32 0, .int .u8 0, .int .u8 0, .int .u8 0, .int .u8 0, .nilFunc, .pointer none, .int .i32 0, .int .i32 0]⟩)]
abbrev tb : TB := VA.look tbl
theorem htb : TbOk Tryd.prog tb := tbOk_of_chk (by kernel_rfl)
theorem hmix : Tryd.prog.follows .mixedOrders = true := by kernel_rfl
noncomputable def gl : Gl := ⟨fun g => match g with | 0 => cW8 bT | 1 => rndC | _ => []⟩
end Go.Proofs.YteidfcaciadgpaaDoor

namespace Go.Proofs.YteidfcaciadgpaaDoor
set_option linter.unusedSimpArgs false
set_option linter.unusedVariables false
set_option maxRecDepth 100000
set_option maxHeartbeats 8000000
open Go Go.VA
end Go.Proofs.YteidfcaciadgpaaDoor

namespace Go.Proofs.YteidfcaciadgpaaDoor
set_option linter.unusedSimpArgs false
set_option linter.unusedVariables false
set_option maxRecDepth 100000
set_option maxHeartbeats 8000000
open Go Go.VA
end Go.Proofs.YteidfcaciadgpaaDoor

namespace Go.Proofs.YteidfcaciadgpaaDoor
set_option linter.unusedSimpArgs false
set_option linter.unusedVariables false
set_option maxRecDepth 100000
set_option maxHeartbeats 8000000
open Go Go.VA
end Go.Proofs.YteidfcaciadgpaaDoor

namespace Go.Proofs.YteidfcaciadgpaaDoor
set_option linter.unusedSimpArgs false
set_option linter.unusedVariables false
set_option maxRecDepth 100000
set_option maxHeartbeats 8000000
open Go Go.VA
end Go.Proofs.YteidfcaciadgpaaDoor

namespace Go.Proofs.YteidfcaciadgpaaDoor
set_option linter.unusedSimpArgs false
set_option linter.unusedVariables false
set_option maxRecDepth 100000
set_option maxHeartbeats 8000000
open Go Go.VA
end Go.Proofs.YteidfcaciadgpaaDoor

namespace Go.Proofs.YteidfcaciadgpaaDoor
set_option linter.unusedSimpArgs false
set_option linter.unusedVariables false
set_option maxRecDepth 100000
set_option maxHeartbeats 8000000
open Go Go.VA
end Go.Proofs.YteidfcaciadgpaaDoor

namespace Go.Proofs.YteidfcaciadgpaaDoor
set_option linter.unusedSimpArgs false
set_option linter.unusedVariables false
set_option maxRecDepth 100000
set_option maxHeartbeats 8000000
open Go Go.VA
end Go.Proofs.YteidfcaciadgpaaDoor
