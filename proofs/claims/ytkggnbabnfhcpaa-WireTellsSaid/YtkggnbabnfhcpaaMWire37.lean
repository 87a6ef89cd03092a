import Derived.Test.YtkggnbabnfhcpaaProg
import Derived.Test.YtkggnbabnfhcpaaMWire32
import Derived.Test.YtkggnbabnfhcpaaMWire36
set_option linter.unusedVariables false
section
/- Conditions of functions, printed by a program of this claim's own (vcgen.py) out of the loaded code; each is proved to be enough. -/
set_option maxRecDepth 100000
namespace Go.Proofs.Ytkggnbabnfhcpaa
open Go.RowKit
namespace GWiR
def env : Env := ⟨[(3, ⟨.int .i64, 1, .int .i64 0, 8, [.int .i64]⟩), (4, ⟨.bool, 1, .bool false, 1, [.bool]⟩), (5, ⟨.int .u8, 1, .int .u8 0, 1, [.int .u8]⟩), (9, ⟨.str, 1, .string ByteArray.empty, 16, [.str]⟩), (22, ⟨.slice 81, 1, .slice none 0 0, 24, [.slice]⟩), (23, ⟨.slice 142, 1, .slice none 0 0, 24, [.slice]⟩), (25, ⟨.struct [(0, 3), (1, 3), (2, 3), (3, 23)], 4, .agg #[.int .i64 0, .int .i64 0, .int .i64 0, .slice none 0 0], 48, [.int .i64, .int .i64, .int .i64, .slice]⟩), (27, ⟨.struct [(0, 3), (1, 3), (2, 3), (3, 25), (7, 25)], 11, .agg #[.int .i64 0, .int .i64 0, .int .i64 0, .int .i64 0, .int .i64 0, .int .i64 0, .slice none 0 0, .int .i64 0, .int .i64 0, .int .i64 0, .slice none 0 0], 120, [.int .i64, .int .i64, .int .i64, .int .i64, .int .i64, .int .i64, .slice, .int .i64, .int .i64, .int .i64, .slice]⟩), (28, ⟨.slice 3, 1, .slice none 0 0, 24, [.slice]⟩), (30, ⟨.struct [(0, 3), (1, 3), (2, 3), (3, 3), (4, 3), (5, 3), (6, 3), (7, 3), (8, 3), (9, 3), (10, 3), (11, 3), (12, 22), (13, 27), (24, 28)], 25, .agg #[.int .i64 0, .int .i64 0, .int .i64 0, .int .i64 0, .int .i64 0, .int .i64 0, .int .i64 0, .int .i64 0, .int .i64 0, .int .i64 0, .int .i64 0, .int .i64 0, .slice none 0 0, .int .i64 0, .int .i64 0, .int .i64 0, .int .i64 0, .int .i64 0, .int .i64 0, .slice none 0 0, .int .i64 0, .int .i64 0, .int .i64 0, .slice none 0 0, .slice none 0 0], 264, [.int .i64, .int .i64, .int .i64, .int .i64, .int .i64, .int .i64, .int .i64, .int .i64, .int .i64, .int .i64, .int .i64, .int .i64, .slice, .int .i64, .int .i64, .int .i64, .int .i64, .int .i64, .int .i64, .slice, .int .i64, .int .i64, .int .i64, .slice, .slice]⟩), (32, ⟨.slice 5, 1, .slice none 0 0, 24, [.slice]⟩), (33, ⟨.int .i64, 1, .int .i64 0, 8, [.int .i64]⟩), (36, ⟨.slice 83, 1, .slice none 0 0, 24, [.slice]⟩), (37, ⟨.struct [(0, 3), (1, 3), (2, 3), (3, 25), (7, 25)], 11, .agg #[.int .i64 0, .int .i64 0, .int .i64 0, .int .i64 0, .int .i64 0, .int .i64 0, .slice none 0 0, .int .i64 0, .int .i64 0, .int .i64 0, .slice none 0 0], 120, [.int .i64, .int .i64, .int .i64, .int .i64, .int .i64, .int .i64, .slice, .int .i64, .int .i64, .int .i64, .slice]⟩), (39, ⟨.struct [(0, 3), (1, 3), (2, 3), (3, 3), (4, 3), (5, 3), (6, 3), (7, 3), (8, 3), (9, 3), (10, 3), (11, 3), (12, 36), (13, 37), (24, 28)], 25, .agg #[.int .i64 0, .int .i64 0, .int .i64 0, .int .i64 0, .int .i64 0, .int .i64 0, .int .i64 0, .int .i64 0, .int .i64 0, .int .i64 0, .int .i64 0, .int .i64 0, .slice none 0 0, .int .i64 0, .int .i64 0, .int .i64 0, .int .i64 0, .int .i64 0, .int .i64 0, .slice none 0 0, .int .i64 0, .int .i64 0, .int .i64 0, .slice none 0 0, .slice none 0 0], 264, [.int .i64, .int .i64, .int .i64, .int .i64, .int .i64, .int .i64, .int .i64, .int .i64, .int .i64, .int .i64, .int .i64, .int .i64, .slice, .int .i64, .int .i64, .int .i64, .int .i64, .int .i64, .int .i64, .slice, .int .i64, .int .i64, .int .i64, .slice, .slice]⟩), (53, ⟨.slice 115, 1, .slice none 0 0, 24, [.slice]⟩), (54, ⟨.arr 9 3, 9, .agg #[.int .i64 0, .int .i64 0, .int .i64 0, .int .i64 0, .int .i64 0, .int .i64 0, .int .i64 0, .int .i64 0, .int .i64 0], 72, [.int .i64, .int .i64, .int .i64, .int .i64, .int .i64, .int .i64, .int .i64, .int .i64, .int .i64]⟩), (56, ⟨.struct [(0, 3), (1, 3), (2, 53), (3, 54), (12, 9)], 13, .agg #[.int .i64 0, .int .i64 0, .slice none 0 0, .int .i64 0, .int .i64 0, .int .i64 0, .int .i64 0, .int .i64 0, .int .i64 0, .int .i64 0, .int .i64 0, .int .i64 0, .string ByteArray.empty], 128, [.int .i64, .int .i64, .slice, .int .i64, .int .i64, .int .i64, .int .i64, .int .i64, .int .i64, .int .i64, .int .i64, .int .i64, .str]⟩), (58, ⟨.slice 111, 1, .slice none 0 0, 24, [.slice]⟩), (60, ⟨.struct [(0, 3), (1, 3), (2, 3), (3, 3), (4, 3)], 5, .agg #[.int .i64 0, .int .i64 0, .int .i64 0, .int .i64 0, .int .i64 0], 40, [.int .i64, .int .i64, .int .i64, .int .i64, .int .i64]⟩), (62, ⟨.struct [(0, 3), (1, 33), (2, 58), (3, 3), (4, 3), (5, 3), (6, 3), (7, 60), (12, 32)], 13, .agg #[.int .i64 0, .int .i64 0, .slice none 0 0, .int .i64 0, .int .i64 0, .int .i64 0, .int .i64 0, .int .i64 0, .int .i64 0, .int .i64 0, .int .i64 0, .int .i64 0, .slice none 0 0], 136, [.int .i64, .int .i64, .slice, .int .i64, .int .i64, .int .i64, .int .i64, .int .i64, .int .i64, .int .i64, .int .i64, .int .i64, .slice]⟩), (67, ⟨.int .u64, 1, .int .u64 0, 8, [.int .u64]⟩), (81, ⟨.arr 3 3, 3, .agg #[.int .i64 0, .int .i64 0, .int .i64 0], 24, [.int .i64, .int .i64, .int .i64]⟩), (86, ⟨.struct [(0, 32), (1, 4)], 2, .agg #[.slice none 0 0, .bool false], 32, [.slice, .bool]⟩), (100, ⟨.struct [(0, 9), (1, 33)], 2, .agg #[.string ByteArray.empty, .int .i64 0], 24, [.str, .int .i64]⟩), (111, ⟨.struct [(0, 3), (1, 3), (2, 3), (3, 4)], 4, .agg #[.int .i64 0, .int .i64 0, .int .i64 0, .bool false], 32, [.int .i64, .int .i64, .int .i64, .bool]⟩), (115, ⟨.struct [(0, 3), (1, 3), (2, 3), (3, 4)], 4, .agg #[.int .i64 0, .int .i64 0, .int .i64 0, .bool false], 32, [.int .i64, .int .i64, .int .i64, .bool]⟩), (142, ⟨.struct [(0, 3), (1, 3)], 2, .agg #[.int .i64 0, .int .i64 0], 16, [.int .i64, .int .i64]⟩)], [(7, [.agg [.int .i64, .int .i64, .int .i64, .int .i64, .int .i64, .int .i64, .int .i64, .int .i64, .int .i64, .int .i64, .int .i64, .int .i64, .slice, .int .i64, .int .i64, .int .i64, .int .i64, .int .i64, .int .i64, .slice, .int .i64, .int .i64, .int .i64, .slice, .slice]]), (8, [.lf (.slice), .lf (.int .i64)]), (9, [.agg [.int .i64, .int .i64, .int .i64, .int .i64, .int .i64, .int .i64, .int .i64, .int .i64, .int .i64, .int .i64, .int .i64, .int .i64, .slice, .int .i64, .int .i64, .int .i64, .int .i64, .int .i64, .int .i64, .slice, .int .i64, .int .i64, .int .i64, .slice, .slice]]), (10, [.lf (.str), .lf (.bool)]), (11, [.lf (.bool)]), (12, [.lf (.bool)]), (13, [.lf (.bool)]), (14, [.agg [.int .i64, .int .i64, .int .i64, .int .i64, .int .i64, .int .i64, .int .i64, .int .i64, .int .i64, .int .i64, .int .i64, .int .i64, .slice, .int .i64, .int .i64, .int .i64, .int .i64, .int .i64, .int .i64, .slice, .int .i64, .int .i64, .int .i64, .slice, .slice], .lf (.int .i64)]), (15, [.agg [.int .i64, .int .i64, .int .i64, .int .i64, .int .i64, .int .i64, .int .i64, .int .i64, .int .i64, .int .i64, .int .i64, .int .i64, .slice, .int .i64, .int .i64, .int .i64, .int .i64, .int .i64, .int .i64, .slice, .int .i64, .int .i64, .int .i64, .slice, .slice], .lf (.bool)]), (16, [.lf (.bool)]), (17, [.agg [.int .i64, .int .i64, .int .i64, .int .i64, .int .i64, .int .i64, .int .i64, .int .i64, .int .i64, .int .i64, .int .i64, .int .i64, .slice, .int .i64, .int .i64, .int .i64, .int .i64, .int .i64, .int .i64, .slice, .int .i64, .int .i64, .int .i64, .slice, .slice]]), (18, [.lf (.slice), .lf (.int .i64)]), (19, [.agg [.int .i64, .int .i64, .slice, .int .i64, .int .i64, .int .i64, .int .i64, .int .i64, .int .i64, .int .i64, .int .i64, .int .i64, .slice]]), (20, [.lf (.str), .lf (.bool)]), (21, [.agg [.int .i64, .int .i64, .slice, .int .i64, .int .i64, .int .i64, .int .i64, .int .i64, .int .i64, .int .i64, .int .i64, .int .i64, .slice], .lf (.int .i64)]), (27, []), (28, []), (29, []), (30, [.lf (.int .i64)]), (31, [.lf (.str)]), (32, [.lf (.str)]), (38, [.lf (.int .i64)]), (39, [.lf (.slice)]), (40, [.lf (.int .i64), .lf (.bool)]), (41, [.agg [.int .i64, .int .i64, .int .i64, .int .i64, .int .i64, .int .i64, .slice, .int .i64, .int .i64, .int .i64, .slice], .lf (.int .i64)]), (42, [.lf (.str)]), (43, [.lf (.int .i64)]), (44, [.lf (.bool)]), (50, [.lf (.str)]), (58, [.lf (.str)]), (59, [.lf (.str)]), (69, [.lf (.int .i64)])], [81]⟩
theorem ty3 : TyOk Try.prog 3 ⟨.int .i64, 1, .int .i64 0, 8, [.int .i64]⟩ := tyok (by kernel_rfl) (by kernel_rfl)
theorem ty4 : TyOk Try.prog 4 ⟨.bool, 1, .bool false, 1, [.bool]⟩ := tyok (by kernel_rfl) (by kernel_rfl)
theorem ty5 : TyOk Try.prog 5 ⟨.int .u8, 1, .int .u8 0, 1, [.int .u8]⟩ := tyok (by kernel_rfl) (by kernel_rfl)
theorem ty9 : TyOk Try.prog 9 ⟨.str, 1, .string ByteArray.empty, 16, [.str]⟩ := tyok (by kernel_rfl) (by kernel_rfl)
theorem ty22 : TyOk Try.prog 22 ⟨.slice 81, 1, .slice none 0 0, 24, [.slice]⟩ := tyok (by kernel_rfl) (by kernel_rfl)
theorem ty23 : TyOk Try.prog 23 ⟨.slice 142, 1, .slice none 0 0, 24, [.slice]⟩ := tyok (by kernel_rfl) (by kernel_rfl)
theorem ty25 : TyOk Try.prog 25 ⟨.struct [(0, 3), (1, 3), (2, 3), (3, 23)], 4, .agg #[.int .i64 0, .int .i64 0, .int .i64 0, .slice none 0 0], 48, [.int .i64, .int .i64, .int .i64, .slice]⟩ := tyok (by kernel_rfl) (by kernel_rfl)
theorem ty27 : TyOk Try.prog 27 ⟨.struct [(0, 3), (1, 3), (2, 3), (3, 25), (7, 25)], 11, .agg #[.int .i64 0, .int .i64 0, .int .i64 0, .int .i64 0, .int .i64 0, .int .i64 0, .slice none 0 0, .int .i64 0, .int .i64 0, .int .i64 0, .slice none 0 0], 120, [.int .i64, .int .i64, .int .i64, .int .i64, .int .i64, .int .i64, .slice, .int .i64, .int .i64, .int .i64, .slice]⟩ := tyok (by kernel_rfl) (by kernel_rfl)
theorem ty28 : TyOk Try.prog 28 ⟨.slice 3, 1, .slice none 0 0, 24, [.slice]⟩ := tyok (by kernel_rfl) (by kernel_rfl)
theorem ty30 : TyOk Try.prog 30 ⟨.struct [(0, 3), (1, 3), (2, 3), (3, 3), (4, 3), (5, 3), (6, 3), (7, 3), (8, 3), (9, 3), (10, 3), (11, 3), (12, 22), (13, 27), (24, 28)], 25, .agg #[.int .i64 0, .int .i64 0, .int .i64 0, .int .i64 0, .int .i64 0, .int .i64 0, .int .i64 0, .int .i64 0, .int .i64 0, .int .i64 0, .int .i64 0, .int .i64 0, .slice none 0 0, .int .i64 0, .int .i64 0, .int .i64 0, .int .i64 0, .int .i64 0, .int .i64 0, .slice none 0 0, .int .i64 0, .int .i64 0, .int .i64 0, .slice none 0 0, .slice none 0 0], 264, [.int .i64, .int .i64, .int .i64, .int .i64, .int .i64, .int .i64, .int .i64, .int .i64, .int .i64, .int .i64, .int .i64, .int .i64, .slice, .int .i64, .int .i64, .int .i64, .int .i64, .int .i64, .int .i64, .slice, .int .i64, .int .i64, .int .i64, .slice, .slice]⟩ := tyok (by kernel_rfl) (by kernel_rfl)
theorem ty32 : TyOk Try.prog 32 ⟨.slice 5, 1, .slice none 0 0, 24, [.slice]⟩ := tyok (by kernel_rfl) (by kernel_rfl)
theorem ty33 : TyOk Try.prog 33 ⟨.int .i64, 1, .int .i64 0, 8, [.int .i64]⟩ := tyok (by kernel_rfl) (by kernel_rfl)
theorem ty36 : TyOk Try.prog 36 ⟨.slice 83, 1, .slice none 0 0, 24, [.slice]⟩ := tyok (by kernel_rfl) (by kernel_rfl)
theorem ty37 : TyOk Try.prog 37 ⟨.struct [(0, 3), (1, 3), (2, 3), (3, 25), (7, 25)], 11, .agg #[.int .i64 0, .int .i64 0, .int .i64 0, .int .i64 0, .int .i64 0, .int .i64 0, .slice none 0 0, .int .i64 0, .int .i64 0, .int .i64 0, .slice none 0 0], 120, [.int .i64, .int .i64, .int .i64, .int .i64, .int .i64, .int .i64, .slice, .int .i64, .int .i64, .int .i64, .slice]⟩ := tyok (by kernel_rfl) (by kernel_rfl)
theorem ty39 : TyOk Try.prog 39 ⟨.struct [(0, 3), (1, 3), (2, 3), (3, 3), (4, 3), (5, 3), (6, 3), (7, 3), (8, 3), (9, 3), (10, 3), (11, 3), (12, 36), (13, 37), (24, 28)], 25, .agg #[.int .i64 0, .int .i64 0, .int .i64 0, .int .i64 0, .int .i64 0, .int .i64 0, .int .i64 0, .int .i64 0, .int .i64 0, .int .i64 0, .int .i64 0, .int .i64 0, .slice none 0 0, .int .i64 0, .int .i64 0, .int .i64 0, .int .i64 0, .int .i64 0, .int .i64 0, .slice none 0 0, .int .i64 0, .int .i64 0, .int .i64 0, .slice none 0 0, .slice none 0 0], 264, [.int .i64, .int .i64, .int .i64, .int .i64, .int .i64, .int .i64, .int .i64, .int .i64, .int .i64, .int .i64, .int .i64, .int .i64, .slice, .int .i64, .int .i64, .int .i64, .int .i64, .int .i64, .int .i64, .slice, .int .i64, .int .i64, .int .i64, .slice, .slice]⟩ := tyok (by kernel_rfl) (by kernel_rfl)
theorem ty53 : TyOk Try.prog 53 ⟨.slice 115, 1, .slice none 0 0, 24, [.slice]⟩ := tyok (by kernel_rfl) (by kernel_rfl)
theorem ty54 : TyOk Try.prog 54 ⟨.arr 9 3, 9, .agg #[.int .i64 0, .int .i64 0, .int .i64 0, .int .i64 0, .int .i64 0, .int .i64 0, .int .i64 0, .int .i64 0, .int .i64 0], 72, [.int .i64, .int .i64, .int .i64, .int .i64, .int .i64, .int .i64, .int .i64, .int .i64, .int .i64]⟩ := tyok (by kernel_rfl) (by kernel_rfl)
theorem ty56 : TyOk Try.prog 56 ⟨.struct [(0, 3), (1, 3), (2, 53), (3, 54), (12, 9)], 13, .agg #[.int .i64 0, .int .i64 0, .slice none 0 0, .int .i64 0, .int .i64 0, .int .i64 0, .int .i64 0, .int .i64 0, .int .i64 0, .int .i64 0, .int .i64 0, .int .i64 0, .string ByteArray.empty], 128, [.int .i64, .int .i64, .slice, .int .i64, .int .i64, .int .i64, .int .i64, .int .i64, .int .i64, .int .i64, .int .i64, .int .i64, .str]⟩ := tyok (by kernel_rfl) (by kernel_rfl)
theorem ty58 : TyOk Try.prog 58 ⟨.slice 111, 1, .slice none 0 0, 24, [.slice]⟩ := tyok (by kernel_rfl) (by kernel_rfl)
theorem ty60 : TyOk Try.prog 60 ⟨.struct [(0, 3), (1, 3), (2, 3), (3, 3), (4, 3)], 5, .agg #[.int .i64 0, .int .i64 0, .int .i64 0, .int .i64 0, .int .i64 0], 40, [.int .i64, .int .i64, .int .i64, .int .i64, .int .i64]⟩ := tyok (by kernel_rfl) (by kernel_rfl)
theorem ty62 : TyOk Try.prog 62 ⟨.struct [(0, 3), (1, 33), (2, 58), (3, 3), (4, 3), (5, 3), (6, 3), (7, 60), (12, 32)], 13, .agg #[.int .i64 0, .int .i64 0, .slice none 0 0, .int .i64 0, .int .i64 0, .int .i64 0, .int .i64 0, .int .i64 0, .int .i64 0, .int .i64 0, .int .i64 0, .int .i64 0, .slice none 0 0], 136, [.int .i64, .int .i64, .slice, .int .i64, .int .i64, .int .i64, .int .i64, .int .i64, .int .i64, .int .i64, .int .i64, .int .i64, .slice]⟩ := tyok (by kernel_rfl) (by kernel_rfl)
theorem ty67 : TyOk Try.prog 67 ⟨.int .u64, 1, .int .u64 0, 8, [.int .u64]⟩ := tyok (by kernel_rfl) (by kernel_rfl)
theorem ty81 : TyOk Try.prog 81 ⟨.arr 3 3, 3, .agg #[.int .i64 0, .int .i64 0, .int .i64 0], 24, [.int .i64, .int .i64, .int .i64]⟩ := tyok (by kernel_rfl) (by kernel_rfl)
theorem ty86 : TyOk Try.prog 86 ⟨.struct [(0, 32), (1, 4)], 2, .agg #[.slice none 0 0, .bool false], 32, [.slice, .bool]⟩ := tyok (by kernel_rfl) (by kernel_rfl)
theorem ty100 : TyOk Try.prog 100 ⟨.struct [(0, 9), (1, 33)], 2, .agg #[.string ByteArray.empty, .int .i64 0], 24, [.str, .int .i64]⟩ := tyok (by kernel_rfl) (by kernel_rfl)
theorem ty111 : TyOk Try.prog 111 ⟨.struct [(0, 3), (1, 3), (2, 3), (3, 4)], 4, .agg #[.int .i64 0, .int .i64 0, .int .i64 0, .bool false], 32, [.int .i64, .int .i64, .int .i64, .bool]⟩ := tyok (by kernel_rfl) (by kernel_rfl)
theorem ty115 : TyOk Try.prog 115 ⟨.struct [(0, 3), (1, 3), (2, 3), (3, 4)], 4, .agg #[.int .i64 0, .int .i64 0, .int .i64 0, .bool false], 32, [.int .i64, .int .i64, .int .i64, .bool]⟩ := tyok (by kernel_rfl) (by kernel_rfl)
theorem ty142 : TyOk Try.prog 142 ⟨.struct [(0, 3), (1, 3)], 2, .agg #[.int .i64 0, .int .i64 0], 16, [.int .i64, .int .i64]⟩ := tyok (by kernel_rfl) (by kernel_rfl)
theorem fn7 : FnOk Try.prog 7 := fnok Try.func7 (by kernel_rfl) (by kernel_rfl)
theorem fn8 : FnOk Try.prog 8 := fnok Try.func8 (by kernel_rfl) (by kernel_rfl)
theorem fn9 : FnOk Try.prog 9 := fnok Try.func9 (by kernel_rfl) (by kernel_rfl)
theorem fn10 : FnOk Try.prog 10 := fnok Try.func10 (by kernel_rfl) (by kernel_rfl)
theorem fn11 : FnOk Try.prog 11 := fnok Try.func11 (by kernel_rfl) (by kernel_rfl)
theorem fn12 : FnOk Try.prog 12 := fnok Try.func12 (by kernel_rfl) (by kernel_rfl)
theorem fn13 : FnOk Try.prog 13 := fnok Try.func13 (by kernel_rfl) (by kernel_rfl)
theorem fn14 : FnOk Try.prog 14 := fnok Try.func14 (by kernel_rfl) (by kernel_rfl)
theorem fn15 : FnOk Try.prog 15 := fnok Try.func15 (by kernel_rfl) (by kernel_rfl)
theorem fn16 : FnOk Try.prog 16 := fnok Try.func16 (by kernel_rfl) (by kernel_rfl)
theorem fn17 : FnOk Try.prog 17 := fnok Try.func17 (by kernel_rfl) (by kernel_rfl)
theorem fn18 : FnOk Try.prog 18 := fnok Try.func18 (by kernel_rfl) (by kernel_rfl)
theorem fn19 : FnOk Try.prog 19 := fnok Try.func19 (by kernel_rfl) (by kernel_rfl)
theorem fn20 : FnOk Try.prog 20 := fnok Try.func20 (by kernel_rfl) (by kernel_rfl)
theorem fn21 : FnOk Try.prog 21 := fnok Try.func21 (by kernel_rfl) (by kernel_rfl)
theorem fn27 : FnOk Try.prog 27 := fnok Try.func27 (by kernel_rfl) (by kernel_rfl)
theorem fn28 : FnOk Try.prog 28 := fnok Try.func28 (by kernel_rfl) (by kernel_rfl)
theorem fn29 : FnOk Try.prog 29 := fnok Try.func29 (by kernel_rfl) (by kernel_rfl)
theorem fn30 : FnOk Try.prog 30 := fnok Try.func30 (by kernel_rfl) (by kernel_rfl)
theorem fn31 : FnOk Try.prog 31 := fnok Try.func31 (by kernel_rfl) (by kernel_rfl)
theorem fn32 : FnOk Try.prog 32 := fnok Try.func32 (by kernel_rfl) (by kernel_rfl)
theorem fn38 : FnOk Try.prog 38 := fnok Try.func38 (by kernel_rfl) (by kernel_rfl)
theorem fn39 : FnOk Try.prog 39 := fnok Try.func39 (by kernel_rfl) (by kernel_rfl)
theorem fn40 : FnOk Try.prog 40 := fnok Try.func40 (by kernel_rfl) (by kernel_rfl)
theorem fn41 : FnOk Try.prog 41 := fnok Try.func41 (by kernel_rfl) (by kernel_rfl)
theorem fn42 : FnOk Try.prog 42 := fnok Try.func42 (by kernel_rfl) (by kernel_rfl)
theorem fn43 : FnOk Try.prog 43 := fnok Try.func43 (by kernel_rfl) (by kernel_rfl)
theorem fn44 : FnOk Try.prog 44 := fnok Try.func44 (by kernel_rfl) (by kernel_rfl)
theorem fn50 : FnOk Try.prog 50 := fnok Try.func50 (by kernel_rfl) (by kernel_rfl)
theorem fn58 : FnOk Try.prog 58 := fnok Try.func58 (by kernel_rfl) (by kernel_rfl)
theorem fn59 : FnOk Try.prog 59 := fnok Try.func59 (by kernel_rfl) (by kernel_rfl)
theorem fn69 : FnOk Try.prog 69 := fnok Try.func69 (by kernel_rfl) (by kernel_rfl)
theorem eqt81 : EqTy Try.prog 81 := ⟨by kernel_rfl, by kernel_rfl, by kernel_rfl⟩
theorem envOk : EOk Try.prog env := ⟨(by simp only [env, List.forall_mem_cons, List.not_mem_nil, false_implies, implies_true, and_true]; exact ⟨ty3, ty4, ty5, ty9, ty22, ty23, ty25, ty27, ty28, ty30, ty32, ty33, ty36, ty37, ty39, ty53, ty54, ty56, ty58, ty60, ty62, ty67, ty81, ty86, ty100, ty111, ty115, ty142⟩), (by simp only [env, List.forall_mem_cons, List.not_mem_nil, false_implies, implies_true, and_true]; exact ⟨fn7, fn8, fn9, fn10, fn11, fn12, fn13, fn14, fn15, fn16, fn17, fn18, fn19, fn20, fn21, fn27, fn28, fn29, fn30, fn31, fn32, fn38, fn39, fn40, fn41, fn42, fn43, fn44, fn50, fn58, fn59, fn69⟩), by kernel_rfl, (by simp only [env, List.forall_mem_cons, List.not_mem_nil, false_implies, implies_true, and_true]; exact eqt81)⟩
/-- purser/purserref22.Changes -/
def qchanges_vc (x0 : Int) (w : World) (K : Value → World → Prop) : Prop :=
  br (decide (x0 ≥ 1)) (
    K (.bool (decide (x0 ≤ 12))) w
  ) (
    K (.bool false) w
  )
def qchanges_notes : Notes := ⟨[], [], [], []⟩
set_option maxHeartbeats 4000000 in
theorem qchanges_calls (x0 : Int) (w : World) (K : Value → World → Prop) (h : qchanges_vc x0 w K) : Calls Try.prog 13 #[.int .i64 x0] w fun e w' => ∃ v, e = .returned v ∧ K v w' :=
  calls_of_eq envOk Try.func13 qchanges_notes [] [.int .i64 x0] w K h (by as_aux_lemma => kernel_rfl)
/-- (*purser/purserref22.writer).uint -/
def quint_vc (p0 : Option Addr) (a1 : Option Addr) (n1 : Nat) (c1 : Nat) (w : World) (K : Value → World → Prop) : Prop :=
  ∃ (I : Int → World → Prop) (μ : Int → World → Nat),
  I 0 w ∧
  ∀ (x4 : Int) (w_2 : World), I x4 w_2 →
  br (decide (x4 < ((n1 : Nat) : Int))) (
    withP p0 fun g13 o13 =>
    ∃ (b15 : Bool), w_2.cell? ⟨g13, o13 + 1, none⟩ = some (.bool b15) ∧
    br b15 (
      withP p0 fun g30 o30 =>
      stO [] w_2 g30 (o30 + 1) [.bool true] fun w_3 =>
      drewO w_3 fun w_4 =>
      withP p0 fun g34 o34 =>
      ∃ (a36 : Option Addr) (n36 : Nat) (c36 : Nat), w_4.cell? ⟨g34, o34, none⟩ = some (.slice a36 n36 c36) ∧
      withP a1 fun g39 o39 =>
      (0 : Int) ≤ x4 ∧ x4 < (((n1 : Nat) : Int) : Int) ∧
      ∃ (x40 : Int), w_4.cell? ⟨g39, o39 + x4.toNat * 1, none⟩ = some (.int .i64 x40) ∧
      Calls Try.prog 58 #[.int .i64 x40] w_4 fun e w_5 => KeepG [] w_4 w_5 ∧
      ∃ (s41 : ByteArray),
      e = .returned (.string s41) ∧
      w_5.cell? ⟨g34, o34, none⟩ = some (.slice a36 n36 c36) ∧
      appO Try.prog [] w_5 5 1 1 9 a36 n36 c36 (.string s41) fun m42 a42 c42 w_6 =>
      withP p0 fun g43 o43 =>
      stO [] w_6 g43 o43 [.slice a42 (n36 + m42) c42] fun w_7 =>
      I (IntKind.i64.wrap (x4 + 1)) w_7 ∧ μ (IntKind.i64.wrap (x4 + 1)) w_7 < μ x4 w_2
    ) (
      withP a1 fun g19 o19 =>
      (0 : Int) ≤ x4 ∧ x4 < (((n1 : Nat) : Int) : Int) ∧
      ∃ (x20 : Int), w_2.cell? ⟨g19, o19 + x4.toNat * 1, none⟩ = some (.int .i64 x20) ∧
      br (decide (x20 < 0)) (
        withP p0 fun g30_2 o30_2 =>
        stO [] w_2 g30_2 (o30_2 + 1) [.bool true] fun w_9 =>
        drewO w_9 fun w_10 =>
        withP p0 fun g34_2 o34_2 =>
        ∃ (a36_2 : Option Addr) (n36_2 : Nat) (c36_2 : Nat), w_10.cell? ⟨g34_2, o34_2, none⟩ = some (.slice a36_2 n36_2 c36_2) ∧
        withP a1 fun g39_2 o39_2 =>
        (0 : Int) ≤ x4 ∧ x4 < (((n1 : Nat) : Int) : Int) ∧
        ∃ (x40_2 : Int), w_10.cell? ⟨g39_2, o39_2 + x4.toNat * 1, none⟩ = some (.int .i64 x40_2) ∧
        Calls Try.prog 58 #[.int .i64 x40_2] w_10 fun e_2 w_11 => KeepG [] w_10 w_11 ∧
        ∃ (s41_2 : ByteArray),
        e_2 = .returned (.string s41_2) ∧
        w_11.cell? ⟨g34_2, o34_2, none⟩ = some (.slice a36_2 n36_2 c36_2) ∧
        appO Try.prog [] w_11 5 1 1 9 a36_2 n36_2 c36_2 (.string s41_2) fun m42_2 a42_2 c42_2 w_12 =>
        withP p0 fun g43_2 o43_2 =>
        stO [] w_12 g43_2 o43_2 [.slice a42_2 (n36_2 + m42_2) c42_2] fun w_13 =>
        I (IntKind.i64.wrap (x4 + 1)) w_13 ∧ μ (IntKind.i64.wrap (x4 + 1)) w_13 < μ x4 w_2
      ) (
        withP a1 fun g26 o26 =>
        (0 : Int) ≤ x4 ∧ x4 < (((n1 : Nat) : Int) : Int) ∧
        ∃ (x27 : Int), w_2.cell? ⟨g26, o26 + x4.toNat * 1, none⟩ = some (.int .i64 x27) ∧
        withP p0 fun g30_3 o30_3 =>
        stO [] w_2 g30_3 (o30_3 + 1) [.bool (decide (x27 > 4611686018427387904))] fun w_14 =>
        drewO w_14 fun w_15 =>
        withP p0 fun g34_3 o34_3 =>
        ∃ (a36_3 : Option Addr) (n36_3 : Nat) (c36_3 : Nat), w_15.cell? ⟨g34_3, o34_3, none⟩ = some (.slice a36_3 n36_3 c36_3) ∧
        withP a1 fun g39_3 o39_3 =>
        (0 : Int) ≤ x4 ∧ x4 < (((n1 : Nat) : Int) : Int) ∧
        ∃ (x40_3 : Int), w_15.cell? ⟨g39_3, o39_3 + x4.toNat * 1, none⟩ = some (.int .i64 x40_3) ∧
        Calls Try.prog 58 #[.int .i64 x40_3] w_15 fun e_3 w_16 => KeepG [] w_15 w_16 ∧
        ∃ (s41_3 : ByteArray),
        e_3 = .returned (.string s41_3) ∧
        w_16.cell? ⟨g34_3, o34_3, none⟩ = some (.slice a36_3 n36_3 c36_3) ∧
        appO Try.prog [] w_16 5 1 1 9 a36_3 n36_3 c36_3 (.string s41_3) fun m42_3 a42_3 c42_3 w_17 =>
        withP p0 fun g43_3 o43_3 =>
        stO [] w_17 g43_3 o43_3 [.slice a42_3 (n36_3 + m42_3) c42_3] fun w_18 =>
        I (IntKind.i64.wrap (x4 + 1)) w_18 ∧ μ (IntKind.i64.wrap (x4 + 1)) w_18 < μ x4 w_2
      )
    )
  ) (
    K (.tuple #[]) w_2
  )
def quint_notes : Notes := ⟨[(4, ⟨[0, 0, 2, 6, 14, 0, 0, 96, 224, 480, 1022, 2047, 4095, 8191], [9, 10, 13], [0, 1, 2, 3, 4, 5, 6, 7, 8, 11, 12]⟩)], [(1, ⟨[(4, .lf (.int .i64))], [], [5, 6, 7, 8, 11, 12, 13, 14, 15, 16, 17, 18, 19, 20, 21, 22, 23, 24, 25, 26, 27, 28, 29, 30, 31, 32, 33, 34, 35, 36, 37, 38, 39, 40, 41, 42, 43, 44, 9, 10, 4], []⟩)], [], []⟩
set_option maxHeartbeats 4000000 in
theorem quint_calls (p0 : Option Addr) (a1 : Option Addr) (n1 : Nat) (c1 : Nat) (w : World) (K : Value → World → Prop) (h : quint_vc p0 a1 n1 c1 w K) : Calls Try.prog 27 #[.pointer p0, .slice a1 n1 c1] w fun e w' => ∃ v, e = .returned v ∧ K v w' :=
  calls_of_eq envOk Try.func27 quint_notes [] [.pointer p0, .slice a1 n1 c1] w K h (by as_aux_lemma => kernel_rfl)
/-- (*purser/purserref22.writer).limit -/
def qlim_vc (p0 : Option Addr) (x1 : Int) (w : World) (K : Value → World → Prop) : Prop :=
  withP p0 fun g6 o6 =>
  ∃ (b8 : Bool), w.cell? ⟨g6, o6 + 1, none⟩ = some (.bool b8) ∧
  br b8 (
    withP p0 fun g17 o17 =>
    stO [] w g17 (o17 + 1) [.bool true] fun w_2 =>
    drewO w_2 fun w_3 =>
    withP p0 fun g21 o21 =>
    ∃ (a23 : Option Addr) (n23 : Nat) (c23 : Nat), w_3.cell? ⟨g21, o21, none⟩ = some (.slice a23 n23 c23) ∧
    Calls Try.prog 59 #[.int .i64 x1] w_3 fun e w_4 => KeepG [] w_3 w_4 ∧
    ∃ (s25 : ByteArray),
    e = .returned (.string s25) ∧
    w_4.cell? ⟨g21, o21, none⟩ = some (.slice a23 n23 c23) ∧
    appO Try.prog [] w_4 5 1 1 9 a23 n23 c23 (.string s25) fun m26 a26 c26 w_5 =>
    withP p0 fun g27 o27 =>
    stO [] w_5 g27 o27 [.slice a26 (n23 + m26) c26] fun w_6 =>
    K (.tuple #[]) w_6
  ) (
    br (decide (x1 < (-1))) (
      withP p0 fun g17_2 o17_2 =>
      stO [] w g17_2 (o17_2 + 1) [.bool true] fun w_7 =>
      drewO w_7 fun w_8 =>
      withP p0 fun g21_2 o21_2 =>
      ∃ (a23_2 : Option Addr) (n23_2 : Nat) (c23_2 : Nat), w_8.cell? ⟨g21_2, o21_2, none⟩ = some (.slice a23_2 n23_2 c23_2) ∧
      Calls Try.prog 59 #[.int .i64 x1] w_8 fun e_2 w_9 => KeepG [] w_8 w_9 ∧
      ∃ (s25_2 : ByteArray),
      e_2 = .returned (.string s25_2) ∧
      w_9.cell? ⟨g21_2, o21_2, none⟩ = some (.slice a23_2 n23_2 c23_2) ∧
      appO Try.prog [] w_9 5 1 1 9 a23_2 n23_2 c23_2 (.string s25_2) fun m26_2 a26_2 c26_2 w_10 =>
      withP p0 fun g27_2 o27_2 =>
      stO [] w_10 g27_2 o27_2 [.slice a26_2 (n23_2 + m26_2) c26_2] fun w_11 =>
      K (.tuple #[]) w_11
    ) (
      withP p0 fun g17_3 o17_3 =>
      stO [] w g17_3 (o17_3 + 1) [.bool (decide (x1 > 4611686018427387904))] fun w_12 =>
      drewO w_12 fun w_13 =>
      withP p0 fun g21_3 o21_3 =>
      ∃ (a23_3 : Option Addr) (n23_3 : Nat) (c23_3 : Nat), w_13.cell? ⟨g21_3, o21_3, none⟩ = some (.slice a23_3 n23_3 c23_3) ∧
      Calls Try.prog 59 #[.int .i64 x1] w_13 fun e_3 w_14 => KeepG [] w_13 w_14 ∧
      ∃ (s25_3 : ByteArray),
      e_3 = .returned (.string s25_3) ∧
      w_14.cell? ⟨g21_3, o21_3, none⟩ = some (.slice a23_3 n23_3 c23_3) ∧
      appO Try.prog [] w_14 5 1 1 9 a23_3 n23_3 c23_3 (.string s25_3) fun m26_3 a26_3 c26_3 w_15 =>
      withP p0 fun g27_3 o27_3 =>
      stO [] w_15 g27_3 o27_3 [.slice a26_3 (n23_3 + m26_3) c26_3] fun w_16 =>
      K (.tuple #[]) w_16
    )
  )
def qlim_notes : Notes := ⟨[(1, ⟨[0, 0, 2, 6, 14, 0, 32, 126, 255, 511, 1023], [6, 7, 10], [0, 1, 2, 3, 4, 5, 8, 9]⟩)], [], [], []⟩
set_option maxHeartbeats 4000000 in
theorem qlim_calls (p0 : Option Addr) (x1 : Int) (w : World) (K : Value → World → Prop) (h : qlim_vc p0 x1 w K) : Calls Try.prog 29 #[.pointer p0, .int .i64 x1] w fun e w' => ∃ v, e = .returned v ∧ K v w' :=
  calls_of_eq envOk Try.func29 qlim_notes [] [.pointer p0, .int .i64 x1] w K h (by as_aux_lemma => kernel_rfl)
/-- (*purser/purserref22.writer).items -/
def qitems_k1 (I : Int → World → Prop) (μ : Int → World → Nat) (p0 : Option Addr) (x1 : Int) (a2 : Option Addr) (n2 : Nat) (x6 : Int) (w_5 : World) (w_10 : World) : Prop :=
  br (decide (x1 < 3)) (
    withP a2 fun g53 o53 =>
    (0 : Int) ≤ x6 ∧ x6 < (((n2 : Nat) : Int) : Int) ∧
    (0 : Int) ≤ 2 ∧ 2 < ((3 : Nat) : Int) ∧
    ∃ (x55 : Int), w_10.cell? ⟨g53, o53 + x6.toNat * 3 + (2 : Int).toNat * 1, none⟩ = some (.int .i64 x55) ∧
    newO w_10 (.cells #[.int .i64 x55] 3) fun g_4 w_11 =>
    Calls Try.prog 27 #[.pointer p0, .slice (some ⟨g_4, 0, none⟩) 1 1] w_11 fun e_4 w_12 => KeepG [] w_11 w_12 ∧
    e_4 = .returned (.tuple #[]) ∧
    I (IntKind.i64.wrap (x6 + 1)) w_12 ∧ μ (IntKind.i64.wrap (x6 + 1)) w_12 < μ x6 w_5
  ) (
    I (IntKind.i64.wrap (x6 + 1)) w_10 ∧ μ (IntKind.i64.wrap (x6 + 1)) w_10 < μ x6 w_5
  )
def qitems_k2 (I_2 : Int → World → Prop) (μ_2 : Int → World → Nat) (p0 : Option Addr) (x1 : Int) (a2 : Option Addr) (n2 : Nat) (x6_2 : Int) (w_17 : World) (w_22 : World) : Prop :=
  br (decide (x1 < 3)) (
    withP a2 fun g53_2 o53_2 =>
    (0 : Int) ≤ x6_2 ∧ x6_2 < (((n2 : Nat) : Int) : Int) ∧
    (0 : Int) ≤ 2 ∧ 2 < ((3 : Nat) : Int) ∧
    ∃ (x55_2 : Int), w_22.cell? ⟨g53_2, o53_2 + x6_2.toNat * 3 + (2 : Int).toNat * 1, none⟩ = some (.int .i64 x55_2) ∧
    newO w_22 (.cells #[.int .i64 x55_2] 3) fun g_8 w_23 =>
    Calls Try.prog 27 #[.pointer p0, .slice (some ⟨g_8, 0, none⟩) 1 1] w_23 fun e_8 w_24 => KeepG [] w_23 w_24 ∧
    e_8 = .returned (.tuple #[]) ∧
    I_2 (IntKind.i64.wrap (x6_2 + 1)) w_24 ∧ μ_2 (IntKind.i64.wrap (x6_2 + 1)) w_24 < μ_2 x6_2 w_17
  ) (
    I_2 (IntKind.i64.wrap (x6_2 + 1)) w_22 ∧ μ_2 (IntKind.i64.wrap (x6_2 + 1)) w_22 < μ_2 x6_2 w_17
  )
def qitems_vc (p0 : Option Addr) (x1 : Int) (a2 : Option Addr) (n2 : Nat) (c2 : Nat) (w : World) (K : Value → World → Prop) : Prop :=
  withP p0 fun g9 o9 =>
  ∃ (b11 : Bool), w.cell? ⟨g9, o9 + 1, none⟩ = some (.bool b11) ∧
  br b11 (
    withP p0 fun g17 o17 =>
    stO [] w g17 (o17 + 1) [.bool true] fun w_2 =>
    newO w_2 (.cells #[.int .i64 ((n2 : Nat) : Int)] 3) fun g w_3 =>
    Calls Try.prog 27 #[.pointer p0, .slice (some ⟨g, 0, none⟩) 1 1] w_3 fun e w_4 => KeepG [] w_3 w_4 ∧
    e = .returned (.tuple #[]) ∧
    ∃ (I : Int → World → Prop) (μ : Int → World → Nat),
    I 0 w_4 ∧
    ∀ (x6 : Int) (w_5 : World), I x6 w_5 →
    br (decide (x6 < ((n2 : Nat) : Int))) (
      withP a2 fun g33 o33 =>
      (0 : Int) ≤ x6 ∧ x6 < (((n2 : Nat) : Int) : Int) ∧
      (0 : Int) ≤ 0 ∧ 0 < ((3 : Nat) : Int) ∧
      ∃ (x35 : Int), w_5.cell? ⟨g33, o33 + x6.toNat * 3 + (0 : Int).toNat * 1, none⟩ = some (.int .i64 x35) ∧
      newO w_5 (.cells #[.int .i64 x35] 3) fun g_2 w_6 =>
      Calls Try.prog 27 #[.pointer p0, .slice (some ⟨g_2, 0, none⟩) 1 1] w_6 fun e_2 w_7 => KeepG [] w_6 w_7 ∧
      e_2 = .returned (.tuple #[]) ∧
      br (decide (x1 > 1)) (
        withP a2 fun g43 o43 =>
        (0 : Int) ≤ x6 ∧ x6 < (((n2 : Nat) : Int) : Int) ∧
        (0 : Int) ≤ 1 ∧ 1 < ((3 : Nat) : Int) ∧
        ∃ (x45 : Int), w_7.cell? ⟨g43, o43 + x6.toNat * 3 + (1 : Int).toNat * 1, none⟩ = some (.int .i64 x45) ∧
        newO w_7 (.cells #[.int .i64 x45] 3) fun g_3 w_8 =>
        Calls Try.prog 27 #[.pointer p0, .slice (some ⟨g_3, 0, none⟩) 1 1] w_8 fun e_3 w_9 => KeepG [] w_8 w_9 ∧
        e_3 = .returned (.tuple #[]) ∧
        qitems_k1 I μ p0 x1 a2 n2 x6 w_5 w_9
      ) (
        qitems_k1 I μ p0 x1 a2 n2 x6 w_5 w_7
      )
    ) (
      K (.tuple #[]) w_5
    )
  ) (
    withP p0 fun g17_2 o17_2 =>
    stO [] w g17_2 (o17_2 + 1) [.bool (decide (((n2 : Nat) : Int) > 4))] fun w_14 =>
    newO w_14 (.cells #[.int .i64 ((n2 : Nat) : Int)] 3) fun g_5 w_15 =>
    Calls Try.prog 27 #[.pointer p0, .slice (some ⟨g_5, 0, none⟩) 1 1] w_15 fun e_5 w_16 => KeepG [] w_15 w_16 ∧
    e_5 = .returned (.tuple #[]) ∧
    ∃ (I_2 : Int → World → Prop) (μ_2 : Int → World → Nat),
    I_2 0 w_16 ∧
    ∀ (x6_2 : Int) (w_17 : World), I_2 x6_2 w_17 →
    br (decide (x6_2 < ((n2 : Nat) : Int))) (
      withP a2 fun g33_2 o33_2 =>
      (0 : Int) ≤ x6_2 ∧ x6_2 < (((n2 : Nat) : Int) : Int) ∧
      (0 : Int) ≤ 0 ∧ 0 < ((3 : Nat) : Int) ∧
      ∃ (x35_2 : Int), w_17.cell? ⟨g33_2, o33_2 + x6_2.toNat * 3 + (0 : Int).toNat * 1, none⟩ = some (.int .i64 x35_2) ∧
      newO w_17 (.cells #[.int .i64 x35_2] 3) fun g_6 w_18 =>
      Calls Try.prog 27 #[.pointer p0, .slice (some ⟨g_6, 0, none⟩) 1 1] w_18 fun e_6 w_19 => KeepG [] w_18 w_19 ∧
      e_6 = .returned (.tuple #[]) ∧
      br (decide (x1 > 1)) (
        withP a2 fun g43_2 o43_2 =>
        (0 : Int) ≤ x6_2 ∧ x6_2 < (((n2 : Nat) : Int) : Int) ∧
        (0 : Int) ≤ 1 ∧ 1 < ((3 : Nat) : Int) ∧
        ∃ (x45_2 : Int), w_19.cell? ⟨g43_2, o43_2 + x6_2.toNat * 3 + (1 : Int).toNat * 1, none⟩ = some (.int .i64 x45_2) ∧
        newO w_19 (.cells #[.int .i64 x45_2] 3) fun g_7 w_20 =>
        Calls Try.prog 27 #[.pointer p0, .slice (some ⟨g_7, 0, none⟩) 1 1] w_20 fun e_7 w_21 => KeepG [] w_20 w_21 ∧
        e_7 = .returned (.tuple #[]) ∧
        qitems_k2 I_2 μ_2 p0 x1 a2 n2 x6_2 w_17 w_21
      ) (
        qitems_k2 I_2 μ_2 p0 x1 a2 n2 x6_2 w_17 w_19
      )
    ) (
      K (.tuple #[]) w_17
    )
  )
def qitems_notes : Notes := ⟨[], [(3, ⟨[(6, .lf (.int .i64))], [], [24, 25, 26, 27, 30, 31, 32, 33, 34, 35, 36, 37, 38, 39, 40, 41, 42, 43, 44, 45, 46, 47, 48, 49, 50, 51, 52, 53, 54, 55, 56, 57, 28, 29, 6], []⟩)], [], []⟩
set_option maxHeartbeats 4000000 in
theorem qitems_calls (p0 : Option Addr) (x1 : Int) (a2 : Option Addr) (n2 : Nat) (c2 : Nat) (w : World) (K : Value → World → Prop) (h : qitems_vc p0 x1 a2 n2 c2 w K) : Calls Try.prog 28 #[.pointer p0, .int .i64 x1, .slice a2 n2 c2] w fun e w' => ∃ v, e = .returned v ∧ K v w' :=
  calls_of_eq envOk Try.func28 qitems_notes [] [.pointer p0, .int .i64 x1, .slice a2 n2 c2] w K h (by as_aux_lemma => kernel_rfl)
/-- purser/purserref22.Ask -/
def qask_k1 (K : Value → World → Prop) (g_2 : Nat) (w_9 : World) : Prop :=
  drewO w_9 fun w_10 =>
  ∃ (a186 : Option Addr) (n186 : Nat) (c186 : Nat), w_10.cell? ⟨g_2, 0, none⟩ = some (.slice a186 n186 c186) ∧
  ∃ bs187 : List UInt8, bs187.length = n186 ∧ RowAt w_10 a186 (bs187.map bV) ∧
  ∃ (b191 : Bool), w_10.cell? ⟨g_2, 1, none⟩ = some (.bool b191) ∧
  K (.tuple #[.string (strOf bs187), .bool (!b191)]) w_10
def qask_vc (x0_0 : Int) (x0_1 : Int) (x0_2 : Int) (x0_3 : Int) (x0_4 : Int) (x0_5 : Int) (x0_6 : Int) (x0_7 : Int) (x0_8 : Int) (x0_9 : Int) (x0_10 : Int) (x0_11 : Int) (a0_12 : Option Addr) (n0_12 : Nat) (c0_12 : Nat) (x0_13 : Int) (x0_14 : Int) (x0_15 : Int) (x0_16 : Int) (x0_17 : Int) (x0_18 : Int) (a0_19 : Option Addr) (n0_19 : Nat) (c0_19 : Nat) (x0_20 : Int) (x0_21 : Int) (x0_22 : Int) (a0_23 : Option Addr) (n0_23 : Nat) (c0_23 : Nat) (a0_24 : Option Addr) (n0_24 : Nat) (c0_24 : Nat) (w : World) (K : Value → World → Prop) : Prop :=
  newO w (.cells #[.int .i64 x0_0, .int .i64 x0_1, .int .i64 x0_2, .int .i64 x0_3, .int .i64 x0_4, .int .i64 x0_5, .int .i64 x0_6, .int .i64 x0_7, .int .i64 x0_8, .int .i64 x0_9, .int .i64 x0_10, .int .i64 x0_11, .slice a0_12 n0_12 c0_12, .int .i64 x0_13, .int .i64 x0_14, .int .i64 x0_15, .int .i64 x0_16, .int .i64 x0_17, .int .i64 x0_18, .slice a0_19 n0_19 c0_19, .int .i64 x0_20, .int .i64 x0_21, .int .i64 x0_22, .slice a0_23 n0_23 c0_23, .slice a0_24 n0_24 c0_24] 30) fun g w_2 =>
  newO w_2 (.cells #[.slice none 0 0, .bool false] 86) fun g_2 w_3 =>
  newO w_3 (.cells #[.int .i64 x0_0] 3) fun g_3 w_4 =>
  Calls Try.prog 27 #[.pointer (some ⟨g_2, 0, none⟩), .slice (some ⟨g_3, 0, none⟩) 1 1] w_4 fun e w_5 => KeepG [g] w_4 w_5 ∧
  e = .returned (.tuple #[]) ∧
  br (decide (x0_0 = 1)) (
    newO w_5 (.cells #[.int .i64 x0_1, .int .i64 x0_3] 3) fun g_4 w_6 =>
    Calls Try.prog 27 #[.pointer (some ⟨g_2, 0, none⟩), .slice (some ⟨g_4, 0, none⟩) 2 2] w_6 fun e_2 w_7 => KeepG [g] w_6 w_7 ∧
    e_2 = .returned (.tuple #[]) ∧
    Calls Try.prog 28 #[.pointer (some ⟨g_2, 0, none⟩), .int .i64 1, .slice a0_12 n0_12 c0_12] w_7 fun e_3 w_8 => KeepG [g] w_7 w_8 ∧
    e_3 = .returned (.tuple #[]) ∧
    qask_k1 K g_2 w_8
  ) (
    br (decide (x0_0 = 2)) (
      newO w_5 (.cells #[.int .i64 x0_1, .int .i64 x0_2] 3) fun g_5 w_11 =>
      Calls Try.prog 27 #[.pointer (some ⟨g_2, 0, none⟩), .slice (some ⟨g_5, 0, none⟩) 2 2] w_11 fun e_4 w_12 => KeepG [g] w_11 w_12 ∧
      e_4 = .returned (.tuple #[]) ∧
      Calls Try.prog 28 #[.pointer (some ⟨g_2, 0, none⟩), .int .i64 x0_0, .slice a0_12 n0_12 c0_12] w_12 fun e_5 w_13 => KeepG [g] w_12 w_13 ∧
      e_5 = .returned (.tuple #[]) ∧
      qask_k1 K g_2 w_13
    ) (
      br (decide (x0_0 = 3)) (
        newO w_5 (.cells #[.int .i64 x0_1, .int .i64 x0_2] 3) fun g_6 w_14 =>
        Calls Try.prog 27 #[.pointer (some ⟨g_2, 0, none⟩), .slice (some ⟨g_6, 0, none⟩) 2 2] w_14 fun e_6 w_15 => KeepG [g] w_14 w_15 ∧
        e_6 = .returned (.tuple #[]) ∧
        Calls Try.prog 28 #[.pointer (some ⟨g_2, 0, none⟩), .int .i64 x0_0, .slice a0_12 n0_12 c0_12] w_15 fun e_7 w_16 => KeepG [g] w_15 w_16 ∧
        e_7 = .returned (.tuple #[]) ∧
        qask_k1 K g_2 w_16
      ) (
        br (decide (x0_0 = 4)) (
          newO w_5 (.cells #[.int .i64 x0_2, .int .i64 x0_3, .int .i64 x0_4, .int .i64 x0_5] 3) fun g_7 w_17 =>
          Calls Try.prog 27 #[.pointer (some ⟨g_2, 0, none⟩), .slice (some ⟨g_7, 0, none⟩) 4 4] w_17 fun e_8 w_18 => KeepG [g] w_17 w_18 ∧
          e_8 = .returned (.tuple #[]) ∧
          qask_k1 K g_2 w_18
        ) (
          br (decide (x0_0 = 5)) (
            newO w_5 (.cells #[.int .i64 x0_2, .int .i64 x0_6] 3) fun g_8 w_19 =>
            Calls Try.prog 27 #[.pointer (some ⟨g_2, 0, none⟩), .slice (some ⟨g_8, 0, none⟩) 2 2] w_19 fun e_9 w_20 => KeepG [g] w_19 w_20 ∧
            e_9 = .returned (.tuple #[]) ∧
            qask_k1 K g_2 w_20
          ) (
            br (decide (x0_0 = 6)) (
              newO w_5 (.cells #[.int .i64 x0_3, .int .i64 x0_7, .int .i64 x0_8] 3) fun g_9 w_21 =>
              Calls Try.prog 27 #[.pointer (some ⟨g_2, 0, none⟩), .slice (some ⟨g_9, 0, none⟩) 3 3] w_21 fun e_10 w_22 => KeepG [g] w_21 w_22 ∧
              e_10 = .returned (.tuple #[]) ∧
              Calls Try.prog 29 #[.pointer (some ⟨g_2, 0, none⟩), .int .i64 x0_9] w_22 fun e_11 w_23 => KeepG [g] w_22 w_23 ∧
              e_11 = .returned (.tuple #[]) ∧
              qask_k1 K g_2 w_23
            ) (
              br (decide (x0_0 = 7)) (
                newO w_5 (.cells #[.int .i64 x0_3, .int .i64 x0_7] 3) fun g_10 w_24 =>
                Calls Try.prog 27 #[.pointer (some ⟨g_2, 0, none⟩), .slice (some ⟨g_10, 0, none⟩) 2 2] w_24 fun e_12 w_25 => KeepG [g] w_24 w_25 ∧
                e_12 = .returned (.tuple #[]) ∧
                qask_k1 K g_2 w_25
              ) (
                br (decide (x0_0 = 8)) (
                  newO w_5 (.cells #[.int .i64 x0_3] 3) fun g_11 w_26 =>
                  Calls Try.prog 27 #[.pointer (some ⟨g_2, 0, none⟩), .slice (some ⟨g_11, 0, none⟩) 1 1] w_26 fun e_13 w_27 => KeepG [g] w_26 w_27 ∧
                  e_13 = .returned (.tuple #[]) ∧
                  qask_k1 K g_2 w_27
                ) (
                  br (decide (x0_0 = 13)) (
                    newO w_5 (.cells #[.int .i64 x0_3] 3) fun g_12 w_28 =>
                    Calls Try.prog 27 #[.pointer (some ⟨g_2, 0, none⟩), .slice (some ⟨g_12, 0, none⟩) 1 1] w_28 fun e_14 w_29 => KeepG [g] w_28 w_29 ∧
                    e_14 = .returned (.tuple #[]) ∧
                    qask_k1 K g_2 w_29
                  ) (
                    br (decide (x0_0 = 9)) (
                      newO w_5 (.cells #[.int .i64 x0_3] 3) fun g_13 w_30 =>
                      Calls Try.prog 27 #[.pointer (some ⟨g_2, 0, none⟩), .slice (some ⟨g_13, 0, none⟩) 1 1] w_30 fun e_15 w_31 => KeepG [g] w_30 w_31 ∧
                      e_15 = .returned (.tuple #[]) ∧
                      Calls Try.prog 29 #[.pointer (some ⟨g_2, 0, none⟩), .int .i64 x0_9] w_31 fun e_16 w_32 => KeepG [g] w_31 w_32 ∧
                      e_16 = .returned (.tuple #[]) ∧
                      qask_k1 K g_2 w_32
                    ) (
                      br (decide (x0_0 = 10)) (
                        newO w_5 (.cells #[.int .i64 x0_3, .int .i64 x0_10] 3) fun g_14 w_33 =>
                        Calls Try.prog 27 #[.pointer (some ⟨g_2, 0, none⟩), .slice (some ⟨g_14, 0, none⟩) 2 2] w_33 fun e_17 w_34 => KeepG [g] w_33 w_34 ∧
                        e_17 = .returned (.tuple #[]) ∧
                        qask_k1 K g_2 w_34
                      ) (
                        br (decide (x0_0 = 11)) (
                          ∃ (b123 : Bool), w_5.cell? ⟨g_2, 1, none⟩ = some (.bool b123) ∧
                          br b123 (
                            stO [g] w_5 g_2 1 [.bool true] fun w_35 =>
                            ∃ (b135 : Bool), w_35.cell? ⟨g_2, 1, none⟩ = some (.bool b135) ∧
                            br (!b135) (
                              drewO w_35 fun w_36 =>
                              ∃ (a141 : Option Addr) (n141 : Nat) (c141 : Nat), w_36.cell? ⟨g_2, 0, none⟩ = some (.slice a141 n141 c141) ∧
                              Calls Try.prog 32 #[.agg #[.int .i64 x0_13, .int .i64 x0_14, .int .i64 x0_15, .int .i64 x0_16, .int .i64 x0_17, .int .i64 x0_18, .slice a0_19 n0_19 c0_19, .int .i64 x0_20, .int .i64 x0_21, .int .i64 x0_22, .slice a0_23 n0_23 c0_23]] w_36 fun e_18 w_37 => KeepG [g] w_36 w_37 ∧
                              ∃ (s144 : ByteArray),
                              e_18 = .returned (.string s144) ∧
                              w_37.cell? ⟨g_2, 0, none⟩ = some (.slice a141 n141 c141) ∧
                              Calls Try.prog 31 #[.string s144] w_37 fun e_19 w_38 => KeepG [g] w_37 w_38 ∧
                              ∃ (s145 : ByteArray),
                              e_19 = .returned (.string s145) ∧
                              w_38.cell? ⟨g_2, 0, none⟩ = some (.slice a141 n141 c141) ∧
                              appO Try.prog [g] w_38 5 1 1 9 a141 n141 c141 (.string s145) fun m146 a146 c146 w_39 =>
                              stO [g] w_39 g_2 0 [.slice a146 (n141 + m146) c146] fun w_40 =>
                              qask_k1 K g_2 w_40
                            ) (
                              qask_k1 K g_2 w_35
                            )
                          ) (
                            Calls Try.prog 30 #[.agg #[.int .i64 x0_13, .int .i64 x0_14, .int .i64 x0_15, .int .i64 x0_16, .int .i64 x0_17, .int .i64 x0_18, .slice a0_19 n0_19 c0_19, .int .i64 x0_20, .int .i64 x0_21, .int .i64 x0_22, .slice a0_23 n0_23 c0_23]] w_5 fun e_20 w_41 => KeepG [g] w_5 w_41 ∧
                            ∃ (x127 : Int),
                            e_20 = .returned (.int .i64 x127) ∧
                            stO [g] w_41 g_2 1 [.bool (decide (x127 ≠ 0))] fun w_42 =>
                            ∃ (b135_2 : Bool), w_42.cell? ⟨g_2, 1, none⟩ = some (.bool b135_2) ∧
                            br (!b135_2) (
                              drewO w_42 fun w_43 =>
                              ∃ (a141_2 : Option Addr) (n141_2 : Nat) (c141_2 : Nat), w_43.cell? ⟨g_2, 0, none⟩ = some (.slice a141_2 n141_2 c141_2) ∧
                              Calls Try.prog 32 #[.agg #[.int .i64 x0_13, .int .i64 x0_14, .int .i64 x0_15, .int .i64 x0_16, .int .i64 x0_17, .int .i64 x0_18, .slice a0_19 n0_19 c0_19, .int .i64 x0_20, .int .i64 x0_21, .int .i64 x0_22, .slice a0_23 n0_23 c0_23]] w_43 fun e_21 w_44 => KeepG [g] w_43 w_44 ∧
                              ∃ (s144_2 : ByteArray),
                              e_21 = .returned (.string s144_2) ∧
                              w_44.cell? ⟨g_2, 0, none⟩ = some (.slice a141_2 n141_2 c141_2) ∧
                              Calls Try.prog 31 #[.string s144_2] w_44 fun e_22 w_45 => KeepG [g] w_44 w_45 ∧
                              ∃ (s145_2 : ByteArray),
                              e_22 = .returned (.string s145_2) ∧
                              w_45.cell? ⟨g_2, 0, none⟩ = some (.slice a141_2 n141_2 c141_2) ∧
                              appO Try.prog [g] w_45 5 1 1 9 a141_2 n141_2 c141_2 (.string s145_2) fun m146_2 a146_2 c146_2 w_46 =>
                              stO [g] w_46 g_2 0 [.slice a146_2 (n141_2 + m146_2) c146_2] fun w_47 =>
                              qask_k1 K g_2 w_47
                            ) (
                              qask_k1 K g_2 w_42
                            )
                          )
                        ) (
                          br (decide (x0_0 = 12)) (
                            ∃ (b155 : Bool), w_5.cell? ⟨g_2, 1, none⟩ = some (.bool b155) ∧
                            br b155 (
                              stO [g] w_5 g_2 1 [.bool true] fun w_48 =>
                              newO w_48 (.cells #[.int .i64 ((n0_24 : Nat) : Int)] 3) fun g_15 w_49 =>
                              Calls Try.prog 27 #[.pointer (some ⟨g_2, 0, none⟩), .slice (some ⟨g_15, 0, none⟩) 1 1] w_49 fun e_23 w_50 => KeepG [g] w_49 w_50 ∧
                              e_23 = .returned (.tuple #[]) ∧
                              Calls Try.prog 27 #[.pointer (some ⟨g_2, 0, none⟩), .slice a0_24 n0_24 c0_24] w_50 fun e_24 w_51 => KeepG [g] w_50 w_51 ∧
                              e_24 = .returned (.tuple #[]) ∧
                              qask_k1 K g_2 w_51
                            ) (
                              stO [g] w_5 g_2 1 [.bool (decide (((n0_24 : Nat) : Int) > 32))] fun w_52 =>
                              newO w_52 (.cells #[.int .i64 ((n0_24 : Nat) : Int)] 3) fun g_16 w_53 =>
                              Calls Try.prog 27 #[.pointer (some ⟨g_2, 0, none⟩), .slice (some ⟨g_16, 0, none⟩) 1 1] w_53 fun e_25 w_54 => KeepG [g] w_53 w_54 ∧
                              e_25 = .returned (.tuple #[]) ∧
                              Calls Try.prog 27 #[.pointer (some ⟨g_2, 0, none⟩), .slice a0_24 n0_24 c0_24] w_54 fun e_26 w_55 => KeepG [g] w_54 w_55 ∧
                              e_26 = .returned (.tuple #[]) ∧
                              qask_k1 K g_2 w_55
                            )
                          ) (
                            br (decide (x0_0 = 14)) (
                              newO w_5 (.cells #[.int .i64 x0_3, .int .i64 x0_11] 3) fun g_17 w_56 =>
                              Calls Try.prog 27 #[.pointer (some ⟨g_2, 0, none⟩), .slice (some ⟨g_17, 0, none⟩) 2 2] w_56 fun e_27 w_57 => KeepG [g] w_56 w_57 ∧
                              e_27 = .returned (.tuple #[]) ∧
                              qask_k1 K g_2 w_57
                            ) (
                              K (.tuple #[.string (⟨#[]⟩ : ByteArray), .bool false]) w_5
                            )
                          )
                        )
                      )
                    )
                  )
                )
              )
            )
          )
        )
      )
    )
  )
def qask_notes : Notes := ⟨[(39, ⟨[0, 1, 3, 7, 15, 0, 32, 96, 224, 480, 31, 2047], [], [0, 1, 2, 3, 4, 5, 6, 7, 8, 9, 10, 11]⟩), (32, ⟨[0, 0, 2, 6, 14, 0, 32, 96, 224, 510, 1023, 2047, 4095], [7, 8, 9, 12], [0, 1, 2, 3, 4, 5, 6, 10, 11]⟩)], [], [], []⟩
set_option maxHeartbeats 4000000 in
theorem qask_calls (x0_0 : Int) (x0_1 : Int) (x0_2 : Int) (x0_3 : Int) (x0_4 : Int) (x0_5 : Int) (x0_6 : Int) (x0_7 : Int) (x0_8 : Int) (x0_9 : Int) (x0_10 : Int) (x0_11 : Int) (a0_12 : Option Addr) (n0_12 : Nat) (c0_12 : Nat) (x0_13 : Int) (x0_14 : Int) (x0_15 : Int) (x0_16 : Int) (x0_17 : Int) (x0_18 : Int) (a0_19 : Option Addr) (n0_19 : Nat) (c0_19 : Nat) (x0_20 : Int) (x0_21 : Int) (x0_22 : Int) (a0_23 : Option Addr) (n0_23 : Nat) (c0_23 : Nat) (a0_24 : Option Addr) (n0_24 : Nat) (c0_24 : Nat) (w : World) (K : Value → World → Prop) (h : qask_vc x0_0 x0_1 x0_2 x0_3 x0_4 x0_5 x0_6 x0_7 x0_8 x0_9 x0_10 x0_11 a0_12 n0_12 c0_12 x0_13 x0_14 x0_15 x0_16 x0_17 x0_18 a0_19 n0_19 c0_19 x0_20 x0_21 x0_22 a0_23 n0_23 c0_23 a0_24 n0_24 c0_24 w K) : Calls Try.prog 10 #[.agg #[.int .i64 x0_0, .int .i64 x0_1, .int .i64 x0_2, .int .i64 x0_3, .int .i64 x0_4, .int .i64 x0_5, .int .i64 x0_6, .int .i64 x0_7, .int .i64 x0_8, .int .i64 x0_9, .int .i64 x0_10, .int .i64 x0_11, .slice a0_12 n0_12 c0_12, .int .i64 x0_13, .int .i64 x0_14, .int .i64 x0_15, .int .i64 x0_16, .int .i64 x0_17, .int .i64 x0_18, .slice a0_19 n0_19 c0_19, .int .i64 x0_20, .int .i64 x0_21, .int .i64 x0_22, .slice a0_23 n0_23 c0_23, .slice a0_24 n0_24 c0_24]] w fun e w' => ∃ v, e = .returned v ∧ K v w' :=
  calls_of_eq envOk Try.func10 qask_notes [1] [.agg #[.int .i64 x0_0, .int .i64 x0_1, .int .i64 x0_2, .int .i64 x0_3, .int .i64 x0_4, .int .i64 x0_5, .int .i64 x0_6, .int .i64 x0_7, .int .i64 x0_8, .int .i64 x0_9, .int .i64 x0_10, .int .i64 x0_11, .slice a0_12 n0_12 c0_12, .int .i64 x0_13, .int .i64 x0_14, .int .i64 x0_15, .int .i64 x0_16, .int .i64 x0_17, .int .i64 x0_18, .slice a0_19 n0_19 c0_19, .int .i64 x0_20, .int .i64 x0_21, .int .i64 x0_22, .slice a0_23 n0_23 c0_23, .slice a0_24 n0_24 c0_24]] w K h (by as_aux_lemma => kernel_rfl)
/-- purser/purserref22.limit -/
def qrlim_vc (p0 : Option Addr) (w : World) (K : Value → World → Prop) : Prop :=
  Calls Try.prog 69 #[.pointer p0] w fun e w_2 => KeepG [] w w_2 ∧
  ∃ (x6 : Int),
  e = .returned (.int .i64 x6) ∧
  br (decide (x6 ≥ (-1))) (
    K (.tuple #[.int .i64 x6, .bool (decide (x6 ≤ 4611686018427387904))]) w_2
  ) (
    K (.tuple #[.int .i64 x6, .bool false]) w_2
  )
def qrlim_notes : Notes := ⟨[], [], [], []⟩
set_option maxHeartbeats 4000000 in
theorem qrlim_calls (p0 : Option Addr) (w : World) (K : Value → World → Prop) (h : qrlim_vc p0 w K) : Calls Try.prog 40 #[.pointer p0] w fun e w' => ∃ v, e = .returned v ∧ K v w' :=
  calls_of_eq envOk Try.func40 qrlim_notes [] [.pointer p0] w K h (by as_aux_lemma => kernel_rfl)
/-- purser/purserref22.items -/
def qritems_k1 (I : Option Addr → Nat → Nat → Int → World → Prop) (μ : Option Addr → Nat → Nat → Int → World → Nat) (p0 : Option Addr) (x1 : Int) (a5 : Option Addr) (n5 : Nat) (c5 : Nat) (x7 : Int) (w_3 : World) (g : Nat) (x8_0 : Int) (x8_1 : Int) (x8_2 : Int) (w_9 : World) : Prop :=
  br (decide (x1 < 3)) (
    Calls Try.prog 38 #[.pointer p0, .int .i64 4611686018427387904] w_9 fun e_4 w_10 => KeepG [g] w_9 w_10 ∧
    ∃ (x34 : Int),
    e_4 = .returned (.int .i64 x34) ∧
    ∀ w_11 : World, BoxSt g w_10 w_11 →
    newO w_11 (.cells #[.int .i64 x8_0, .int .i64 x8_1, .int .i64 x34] 81) fun g_4 w_16 =>
    appO Try.prog [g] w_16 81 3 24 22 a5 n5 c5 (.slice (some ⟨g_4, 0, none⟩) 1 1) fun m39_2 a39_2 c39_2 w_17 =>
    I a39_2 (n5 + m39_2) c39_2 (IntKind.i64.wrap (x7 + 1)) w_17 ∧ μ a39_2 (n5 + m39_2) c39_2 (IntKind.i64.wrap (x7 + 1)) w_17 < μ a5 n5 c5 x7 w_3
  ) (
    newO w_9 (.cells #[.int .i64 x8_0, .int .i64 x8_1, .int .i64 x8_2] 81) fun g_5 w_18 =>
    appO Try.prog [g] w_18 81 3 24 22 a5 n5 c5 (.slice (some ⟨g_5, 0, none⟩) 1 1) fun m39_3 a39_3 c39_3 w_19 =>
    I a39_3 (n5 + m39_3) c39_3 (IntKind.i64.wrap (x7 + 1)) w_19 ∧ μ a39_3 (n5 + m39_3) c39_3 (IntKind.i64.wrap (x7 + 1)) w_19 < μ a5 n5 c5 x7 w_3
  )
def qritems_vc (p0 : Option Addr) (x1 : Int) (w : World) (K : Value → World → Prop) : Prop :=
  Calls Try.prog 38 #[.pointer p0, .int .i64 4] w fun e w_2 => KeepG [] w w_2 ∧
  ∃ (x10 : Int),
  e = .returned (.int .i64 x10) ∧
  ∃ (I : Option Addr → Nat → Nat → Int → World → Prop) (μ : Option Addr → Nat → Nat → Int → World → Nat),
  I none 0 0 0 w_2 ∧
  ∀ (a5 : Option Addr) (n5 : Nat) (c5 : Nat) (x7 : Int) (w_3 : World), I a5 n5 c5 x7 w_3 →
  br (decide (x7 < x10)) (
    withP p0 fun g16 o16 =>
    ∃ (x18 : Int), w_3.cell? ⟨g16, o16 + 1, none⟩ = some (.int .i64 x18) ∧
    br (decide (x18 = 0)) (
      newO w_3 (.cells #[.int .i64 0, .int .i64 0, .int .i64 0] 81) fun g w_4 =>
      Calls Try.prog 38 #[.pointer p0, .int .i64 4611686018427387904] w_4 fun e_2 w_5 => KeepG [g] w_4 w_5 ∧
      ∃ (x24 : Int),
      e_2 = .returned (.int .i64 x24) ∧
      ∀ w_6 : World, BoxSt g w_5 w_6 →
      br (decide (x1 > 1)) (
        Calls Try.prog 38 #[.pointer p0, .int .i64 4611686018427387904] w_6 fun e_3 w_7 => KeepG [g] w_6 w_7 ∧
        ∃ (x29 : Int),
        e_3 = .returned (.int .i64 x29) ∧
        ∀ w_8 : World, BoxSt g w_7 w_8 →
        qritems_k1 I μ p0 x1 a5 n5 c5 x7 w_3 g x24 x29 0 w_8
      ) (
        qritems_k1 I μ p0 x1 a5 n5 c5 x7 w_3 g x24 0 0 w_6
      )
    ) (
      K (.slice a5 n5 c5) w_3
    )
  ) (
    K (.slice a5 n5 c5) w_3
  )
def qritems_notes : Notes := ⟨[], [(4, ⟨[(5, .lf (.slice)), (7, .lf (.int .i64))], [], [11, 12, 13, 14, 15, 16, 17, 18, 19, 20, 8, 23, 24, 25, 26, 27, 28, 29, 30, 31, 32, 33, 34, 35, 36, 37, 38, 39, 5, 21, 22, 7], [8]⟩)], [], []⟩
set_option maxHeartbeats 4000000 in
theorem qritems_calls (p0 : Option Addr) (x1 : Int) (w : World) (K : Value → World → Prop) (h : qritems_vc p0 x1 w K) : Calls Try.prog 39 #[.pointer p0, .int .i64 x1] w fun e w' => ∃ v, e = .returned v ∧ K v w' :=
  calls_of_eq envOk Try.func39 qritems_notes [8] [.pointer p0, .int .i64 x1] w K h (by as_aux_lemma => kernel_rfl)
/-- purser/purserref22.Asked -/
def qasked_k1 (K : Value → World → Prop) (g : Nat) (g_2 : Nat) (g_3 : Nat) (x5_0 : Int) (x5_1 : Int) (x5_2 : Int) (x5_3 : Int) (x5_4 : Int) (x5_5 : Int) (x5_6 : Int) (x5_7 : Int) (x5_8 : Int) (x5_9 : Int) (x5_10 : Int) (x5_11 : Int) (a5_12 : Option Addr) (n5_12 : Nat) (c5_12 : Nat) (x5_13 : Int) (x5_14 : Int) (x5_15 : Int) (x5_16 : Int) (x5_17 : Int) (x5_18 : Int) (a5_19 : Option Addr) (n5_19 : Nat) (c5_19 : Nat) (x5_20 : Int) (x5_21 : Int) (x5_22 : Int) (a5_23 : Option Addr) (n5_23 : Nat) (c5_23 : Nat) (a5_24 : Option Addr) (n5_24 : Nat) (c5_24 : Nat) (w_13 : World) : Prop :=
  Calls Try.prog 43 #[.pointer (some ⟨g_2, 0, none⟩)] w_13 fun e_5 w_14 => KeepG [g_3, g] w_13 w_14 ∧
  ∃ (x164 : Int),
  e_5 = .returned (.int .i64 x164) ∧
  br (decide (x164 ≠ 0)) (
    ∀ w_15 : World, BoxSt g w_14 w_15 →
    K (.tuple #[.agg #[.int .i64 0, .int .i64 0, .int .i64 0, .int .i64 0, .int .i64 0, .int .i64 0, .int .i64 0, .int .i64 0, .int .i64 0, .int .i64 0, .int .i64 0, .int .i64 0, .slice none 0 0, .int .i64 0, .int .i64 0, .int .i64 0, .int .i64 0, .int .i64 0, .int .i64 0, .slice none 0 0, .int .i64 0, .int .i64 0, .int .i64 0, .slice none 0 0, .slice none 0 0], .bool false]) w_15
  ) (
    ∀ w_16 : World, BoxSt g w_14 w_16 →
    K (.tuple #[.agg #[.int .i64 x5_0, .int .i64 x5_1, .int .i64 x5_2, .int .i64 x5_3, .int .i64 x5_4, .int .i64 x5_5, .int .i64 x5_6, .int .i64 x5_7, .int .i64 x5_8, .int .i64 x5_9, .int .i64 x5_10, .int .i64 x5_11, .slice a5_12 n5_12 c5_12, .int .i64 x5_13, .int .i64 x5_14, .int .i64 x5_15, .int .i64 x5_16, .int .i64 x5_17, .int .i64 x5_18, .slice a5_19 n5_19 c5_19, .int .i64 x5_20, .int .i64 x5_21, .int .i64 x5_22, .slice a5_23 n5_23 c5_23, .slice a5_24 n5_24 c5_24], .bool true]) w_16
  )
def qasked_k2 (K : Value → World → Prop) (g : Nat) (g_2 : Nat) (g_3 : Nat) (b6 : Bool) (x5_0_2 : Int) (x5_1_2 : Int) (x5_2_2 : Int) (x5_3_2 : Int) (x5_4_2 : Int) (x5_5_2 : Int) (x5_6_2 : Int) (x5_7_2 : Int) (x5_8_2 : Int) (x5_9_2 : Int) (x5_10_2 : Int) (x5_11_2 : Int) (a5_12_2 : Option Addr) (n5_12_2 : Nat) (c5_12_2 : Nat) (x5_13_2 : Int) (x5_14_2 : Int) (x5_15_2 : Int) (x5_16_2 : Int) (x5_17_2 : Int) (x5_18_2 : Int) (a5_19_2 : Option Addr) (n5_19_2 : Nat) (c5_19_2 : Nat) (x5_20_2 : Int) (x5_21_2 : Int) (x5_22_2 : Int) (a5_23_2 : Option Addr) (n5_23_2 : Nat) (c5_23_2 : Nat) (a5_24_2 : Option Addr) (n5_24_2 : Nat) (c5_24_2 : Nat) (w_49 : World) : Prop :=
  br (!b6) (
    ∀ w_50 : World, BoxSt g w_49 w_50 →
    K (.tuple #[.agg #[.int .i64 0, .int .i64 0, .int .i64 0, .int .i64 0, .int .i64 0, .int .i64 0, .int .i64 0, .int .i64 0, .int .i64 0, .int .i64 0, .int .i64 0, .int .i64 0, .slice none 0 0, .int .i64 0, .int .i64 0, .int .i64 0, .int .i64 0, .int .i64 0, .int .i64 0, .slice none 0 0, .int .i64 0, .int .i64 0, .int .i64 0, .slice none 0 0, .slice none 0 0], .bool false]) w_50
  ) (
    Calls Try.prog 43 #[.pointer (some ⟨g_2, 0, none⟩)] w_49 fun e_22 w_51 => KeepG [g_3, g] w_49 w_51 ∧
    ∃ (x164_2 : Int),
    e_22 = .returned (.int .i64 x164_2) ∧
    br (decide (x164_2 ≠ 0)) (
      ∀ w_52 : World, BoxSt g w_51 w_52 →
      K (.tuple #[.agg #[.int .i64 0, .int .i64 0, .int .i64 0, .int .i64 0, .int .i64 0, .int .i64 0, .int .i64 0, .int .i64 0, .int .i64 0, .int .i64 0, .int .i64 0, .int .i64 0, .slice none 0 0, .int .i64 0, .int .i64 0, .int .i64 0, .int .i64 0, .int .i64 0, .int .i64 0, .slice none 0 0, .int .i64 0, .int .i64 0, .int .i64 0, .slice none 0 0, .slice none 0 0], .bool false]) w_52
    ) (
      ∀ w_53 : World, BoxSt g w_51 w_53 →
      K (.tuple #[.agg #[.int .i64 x5_0_2, .int .i64 x5_1_2, .int .i64 x5_2_2, .int .i64 x5_3_2, .int .i64 x5_4_2, .int .i64 x5_5_2, .int .i64 x5_6_2, .int .i64 x5_7_2, .int .i64 x5_8_2, .int .i64 x5_9_2, .int .i64 x5_10_2, .int .i64 x5_11_2, .slice a5_12_2 n5_12_2 c5_12_2, .int .i64 x5_13_2, .int .i64 x5_14_2, .int .i64 x5_15_2, .int .i64 x5_16_2, .int .i64 x5_17_2, .int .i64 x5_18_2, .slice a5_19_2 n5_19_2 c5_19_2, .int .i64 x5_20_2, .int .i64 x5_21_2, .int .i64 x5_22_2, .slice a5_23_2 n5_23_2 c5_23_2, .slice a5_24_2 n5_24_2 c5_24_2], .bool true]) w_53
    )
  )
def qasked_vc (s0 : ByteArray) (w : World) (K : Value → World → Prop) : Prop :=
  newO w (.cells #[.int .i64 0, .int .i64 0, .int .i64 0, .int .i64 0, .int .i64 0, .int .i64 0, .int .i64 0, .int .i64 0, .int .i64 0, .int .i64 0, .int .i64 0, .int .i64 0, .slice none 0 0, .int .i64 0, .int .i64 0, .int .i64 0, .int .i64 0, .int .i64 0, .int .i64 0, .slice none 0 0, .int .i64 0, .int .i64 0, .int .i64 0, .slice none 0 0, .slice none 0 0] 30) fun g w_2 =>
  newO w_2 (.cells #[.string s0, .int .i64 0] 100) fun g_2 w_3 =>
  Calls Try.prog 38 #[.pointer (some ⟨g_2, 0, none⟩), .int .i64 4611686018427387904] w_3 fun e w_4 => KeepG [g] w_3 w_4 ∧
  ∃ (x15 : Int),
  e = .returned (.int .i64 x15) ∧
  newO w_4 (.cells #[.int .i64 0, .int .i64 0, .int .i64 0, .int .i64 0, .int .i64 0, .int .i64 0, .int .i64 0, .int .i64 0, .int .i64 0, .int .i64 0, .int .i64 0, .int .i64 0, .slice none 0 0, .int .i64 0, .int .i64 0, .int .i64 0, .int .i64 0, .int .i64 0, .int .i64 0, .slice none 0 0, .int .i64 0, .int .i64 0, .int .i64 0, .slice none 0 0, .slice none 0 0] 30) fun g_3 w_5 =>
  ∀ w_6 : World, BoxSt g_3 w_5 w_6 →
  br (decide (x15 = 1)) (
    Calls Try.prog 38 #[.pointer (some ⟨g_2, 0, none⟩), .int .i64 4611686018427387904] w_6 fun e_2 w_7 => KeepG [g_3, g] w_6 w_7 ∧
    ∃ (x23 : Int),
    e_2 = .returned (.int .i64 x23) ∧
    ∀ w_8 : World, BoxSt g_3 w_7 w_8 →
    Calls Try.prog 38 #[.pointer (some ⟨g_2, 0, none⟩), .int .i64 4611686018427387904] w_8 fun e_3 w_9 => KeepG [g_3, g] w_8 w_9 ∧
    ∃ (x26 : Int),
    e_3 = .returned (.int .i64 x26) ∧
    ∀ w_10 : World, BoxSt g_3 w_9 w_10 →
    Calls Try.prog 39 #[.pointer (some ⟨g_2, 0, none⟩), .int .i64 1] w_10 fun e_4 w_11 => KeepG [g_3, g] w_10 w_11 ∧
    ∃ (a29 : Option Addr) (n29 : Nat) (c29 : Nat),
    e_4 = .returned (.slice a29 n29 c29) ∧
    ∀ w_12 : World, BoxSt g_3 w_11 w_12 →
    qasked_k1 K g g_2 g_3 x15 x23 0 x26 0 0 0 0 0 0 0 0 a29 n29 c29 0 0 0 0 0 0 none 0 0 0 0 0 none 0 0 none 0 0 w_12
  ) (
    br (decide (x15 = 2)) (
      Calls Try.prog 38 #[.pointer (some ⟨g_2, 0, none⟩), .int .i64 4611686018427387904] w_6 fun e_6 w_17 => KeepG [g_3, g] w_6 w_17 ∧
      ∃ (x35 : Int),
      e_6 = .returned (.int .i64 x35) ∧
      ∀ w_18 : World, BoxSt g_3 w_17 w_18 →
      Calls Try.prog 38 #[.pointer (some ⟨g_2, 0, none⟩), .int .i64 4611686018427387904] w_18 fun e_7 w_19 => KeepG [g_3, g] w_18 w_19 ∧
      ∃ (x38 : Int),
      e_7 = .returned (.int .i64 x38) ∧
      ∀ w_20 : World, BoxSt g_3 w_19 w_20 →
      Calls Try.prog 39 #[.pointer (some ⟨g_2, 0, none⟩), .int .i64 x15] w_20 fun e_8 w_21 => KeepG [g_3, g] w_20 w_21 ∧
      ∃ (a43 : Option Addr) (n43 : Nat) (c43 : Nat),
      e_8 = .returned (.slice a43 n43 c43) ∧
      ∀ w_22 : World, BoxSt g_3 w_21 w_22 →
      qasked_k1 K g g_2 g_3 x15 x35 x38 0 0 0 0 0 0 0 0 0 a43 n43 c43 0 0 0 0 0 0 none 0 0 0 0 0 none 0 0 none 0 0 w_22
    ) (
      br (decide (x15 = 3)) (
        Calls Try.prog 38 #[.pointer (some ⟨g_2, 0, none⟩), .int .i64 4611686018427387904] w_6 fun e_9 w_23 => KeepG [g_3, g] w_6 w_23 ∧
        ∃ (x35_2 : Int),
        e_9 = .returned (.int .i64 x35_2) ∧
        ∀ w_24 : World, BoxSt g_3 w_23 w_24 →
        Calls Try.prog 38 #[.pointer (some ⟨g_2, 0, none⟩), .int .i64 4611686018427387904] w_24 fun e_10 w_25 => KeepG [g_3, g] w_24 w_25 ∧
        ∃ (x38_2 : Int),
        e_10 = .returned (.int .i64 x38_2) ∧
        ∀ w_26 : World, BoxSt g_3 w_25 w_26 →
        Calls Try.prog 39 #[.pointer (some ⟨g_2, 0, none⟩), .int .i64 x15] w_26 fun e_11 w_27 => KeepG [g_3, g] w_26 w_27 ∧
        ∃ (a43_2 : Option Addr) (n43_2 : Nat) (c43_2 : Nat),
        e_11 = .returned (.slice a43_2 n43_2 c43_2) ∧
        ∀ w_28 : World, BoxSt g_3 w_27 w_28 →
        qasked_k1 K g g_2 g_3 x15 x35_2 x38_2 0 0 0 0 0 0 0 0 0 a43_2 n43_2 c43_2 0 0 0 0 0 0 none 0 0 0 0 0 none 0 0 none 0 0 w_28
      ) (
        br (decide (x15 = 4)) (
          Calls Try.prog 38 #[.pointer (some ⟨g_2, 0, none⟩), .int .i64 4611686018427387904] w_6 fun e_12 w_29 => KeepG [g_3, g] w_6 w_29 ∧
          ∃ (x48 : Int),
          e_12 = .returned (.int .i64 x48) ∧
          ∀ w_30 : World, BoxSt g_3 w_29 w_30 →
          Calls Try.prog 38 #[.pointer (some ⟨g_2, 0, none⟩), .int .i64 4611686018427387904] w_30 fun e_13 w_31 => KeepG [g_3, g] w_30 w_31 ∧
          ∃ (x51 : Int),
          e_13 = .returned (.int .i64 x51) ∧
          ∀ w_32 : World, BoxSt g_3 w_31 w_32 →
          Calls Try.prog 38 #[.pointer (some ⟨g_2, 0, none⟩), .int .i64 4611686018427387904] w_32 fun e_14 w_33 => KeepG [g_3, g] w_32 w_33 ∧
          ∃ (x54 : Int),
          e_14 = .returned (.int .i64 x54) ∧
          ∀ w_34 : World, BoxSt g_3 w_33 w_34 →
          Calls Try.prog 38 #[.pointer (some ⟨g_2, 0, none⟩), .int .i64 4611686018427387904] w_34 fun e_15 w_35 => KeepG [g_3, g] w_34 w_35 ∧
          ∃ (x57 : Int),
          e_15 = .returned (.int .i64 x57) ∧
          ∀ w_36 : World, BoxSt g_3 w_35 w_36 →
          qasked_k1 K g g_2 g_3 x15 0 x48 x51 x54 x57 0 0 0 0 0 0 none 0 0 0 0 0 0 0 0 none 0 0 0 0 0 none 0 0 none 0 0 w_36
        ) (
          br (decide (x15 = 5)) (
            Calls Try.prog 38 #[.pointer (some ⟨g_2, 0, none⟩), .int .i64 4611686018427387904] w_6 fun e_16 w_37 => KeepG [g_3, g] w_6 w_37 ∧
            ∃ (x62 : Int),
            e_16 = .returned (.int .i64 x62) ∧
            ∀ w_38 : World, BoxSt g_3 w_37 w_38 →
            Calls Try.prog 38 #[.pointer (some ⟨g_2, 0, none⟩), .int .i64 4611686018427387904] w_38 fun e_17 w_39 => KeepG [g_3, g] w_38 w_39 ∧
            ∃ (x65 : Int),
            e_17 = .returned (.int .i64 x65) ∧
            ∀ w_40 : World, BoxSt g_3 w_39 w_40 →
            qasked_k1 K g g_2 g_3 x15 0 x62 0 0 0 x65 0 0 0 0 0 none 0 0 0 0 0 0 0 0 none 0 0 0 0 0 none 0 0 none 0 0 w_40
          ) (
            br (decide (x15 = 6)) (
              Calls Try.prog 38 #[.pointer (some ⟨g_2, 0, none⟩), .int .i64 4611686018427387904] w_6 fun e_18 w_41 => KeepG [g_3, g] w_6 w_41 ∧
              ∃ (x70 : Int),
              e_18 = .returned (.int .i64 x70) ∧
              ∀ w_42 : World, BoxSt g_3 w_41 w_42 →
              Calls Try.prog 38 #[.pointer (some ⟨g_2, 0, none⟩), .int .i64 4611686018427387904] w_42 fun e_19 w_43 => KeepG [g_3, g] w_42 w_43 ∧
              ∃ (x73 : Int),
              e_19 = .returned (.int .i64 x73) ∧
              ∀ w_44 : World, BoxSt g_3 w_43 w_44 →
              Calls Try.prog 38 #[.pointer (some ⟨g_2, 0, none⟩), .int .i64 4611686018427387904] w_44 fun e_20 w_45 => KeepG [g_3, g] w_44 w_45 ∧
              ∃ (x76 : Int),
              e_20 = .returned (.int .i64 x76) ∧
              ∀ w_46 : World, BoxSt g_3 w_45 w_46 →
              Calls Try.prog 40 #[.pointer (some ⟨g_2, 0, none⟩)] w_46 fun e_21 w_47 => KeepG [g_3, g] w_46 w_47 ∧
              ∃ (x80_0 : Int) (b80_1 : Bool),
              e_21 = .returned (.tuple #[.int .i64 x80_0, .bool b80_1]) ∧
              ∀ w_48 : World, BoxSt g_3 w_47 w_48 →
              qasked_k2 K g g_2 g_3 b80_1 x15 0 0 x70 0 0 0 x73 x76 x80_0 0 0 none 0 0 0 0 0 0 0 0 none 0 0 0 0 0 none 0 0 none 0 0 w_48
            ) (
              br (decide (x15 = 7)) (
                Calls Try.prog 38 #[.pointer (some ⟨g_2, 0, none⟩), .int .i64 4611686018427387904] w_6 fun e_23 w_54 => KeepG [g_3, g] w_6 w_54 ∧
                ∃ (x87 : Int),
                e_23 = .returned (.int .i64 x87) ∧
                ∀ w_55 : World, BoxSt g_3 w_54 w_55 →
                Calls Try.prog 38 #[.pointer (some ⟨g_2, 0, none⟩), .int .i64 4611686018427387904] w_55 fun e_24 w_56 => KeepG [g_3, g] w_55 w_56 ∧
                ∃ (x90 : Int),
                e_24 = .returned (.int .i64 x90) ∧
                ∀ w_57 : World, BoxSt g_3 w_56 w_57 →
                qasked_k1 K g g_2 g_3 x15 0 0 x87 0 0 0 x90 0 0 0 0 none 0 0 0 0 0 0 0 0 none 0 0 0 0 0 none 0 0 none 0 0 w_57
              ) (
                br (decide (x15 = 8)) (
                  Calls Try.prog 38 #[.pointer (some ⟨g_2, 0, none⟩), .int .i64 4611686018427387904] w_6 fun e_25 w_58 => KeepG [g_3, g] w_6 w_58 ∧
                  ∃ (x96 : Int),
                  e_25 = .returned (.int .i64 x96) ∧
                  ∀ w_59 : World, BoxSt g_3 w_58 w_59 →
                  qasked_k1 K g g_2 g_3 x15 0 0 x96 0 0 0 0 0 0 0 0 none 0 0 0 0 0 0 0 0 none 0 0 0 0 0 none 0 0 none 0 0 w_59
                ) (
                  br (decide (x15 = 13)) (
                    Calls Try.prog 38 #[.pointer (some ⟨g_2, 0, none⟩), .int .i64 4611686018427387904] w_6 fun e_26 w_60 => KeepG [g_3, g] w_6 w_60 ∧
                    ∃ (x96_2 : Int),
                    e_26 = .returned (.int .i64 x96_2) ∧
                    ∀ w_61 : World, BoxSt g_3 w_60 w_61 →
                    qasked_k1 K g g_2 g_3 x15 0 0 x96_2 0 0 0 0 0 0 0 0 none 0 0 0 0 0 0 0 0 none 0 0 0 0 0 none 0 0 none 0 0 w_61
                  ) (
                    br (decide (x15 = 9)) (
                      Calls Try.prog 38 #[.pointer (some ⟨g_2, 0, none⟩), .int .i64 4611686018427387904] w_6 fun e_27 w_62 => KeepG [g_3, g] w_6 w_62 ∧
                      ∃ (x101 : Int),
                      e_27 = .returned (.int .i64 x101) ∧
                      ∀ w_63 : World, BoxSt g_3 w_62 w_63 →
                      Calls Try.prog 40 #[.pointer (some ⟨g_2, 0, none⟩)] w_63 fun e_28 w_64 => KeepG [g_3, g] w_63 w_64 ∧
                      ∃ (x105_0 : Int) (b105_1 : Bool),
                      e_28 = .returned (.tuple #[.int .i64 x105_0, .bool b105_1]) ∧
                      ∀ w_65 : World, BoxSt g_3 w_64 w_65 →
                      qasked_k2 K g g_2 g_3 b105_1 x15 0 0 x101 0 0 0 0 0 x105_0 0 0 none 0 0 0 0 0 0 0 0 none 0 0 0 0 0 none 0 0 none 0 0 w_65
                    ) (
                      br (decide (x15 = 10)) (
                        Calls Try.prog 38 #[.pointer (some ⟨g_2, 0, none⟩), .int .i64 4611686018427387904] w_6 fun e_29 w_66 => KeepG [g_3, g] w_6 w_66 ∧
                        ∃ (x112 : Int),
                        e_29 = .returned (.int .i64 x112) ∧
                        ∀ w_67 : World, BoxSt g_3 w_66 w_67 →
                        Calls Try.prog 38 #[.pointer (some ⟨g_2, 0, none⟩), .int .i64 4611686018427387904] w_67 fun e_30 w_68 => KeepG [g_3, g] w_67 w_68 ∧
                        ∃ (x115 : Int),
                        e_30 = .returned (.int .i64 x115) ∧
                        ∀ w_69 : World, BoxSt g_3 w_68 w_69 →
                        qasked_k1 K g g_2 g_3 x15 0 0 x112 0 0 0 0 0 0 x115 0 none 0 0 0 0 0 0 0 0 none 0 0 0 0 0 none 0 0 none 0 0 w_69
                      ) (
                        br (decide (x15 = 11)) (
                          Calls Try.prog 42 #[.pointer (some ⟨g_2, 0, none⟩), .int .i64 1024] w_6 fun e_31 w_70 => KeepG [g_3, g] w_6 w_70 ∧
                          ∃ (s121 : ByteArray),
                          e_31 = .returned (.string s121) ∧
                          Calls Try.prog 41 #[.string s121] w_70 fun e_32 w_71 => KeepG [g_3, g] w_70 w_71 ∧
                          ∃ (x122_0_0 : Int) (x122_0_1 : Int) (x122_0_2 : Int) (x122_0_3 : Int) (x122_0_4 : Int) (x122_0_5 : Int) (a122_0_6 : Option Addr) (n122_0_6 : Nat) (c122_0_6 : Nat) (x122_0_7 : Int) (x122_0_8 : Int) (x122_0_9 : Int) (a122_0_10 : Option Addr) (n122_0_10 : Nat) (c122_0_10 : Nat) (x122_1 : Int),
                          e_32 = .returned (.tuple #[.agg #[.int .i64 x122_0_0, .int .i64 x122_0_1, .int .i64 x122_0_2, .int .i64 x122_0_3, .int .i64 x122_0_4, .int .i64 x122_0_5, .slice a122_0_6 n122_0_6 c122_0_6, .int .i64 x122_0_7, .int .i64 x122_0_8, .int .i64 x122_0_9, .slice a122_0_10 n122_0_10 c122_0_10], .int .i64 x122_1]) ∧
                          newO w_71 (.cells #[.int .i64 0, .int .i64 0, .int .i64 0, .int .i64 0, .int .i64 0, .int .i64 0, .slice none 0 0, .int .i64 0, .int .i64 0, .int .i64 0, .slice none 0 0] 27) fun g_4 w_72 =>
                          ∀ w_73 : World, BoxSt g_4 w_72 w_73 →
                          ∀ w_74 : World, BoxSt g_3 w_73 w_74 →
                          br (!(decide (x122_1 = 0))) (
                            ∀ w_75 : World, BoxSt g w_74 w_75 →
                            K (.tuple #[.agg #[.int .i64 0, .int .i64 0, .int .i64 0, .int .i64 0, .int .i64 0, .int .i64 0, .int .i64 0, .int .i64 0, .int .i64 0, .int .i64 0, .int .i64 0, .int .i64 0, .slice none 0 0, .int .i64 0, .int .i64 0, .int .i64 0, .int .i64 0, .int .i64 0, .int .i64 0, .slice none 0 0, .int .i64 0, .int .i64 0, .int .i64 0, .slice none 0 0, .slice none 0 0], .bool false]) w_75
                          ) (
                            Calls Try.prog 43 #[.pointer (some ⟨g_2, 0, none⟩)] w_74 fun e_33 w_76 => KeepG [g_4, g_3, g] w_74 w_76 ∧
                            ∃ (x164_3 : Int),
                            e_33 = .returned (.int .i64 x164_3) ∧
                            br (decide (x164_3 ≠ 0)) (
                              ∀ w_77 : World, BoxSt g w_76 w_77 →
                              K (.tuple #[.agg #[.int .i64 0, .int .i64 0, .int .i64 0, .int .i64 0, .int .i64 0, .int .i64 0, .int .i64 0, .int .i64 0, .int .i64 0, .int .i64 0, .int .i64 0, .int .i64 0, .slice none 0 0, .int .i64 0, .int .i64 0, .int .i64 0, .int .i64 0, .int .i64 0, .int .i64 0, .slice none 0 0, .int .i64 0, .int .i64 0, .int .i64 0, .slice none 0 0, .slice none 0 0], .bool false]) w_77
                            ) (
                              ∀ w_78 : World, BoxSt g w_76 w_78 →
                              K (.tuple #[.agg #[.int .i64 x15, .int .i64 0, .int .i64 0, .int .i64 0, .int .i64 0, .int .i64 0, .int .i64 0, .int .i64 0, .int .i64 0, .int .i64 0, .int .i64 0, .int .i64 0, .slice none 0 0, .int .i64 x122_0_0, .int .i64 x122_0_1, .int .i64 x122_0_2, .int .i64 x122_0_3, .int .i64 x122_0_4, .int .i64 x122_0_5, .slice a122_0_6 n122_0_6 c122_0_6, .int .i64 x122_0_7, .int .i64 x122_0_8, .int .i64 x122_0_9, .slice a122_0_10 n122_0_10 c122_0_10, .slice none 0 0], .bool true]) w_78
                            )
                          )
                        ) (
                          br (decide (x15 = 12)) (
                            Calls Try.prog 38 #[.pointer (some ⟨g_2, 0, none⟩), .int .i64 32] w_6 fun e_34 w_79 => KeepG [g_3, g] w_6 w_79 ∧
                            ∃ (x132 : Int),
                            e_34 = .returned (.int .i64 x132) ∧
                            ∃ (I : Int → Int → Int → Int → Int → Int → Int → Int → Int → Int → Int → Int → Int → Option Addr → Nat → Nat → Int → Int → Int → Int → Int → Int → Option Addr → Nat → Nat → Int → Int → Int → Option Addr → Nat → Nat → Option Addr → Nat → Nat → World → Prop) (μ : Int → Int → Int → Int → Int → Int → Int → Int → Int → Int → Int → Int → Int → Option Addr → Nat → Nat → Int → Int → Int → Int → Int → Int → Option Addr → Nat → Nat → Int → Int → Int → Option Addr → Nat → Nat → Option Addr → Nat → Nat → World → Nat),
                            I 0 x15 0 0 0 0 0 0 0 0 0 0 0 none 0 0 0 0 0 0 0 0 none 0 0 0 0 0 none 0 0 none 0 0 w_79 ∧
                            ∀ (x10 : Int) (x5_0_3 : Int) (x5_1_3 : Int) (x5_2_3 : Int) (x5_3_3 : Int) (x5_4_3 : Int) (x5_5_3 : Int) (x5_6_3 : Int) (x5_7_3 : Int) (x5_8_3 : Int) (x5_9_3 : Int) (x5_10_3 : Int) (x5_11_3 : Int) (a5_12_3 : Option Addr) (n5_12_3 : Nat) (c5_12_3 : Nat) (x5_13_3 : Int) (x5_14_3 : Int) (x5_15_3 : Int) (x5_16_3 : Int) (x5_17_3 : Int) (x5_18_3 : Int) (a5_19_3 : Option Addr) (n5_19_3 : Nat) (c5_19_3 : Nat) (x5_20_3 : Int) (x5_21_3 : Int) (x5_22_3 : Int) (a5_23_3 : Option Addr) (n5_23_3 : Nat) (c5_23_3 : Nat) (a5_24_3 : Option Addr) (n5_24_3 : Nat) (c5_24_3 : Nat) (w_80 : World), I x10 x5_0_3 x5_1_3 x5_2_3 x5_3_3 x5_4_3 x5_5_3 x5_6_3 x5_7_3 x5_8_3 x5_9_3 x5_10_3 x5_11_3 a5_12_3 n5_12_3 c5_12_3 x5_13_3 x5_14_3 x5_15_3 x5_16_3 x5_17_3 x5_18_3 a5_19_3 n5_19_3 c5_19_3 x5_20_3 x5_21_3 x5_22_3 a5_23_3 n5_23_3 c5_23_3 a5_24_3 n5_24_3 c5_24_3 w_80 →
                            br (decide (x10 < x132)) (
                              ∃ (x140 : Int), w_80.cell? ⟨g_2, 1, none⟩ = some (.int .i64 x140) ∧
                              br (decide (x140 = 0)) (
                                drewO w_80 fun w_81 =>
                                Calls Try.prog 38 #[.pointer (some ⟨g_2, 0, none⟩), .int .i64 4611686018427387904] w_81 fun e_35 w_82 => KeepG [g_3, g] w_81 w_82 ∧
                                ∃ (x148 : Int),
                                e_35 = .returned (.int .i64 x148) ∧
                                newO w_82 (.cells #[.int .i64 x148] 3) fun g_5 w_83 =>
                                appO Try.prog [g_3, g] w_83 3 1 8 28 a5_24_3 n5_24_3 c5_24_3 (.slice (some ⟨g_5, 0, none⟩) 1 1) fun m150 a150 c150 w_84 =>
                                ∀ w_85 : World, BoxSt g_3 w_84 w_85 →
                                I (IntKind.i64.wrap (x10 + 1)) x5_0_3 x5_1_3 x5_2_3 x5_3_3 x5_4_3 x5_5_3 x5_6_3 x5_7_3 x5_8_3 x5_9_3 x5_10_3 x5_11_3 a5_12_3 n5_12_3 c5_12_3 x5_13_3 x5_14_3 x5_15_3 x5_16_3 x5_17_3 x5_18_3 a5_19_3 n5_19_3 c5_19_3 x5_20_3 x5_21_3 x5_22_3 a5_23_3 n5_23_3 c5_23_3 a150 (n5_24_3 + m150) c150 w_85 ∧ μ (IntKind.i64.wrap (x10 + 1)) x5_0_3 x5_1_3 x5_2_3 x5_3_3 x5_4_3 x5_5_3 x5_6_3 x5_7_3 x5_8_3 x5_9_3 x5_10_3 x5_11_3 a5_12_3 n5_12_3 c5_12_3 x5_13_3 x5_14_3 x5_15_3 x5_16_3 x5_17_3 x5_18_3 a5_19_3 n5_19_3 c5_19_3 x5_20_3 x5_21_3 x5_22_3 a5_23_3 n5_23_3 c5_23_3 a150 (n5_24_3 + m150) c150 w_85 < μ x10 x5_0_3 x5_1_3 x5_2_3 x5_3_3 x5_4_3 x5_5_3 x5_6_3 x5_7_3 x5_8_3 x5_9_3 x5_10_3 x5_11_3 a5_12_3 n5_12_3 c5_12_3 x5_13_3 x5_14_3 x5_15_3 x5_16_3 x5_17_3 x5_18_3 a5_19_3 n5_19_3 c5_19_3 x5_20_3 x5_21_3 x5_22_3 a5_23_3 n5_23_3 c5_23_3 a5_24_3 n5_24_3 c5_24_3 w_80
                              ) (
                                qasked_k1 K g g_2 g_3 x5_0_3 x5_1_3 x5_2_3 x5_3_3 x5_4_3 x5_5_3 x5_6_3 x5_7_3 x5_8_3 x5_9_3 x5_10_3 x5_11_3 a5_12_3 n5_12_3 c5_12_3 x5_13_3 x5_14_3 x5_15_3 x5_16_3 x5_17_3 x5_18_3 a5_19_3 n5_19_3 c5_19_3 x5_20_3 x5_21_3 x5_22_3 a5_23_3 n5_23_3 c5_23_3 a5_24_3 n5_24_3 c5_24_3 w_80
                              )
                            ) (
                              qasked_k1 K g g_2 g_3 x5_0_3 x5_1_3 x5_2_3 x5_3_3 x5_4_3 x5_5_3 x5_6_3 x5_7_3 x5_8_3 x5_9_3 x5_10_3 x5_11_3 a5_12_3 n5_12_3 c5_12_3 x5_13_3 x5_14_3 x5_15_3 x5_16_3 x5_17_3 x5_18_3 a5_19_3 n5_19_3 c5_19_3 x5_20_3 x5_21_3 x5_22_3 a5_23_3 n5_23_3 c5_23_3 a5_24_3 n5_24_3 c5_24_3 w_80
                            )
                          ) (
                            br (decide (x15 = 14)) (
                              Calls Try.prog 38 #[.pointer (some ⟨g_2, 0, none⟩), .int .i64 4611686018427387904] w_6 fun e_36 w_86 => KeepG [g_3, g] w_6 w_86 ∧
                              ∃ (x155 : Int),
                              e_36 = .returned (.int .i64 x155) ∧
                              ∀ w_87 : World, BoxSt g_3 w_86 w_87 →
                              Calls Try.prog 38 #[.pointer (some ⟨g_2, 0, none⟩), .int .i64 4611686018427387904] w_87 fun e_37 w_88 => KeepG [g_3, g] w_87 w_88 ∧
                              ∃ (x158 : Int),
                              e_37 = .returned (.int .i64 x158) ∧
                              ∀ w_89 : World, BoxSt g_3 w_88 w_89 →
                              qasked_k1 K g g_2 g_3 x15 0 0 x155 0 0 0 0 0 0 0 x158 none 0 0 0 0 0 0 0 0 none 0 0 0 0 0 none 0 0 none 0 0 w_89
                            ) (
                              ∀ w_90 : World, BoxSt g w_6 w_90 →
                              K (.tuple #[.agg #[.int .i64 0, .int .i64 0, .int .i64 0, .int .i64 0, .int .i64 0, .int .i64 0, .int .i64 0, .int .i64 0, .int .i64 0, .int .i64 0, .int .i64 0, .int .i64 0, .slice none 0 0, .int .i64 0, .int .i64 0, .int .i64 0, .int .i64 0, .int .i64 0, .int .i64 0, .slice none 0 0, .int .i64 0, .int .i64 0, .int .i64 0, .slice none 0 0, .slice none 0 0], .bool false]) w_90
                            )
                          )
                        )
                      )
                    )
                  )
                )
              )
            )
          )
        )
      )
    )
  )
def qasked_notes : Notes := ⟨[(48, ⟨[0, 1, 0, 4, 12, 31, 63, 127], [3, 4, 5, 7], [0, 1, 2, 6]⟩)], [(46, ⟨[(10, .lf (.int .i64))], [(5, [.int .i64, .int .i64, .int .i64, .int .i64, .int .i64, .int .i64, .int .i64, .int .i64, .int .i64, .int .i64, .int .i64, .int .i64, .slice, .int .i64, .int .i64, .int .i64, .int .i64, .int .i64, .int .i64, .slice, .int .i64, .int .i64, .int .i64, .slice, .slice])], [133, 134, 135, 136, 137, 138, 139, 140, 141, 142, 145, 146, 147, 148, 149, 150, 151, 143, 144, 10], [5]⟩)], [], []⟩
set_option maxHeartbeats 4000000 in
theorem qasked_calls (s0 : ByteArray) (w : World) (K : Value → World → Prop) (h : qasked_vc s0 w K) : Calls Try.prog 15 #[.string s0] w fun e w' => ∃ v, e = .returned v ∧ K v w' :=
  calls_of_eq envOk Try.func15 qasked_notes [2, 5, 7] [.string s0] w K h (by as_aux_lemma => kernel_rfl)
/-- purser/purserref22.Tell -/
def qtell_k1 (K : Value → World → Prop) (g_2 : Nat) (w_20 : World) : Prop :=
  drewO w_20 fun w_21 =>
  ∃ (a171 : Option Addr) (n171 : Nat) (c171 : Nat), w_21.cell? ⟨g_2, 0, none⟩ = some (.slice a171 n171 c171) ∧
  ∃ bs172 : List UInt8, bs172.length = n171 ∧ RowAt w_21 a171 (bs172.map bV) ∧
  ∃ (b176 : Bool), w_21.cell? ⟨g_2, 1, none⟩ = some (.bool b176) ∧
  K (.tuple #[.string (strOf bs172), .bool (!b176)]) w_21
def qtell_k2 (K : Value → World → Prop) (x0_4 : Int) (g : Nat) (g_2 : Nat) (w_36 : World) : Prop :=
  newO w_36 (.cells #[.int .i64 x0_4] 3) fun g_12 w_37 =>
  Calls Try.prog 27 #[.pointer (some ⟨g_2, 0, none⟩), .slice (some ⟨g_12, 0, none⟩) 1 1] w_37 fun e_10 w_38 => KeepG [g] w_37 w_38 ∧
  e_10 = .returned (.tuple #[]) ∧
  qtell_k1 K g_2 w_38
def qtell_vc (x0_0 : Int) (x0_1 : Int) (a0_2 : Option Addr) (n0_2 : Nat) (c0_2 : Nat) (x0_3 : Int) (x0_4 : Int) (x0_5 : Int) (x0_6 : Int) (x0_7 : Int) (x0_8 : Int) (x0_9 : Int) (x0_10 : Int) (x0_11 : Int) (s0_12 : ByteArray) (w : World) (K : Value → World → Prop) : Prop :=
  newO w (.cells #[.int .i64 x0_0, .int .i64 x0_1, .slice a0_2 n0_2 c0_2, .int .i64 x0_3, .int .i64 x0_4, .int .i64 x0_5, .int .i64 x0_6, .int .i64 x0_7, .int .i64 x0_8, .int .i64 x0_9, .int .i64 x0_10, .int .i64 x0_11, .string s0_12] 56) fun g w_2 =>
  newO w_2 (.cells #[.slice none 0 0, .bool false] 86) fun g_2 w_3 =>
  br (decide (x0_0 < 0)) (
    K (.tuple #[.string (⟨#[]⟩ : ByteArray), .bool false]) w_3
  ) (
    br (decide (x0_0 > 14)) (
      K (.tuple #[.string (⟨#[]⟩ : ByteArray), .bool false]) w_3
    ) (
      br (decide (x0_1 < 0)) (
        K (.tuple #[.string (⟨#[]⟩ : ByteArray), .bool false]) w_3
      ) (
        br (decide (x0_1 > 255)) (
          K (.tuple #[.string (⟨#[]⟩ : ByteArray), .bool false]) w_3
        ) (
          newO w_3 (.cells #[.int .i64 x0_0, .int .i64 x0_1] 3) fun g_3 w_4 =>
          Calls Try.prog 27 #[.pointer (some ⟨g_2, 0, none⟩), .slice (some ⟨g_3, 0, none⟩) 2 2] w_4 fun e w_5 => KeepG [g] w_4 w_5 ∧
          e = .returned (.tuple #[]) ∧
          br (decide (x0_1 ≠ 0)) (
            ∃ (a40 : Option Addr) (n40 : Nat) (c40 : Nat), w_5.cell? ⟨g_2, 0, none⟩ = some (.slice a40 n40 c40) ∧
            ∃ bs41 : List UInt8, bs41.length = n40 ∧ RowAt w_5 a40 (bs41.map bV) ∧
            K (.tuple #[.string (strOf bs41), .bool true]) w_5
          ) (
            br (decide (x0_0 = 1)) (
              stO [g] w_5 g_2 1 [.bool (decide (((n0_2 : Nat) : Int) > 4))] fun w_6 =>
              newO w_6 (.cells #[.int .i64 ((n0_2 : Nat) : Int)] 3) fun g_4 w_7 =>
              Calls Try.prog 27 #[.pointer (some ⟨g_2, 0, none⟩), .slice (some ⟨g_4, 0, none⟩) 1 1] w_7 fun e_2 w_8 => KeepG [g] w_7 w_8 ∧
              e_2 = .returned (.tuple #[]) ∧
              ∃ (I : Int → World → Prop) (μ : Int → World → Nat),
              I 0 w_8 ∧
              ∀ (x5 : Int) (w_9 : World), I x5 w_9 →
              br (decide (x5 < ((n0_2 : Nat) : Int))) (
                withP a0_2 fun g70 o70 =>
                (0 : Int) ≤ x5 ∧ x5 < (((n0_2 : Nat) : Int) : Int) ∧
                ∃ (x71_0 : Int) (x71_1 : Int) (x71_2 : Int) (b71_3 : Bool),
                cellsAt w_9 g70 (o70 + x5.toNat * 4) [.int .i64 x71_0, .int .i64 x71_1, .int .i64 x71_2, .bool b71_3] ∧
                newO w_9 (.cells #[.int .i64 0, .int .i64 0, .int .i64 0, .bool false] 115) fun g_5 w_10 =>
                ∀ w_11 : World, BoxSt g_5 w_10 w_11 →
                newO w_11 (.cells #[.int .i64 x71_0, .int .i64 x71_1, .int .i64 x71_2] 3) fun g_6 w_12 =>
                Calls Try.prog 27 #[.pointer (some ⟨g_2, 0, none⟩), .slice (some ⟨g_6, 0, none⟩) 3 3] w_12 fun e_3 w_13 => KeepG [g_5, g] w_12 w_13 ∧
                e_3 = .returned (.tuple #[]) ∧
                drewO w_13 fun w_14 =>
                ∃ (a85 : Option Addr) (n85 : Nat) (c85 : Nat), w_14.cell? ⟨g_2, 0, none⟩ = some (.slice a85 n85 c85) ∧
                Calls Try.prog 50 #[.bool b71_3] w_14 fun e_4 w_15 => KeepG [g_5, g] w_14 w_15 ∧
                ∃ (s88 : ByteArray),
                e_4 = .returned (.string s88) ∧
                w_15.cell? ⟨g_2, 0, none⟩ = some (.slice a85 n85 c85) ∧
                appO Try.prog [g_5, g] w_15 5 1 1 9 a85 n85 c85 (.string s88) fun m89 a89 c89 w_16 =>
                stO [g_5, g] w_16 g_2 0 [.slice a89 (n85 + m89) c89] fun w_17 =>
                I (IntKind.i64.wrap (x5 + 1)) w_17 ∧ μ (IntKind.i64.wrap (x5 + 1)) w_17 < μ x5 w_9
              ) (
                newO w_9 (.cells #[.int .i64 x0_3, .int .i64 x0_4] 3) fun g_7 w_18 =>
                Calls Try.prog 27 #[.pointer (some ⟨g_2, 0, none⟩), .slice (some ⟨g_7, 0, none⟩) 2 2] w_18 fun e_5 w_19 => KeepG [g] w_18 w_19 ∧
                e_5 = .returned (.tuple #[]) ∧
                qtell_k1 K g_2 w_19
              )
            ) (
              br (decide (x0_0 = 2)) (
                stO [g] w_5 g_2 1 [.bool (decide (((n0_2 : Nat) : Int) > 4))] fun w_22 =>
                newO w_22 (.cells #[.int .i64 ((n0_2 : Nat) : Int)] 3) fun g_8 w_23 =>
                Calls Try.prog 27 #[.pointer (some ⟨g_2, 0, none⟩), .slice (some ⟨g_8, 0, none⟩) 1 1] w_23 fun e_6 w_24 => KeepG [g] w_23 w_24 ∧
                e_6 = .returned (.tuple #[]) ∧
                ∃ (I_2 : Int → World → Prop) (μ_2 : Int → World → Nat),
                I_2 0 w_24 ∧
                ∀ (x5_2 : Int) (w_25 : World), I_2 x5_2 w_25 →
                br (decide (x5_2 < ((n0_2 : Nat) : Int))) (
                  withP a0_2 fun g70_2 o70_2 =>
                  (0 : Int) ≤ x5_2 ∧ x5_2 < (((n0_2 : Nat) : Int) : Int) ∧
                  ∃ (x71_0_2 : Int) (x71_1_2 : Int) (x71_2_2 : Int) (b71_3_2 : Bool),
                  cellsAt w_25 g70_2 (o70_2 + x5_2.toNat * 4) [.int .i64 x71_0_2, .int .i64 x71_1_2, .int .i64 x71_2_2, .bool b71_3_2] ∧
                  newO w_25 (.cells #[.int .i64 0, .int .i64 0, .int .i64 0, .bool false] 115) fun g_9 w_26 =>
                  ∀ w_27 : World, BoxSt g_9 w_26 w_27 →
                  newO w_27 (.cells #[.int .i64 x71_0_2, .int .i64 x71_1_2, .int .i64 x71_2_2] 3) fun g_10 w_28 =>
                  Calls Try.prog 27 #[.pointer (some ⟨g_2, 0, none⟩), .slice (some ⟨g_10, 0, none⟩) 3 3] w_28 fun e_7 w_29 => KeepG [g_9, g] w_28 w_29 ∧
                  e_7 = .returned (.tuple #[]) ∧
                  drewO w_29 fun w_30 =>
                  ∃ (a85_2 : Option Addr) (n85_2 : Nat) (c85_2 : Nat), w_30.cell? ⟨g_2, 0, none⟩ = some (.slice a85_2 n85_2 c85_2) ∧
                  Calls Try.prog 50 #[.bool b71_3_2] w_30 fun e_8 w_31 => KeepG [g_9, g] w_30 w_31 ∧
                  ∃ (s88_2 : ByteArray),
                  e_8 = .returned (.string s88_2) ∧
                  w_31.cell? ⟨g_2, 0, none⟩ = some (.slice a85_2 n85_2 c85_2) ∧
                  appO Try.prog [g_9, g] w_31 5 1 1 9 a85_2 n85_2 c85_2 (.string s88_2) fun m89_2 a89_2 c89_2 w_32 =>
                  stO [g_9, g] w_32 g_2 0 [.slice a89_2 (n85_2 + m89_2) c89_2] fun w_33 =>
                  I_2 (IntKind.i64.wrap (x5_2 + 1)) w_33 ∧ μ_2 (IntKind.i64.wrap (x5_2 + 1)) w_33 < μ_2 x5_2 w_25
                ) (
                  newO w_25 (.cells #[.int .i64 x0_3, .int .i64 x0_4] 3) fun g_11 w_34 =>
                  Calls Try.prog 27 #[.pointer (some ⟨g_2, 0, none⟩), .slice (some ⟨g_11, 0, none⟩) 2 2] w_34 fun e_9 w_35 => KeepG [g] w_34 w_35 ∧
                  e_9 = .returned (.tuple #[]) ∧
                  qtell_k1 K g_2 w_35
                )
              ) (
                br (decide (x0_0 = 3)) (
                  qtell_k2 K x0_4 g g_2 w_5
                ) (
                  br (decide (x0_0 = 4)) (
                    qtell_k2 K x0_4 g g_2 w_5
                  ) (
                    br (decide (x0_0 = 5)) (
                      newO w_5 (.cells #[.int .i64 x0_4] 3) fun g_13 w_39 =>
                      Calls Try.prog 27 #[.pointer (some ⟨g_2, 0, none⟩), .slice (some ⟨g_13, 0, none⟩) 1 1] w_39 fun e_11 w_40 => KeepG [g] w_39 w_40 ∧
                      e_11 = .returned (.tuple #[]) ∧
                      qtell_k1 K g_2 w_40
                    ) (
                      br (decide (x0_0 = 12)) (
                        newO w_5 (.cells #[.int .i64 x0_5] 3) fun g_14 w_41 =>
                        Calls Try.prog 27 #[.pointer (some ⟨g_2, 0, none⟩), .slice (some ⟨g_14, 0, none⟩) 1 1] w_41 fun e_12 w_42 => KeepG [g] w_41 w_42 ∧
                        e_12 = .returned (.tuple #[]) ∧
                        qtell_k1 K g_2 w_42
                      ) (
                        br (decide (x0_0 = 13)) (
                          newO w_5 (.cells #[.int .i64 x0_7, .int .i64 x0_8, .int .i64 x0_9, .int .i64 x0_10, .int .i64 x0_11, .int .i64 x0_6] 3) fun g_15 w_43 =>
                          Calls Try.prog 27 #[.pointer (some ⟨g_2, 0, none⟩), .slice (some ⟨g_15, 0, none⟩) 6 6] w_43 fun e_13 w_44 => KeepG [g] w_43 w_44 ∧
                          e_13 = .returned (.tuple #[]) ∧
                          qtell_k1 K g_2 w_44
                        ) (
                          br (decide (x0_0 = 14)) (
                            ∃ (b148 : Bool), w_5.cell? ⟨g_2, 1, none⟩ = some (.bool b148) ∧
                            br b148 (
                              stO [g] w_5 g_2 1 [.bool true] fun w_45 =>
                              drewO w_45 fun w_46 =>
                              ∃ (a161 : Option Addr) (n161 : Nat) (c161 : Nat), w_46.cell? ⟨g_2, 0, none⟩ = some (.slice a161 n161 c161) ∧
                              Calls Try.prog 31 #[.string s0_12] w_46 fun e_14 w_47 => KeepG [g] w_46 w_47 ∧
                              ∃ (s164 : ByteArray),
                              e_14 = .returned (.string s164) ∧
                              w_47.cell? ⟨g_2, 0, none⟩ = some (.slice a161 n161 c161) ∧
                              appO Try.prog [g] w_47 5 1 1 9 a161 n161 c161 (.string s164) fun m165 a165 c165 w_48 =>
                              stO [g] w_48 g_2 0 [.slice a165 (n161 + m165) c165] fun w_49 =>
                              qtell_k1 K g_2 w_49
                            ) (
                              stO [g] w_5 g_2 1 [.bool (decide (((s0_12.size : Nat) : Int) > 65536))] fun w_50 =>
                              drewO w_50 fun w_51 =>
                              ∃ (a161_2 : Option Addr) (n161_2 : Nat) (c161_2 : Nat), w_51.cell? ⟨g_2, 0, none⟩ = some (.slice a161_2 n161_2 c161_2) ∧
                              Calls Try.prog 31 #[.string s0_12] w_51 fun e_15 w_52 => KeepG [g] w_51 w_52 ∧
                              ∃ (s164_2 : ByteArray),
                              e_15 = .returned (.string s164_2) ∧
                              w_52.cell? ⟨g_2, 0, none⟩ = some (.slice a161_2 n161_2 c161_2) ∧
                              appO Try.prog [g] w_52 5 1 1 9 a161_2 n161_2 c161_2 (.string s164_2) fun m165_2 a165_2 c165_2 w_53 =>
                              stO [g] w_53 g_2 0 [.slice a165_2 (n161_2 + m165_2) c165_2] fun w_54 =>
                              qtell_k1 K g_2 w_54
                            )
                          ) (
                            qtell_k1 K g_2 w_5
                          )
                        )
                      )
                    )
                  )
                )
              )
            )
          )
        )
      )
    )
  )
def qtell_notes : Notes := ⟨[(17, ⟨[0, 0, 2, 6, 14, 0, 32, 96, 254, 511, 1023, 2047], [7, 8, 11], [0, 1, 2, 3, 4, 5, 6, 9, 10]⟩), (30, ⟨[0, 1, 3, 7, 15, 0, 32, 96, 224, 480, 31, 2047], [], [0, 1, 2, 3, 4, 5, 6, 7, 8, 9, 10, 11]⟩), (29, ⟨[0, 0, 2, 6, 14, 0, 32, 96, 254, 511, 1023, 2047], [7, 8, 11], [0, 1, 2, 3, 4, 5, 6, 9, 10]⟩)], [(13, ⟨[(5, .lf (.int .i64))], [], [60, 61, 62, 63, 64, 67, 68, 69, 70, 71, 6, 72, 73, 74, 75, 76, 77, 78, 79, 80, 81, 82, 83, 84, 85, 86, 87, 88, 89, 90, 91, 65, 66, 5], [6]⟩)], [], []⟩
set_option maxHeartbeats 4000000 in
theorem qtell_calls (x0_0 : Int) (x0_1 : Int) (a0_2 : Option Addr) (n0_2 : Nat) (c0_2 : Nat) (x0_3 : Int) (x0_4 : Int) (x0_5 : Int) (x0_6 : Int) (x0_7 : Int) (x0_8 : Int) (x0_9 : Int) (x0_10 : Int) (x0_11 : Int) (s0_12 : ByteArray) (w : World) (K : Value → World → Prop) (h : qtell_vc x0_0 x0_1 a0_2 n0_2 c0_2 x0_3 x0_4 x0_5 x0_6 x0_7 x0_8 x0_9 x0_10 x0_11 s0_12 w K) : Calls Try.prog 20 #[.agg #[.int .i64 x0_0, .int .i64 x0_1, .slice a0_2 n0_2 c0_2, .int .i64 x0_3, .int .i64 x0_4, .int .i64 x0_5, .int .i64 x0_6, .int .i64 x0_7, .int .i64 x0_8, .int .i64 x0_9, .int .i64 x0_10, .int .i64 x0_11, .string s0_12]] w fun e w' => ∃ v, e = .returned v ∧ K v w' :=
  calls_of_eq envOk Try.func20 qtell_notes [1, 6] [.agg #[.int .i64 x0_0, .int .i64 x0_1, .slice a0_2 n0_2 c0_2, .int .i64 x0_3, .int .i64 x0_4, .int .i64 x0_5, .int .i64 x0_6, .int .i64 x0_7, .int .i64 x0_8, .int .i64 x0_9, .int .i64 x0_10, .int .i64 x0_11, .string s0_12]] w K h (by as_aux_lemma => kernel_rfl)
/-- purser/purserref22.Same -/
def qsame_vc (x0_0 : Int) (x0_1 : Int) (x0_2 : Int) (x0_3 : Int) (x0_4 : Int) (x0_5 : Int) (x0_6 : Int) (x0_7 : Int) (x0_8 : Int) (x0_9 : Int) (x0_10 : Int) (x0_11 : Int) (a0_12 : Option Addr) (n0_12 : Nat) (c0_12 : Nat) (x0_13 : Int) (x0_14 : Int) (x0_15 : Int) (x0_16 : Int) (x0_17 : Int) (x0_18 : Int) (a0_19 : Option Addr) (n0_19 : Nat) (c0_19 : Nat) (x0_20 : Int) (x0_21 : Int) (x0_22 : Int) (a0_23 : Option Addr) (n0_23 : Nat) (c0_23 : Nat) (a0_24 : Option Addr) (n0_24 : Nat) (c0_24 : Nat) (x1_0 : Int) (x1_1 : Int) (x1_2 : Int) (x1_3 : Int) (x1_4 : Int) (x1_5 : Int) (x1_6 : Int) (x1_7 : Int) (x1_8 : Int) (x1_9 : Int) (x1_10 : Int) (x1_11 : Int) (a1_12 : Option Addr) (n1_12 : Nat) (c1_12 : Nat) (x1_13 : Int) (x1_14 : Int) (x1_15 : Int) (x1_16 : Int) (x1_17 : Int) (x1_18 : Int) (a1_19 : Option Addr) (n1_19 : Nat) (c1_19 : Nat) (x1_20 : Int) (x1_21 : Int) (x1_22 : Int) (a1_23 : Option Addr) (n1_23 : Nat) (c1_23 : Nat) (a1_24 : Option Addr) (n1_24 : Nat) (c1_24 : Nat) (w : World) (K : Value → World → Prop) : Prop :=
  newO w (.cells #[.int .i64 x0_0, .int .i64 x0_1, .int .i64 x0_2, .int .i64 x0_3, .int .i64 x0_4, .int .i64 x0_5, .int .i64 x0_6, .int .i64 x0_7, .int .i64 x0_8, .int .i64 x0_9, .int .i64 x0_10, .int .i64 x0_11, .slice a0_12 n0_12 c0_12, .int .i64 x0_13, .int .i64 x0_14, .int .i64 x0_15, .int .i64 x0_16, .int .i64 x0_17, .int .i64 x0_18, .slice a0_19 n0_19 c0_19, .int .i64 x0_20, .int .i64 x0_21, .int .i64 x0_22, .slice a0_23 n0_23 c0_23, .slice a0_24 n0_24 c0_24] 30) fun g w_2 =>
  newO w_2 (.cells #[.int .i64 x1_0, .int .i64 x1_1, .int .i64 x1_2, .int .i64 x1_3, .int .i64 x1_4, .int .i64 x1_5, .int .i64 x1_6, .int .i64 x1_7, .int .i64 x1_8, .int .i64 x1_9, .int .i64 x1_10, .int .i64 x1_11, .slice a1_12 n1_12 c1_12, .int .i64 x1_13, .int .i64 x1_14, .int .i64 x1_15, .int .i64 x1_16, .int .i64 x1_17, .int .i64 x1_18, .slice a1_19 n1_19 c1_19, .int .i64 x1_20, .int .i64 x1_21, .int .i64 x1_22, .slice a1_23 n1_23 c1_23, .slice a1_24 n1_24 c1_24] 30) fun g_2 w_3 =>
  br (decide (x0_0 ≠ x1_0)) (
    K (.bool false) w_3
  ) (
    br (decide (x0_1 ≠ x1_1)) (
      K (.bool false) w_3
    ) (
      br (decide (x0_2 ≠ x1_2)) (
        K (.bool false) w_3
      ) (
        br (decide (x0_3 ≠ x1_3)) (
          K (.bool false) w_3
        ) (
          br (decide (x0_4 ≠ x1_4)) (
            K (.bool false) w_3
          ) (
            br (decide (x0_5 ≠ x1_5)) (
              K (.bool false) w_3
            ) (
              br (decide (x0_6 ≠ x1_6)) (
                K (.bool false) w_3
              ) (
                br (decide (x0_7 ≠ x1_7)) (
                  K (.bool false) w_3
                ) (
                  br (decide (x0_8 ≠ x1_8)) (
                    K (.bool false) w_3
                  ) (
                    br (decide (x0_9 ≠ x1_9)) (
                      K (.bool false) w_3
                    ) (
                      br (decide (x0_10 ≠ x1_10)) (
                        K (.bool false) w_3
                      ) (
                        br (decide (x0_11 ≠ x1_11)) (
                          K (.bool false) w_3
                        ) (
                          br (decide (((n0_12 : Nat) : Int) ≠ ((n1_12 : Nat) : Int))) (
                            K (.bool false) w_3
                          ) (
                            br (decide (((n0_24 : Nat) : Int) ≠ ((n1_24 : Nat) : Int))) (
                              K (.bool false) w_3
                            ) (
                              Calls Try.prog 44 #[.agg #[.int .i64 x0_13, .int .i64 x0_14, .int .i64 x0_15, .int .i64 x0_16, .int .i64 x0_17, .int .i64 x0_18, .slice a0_19 n0_19 c0_19, .int .i64 x0_20, .int .i64 x0_21, .int .i64 x0_22, .slice a0_23 n0_23 c0_23], .agg #[.int .i64 x1_13, .int .i64 x1_14, .int .i64 x1_15, .int .i64 x1_16, .int .i64 x1_17, .int .i64 x1_18, .slice a1_19 n1_19 c1_19, .int .i64 x1_20, .int .i64 x1_21, .int .i64 x1_22, .slice a1_23 n1_23 c1_23]] w_3 fun e w_4 => KeepG [g_2, g] w_3 w_4 ∧
                              ∃ (b112 : Bool),
                              e = .returned (.bool b112) ∧
                              br (!b112) (
                                K (.bool false) w_4
                              ) (
                                ∃ (I : Int → World → Prop) (μ : Int → World → Nat),
                                I 0 w_4 ∧
                                ∀ (x5 : Int) (w_5 : World), I x5 w_5 →
                                br (decide (x5 < ((n0_12 : Nat) : Int))) (
                                  drewO w_5 fun w_6 =>
                                  withP a0_12 fun g125 o125 =>
                                  (0 : Int) ≤ x5 ∧ x5 < (((n0_12 : Nat) : Int) : Int) ∧
                                  ∃ (x126_0 : Int) (x126_1 : Int) (x126_2 : Int),
                                  cellsAt w_6 g125 (o125 + x5.toNat * 3) [.int .i64 x126_0, .int .i64 x126_1, .int .i64 x126_2] ∧
                                  withP a1_12 fun g130 o130 =>
                                  (0 : Int) ≤ x5 ∧ x5 < (((n1_12 : Nat) : Int) : Int) ∧
                                  ∃ (x131_0 : Int) (x131_1 : Int) (x131_2 : Int),
                                  cellsAt w_6 g130 (o130 + x5.toNat * 3) [.int .i64 x131_0, .int .i64 x131_1, .int .i64 x131_2] ∧
                                  br (!((decide (x126_0 = x131_0)) && ((decide (x126_1 = x131_1)) && ((decide (x126_2 = x131_2)) && true)))) (
                                    K (.bool false) w_6
                                  ) (
                                    I (IntKind.i64.wrap (x5 + 1)) w_6 ∧ μ (IntKind.i64.wrap (x5 + 1)) w_6 < μ x5 w_5
                                  )
                                ) (
                                  ∃ (I_2 : Int → World → Prop) (μ_2 : Int → World → Nat),
                                  I_2 0 w_5 ∧
                                  ∀ (x6 : Int) (w_7 : World), I_2 x6 w_7 →
                                  br (decide (x6 < ((n0_24 : Nat) : Int))) (
                                    drewO w_7 fun w_8 =>
                                    withP a0_24 fun g143 o143 =>
                                    (0 : Int) ≤ x6 ∧ x6 < (((n0_24 : Nat) : Int) : Int) ∧
                                    ∃ (x144 : Int), w_8.cell? ⟨g143, o143 + x6.toNat * 1, none⟩ = some (.int .i64 x144) ∧
                                    withP a1_24 fun g148 o148 =>
                                    (0 : Int) ≤ x6 ∧ x6 < (((n1_24 : Nat) : Int) : Int) ∧
                                    ∃ (x149 : Int), w_8.cell? ⟨g148, o148 + x6.toNat * 1, none⟩ = some (.int .i64 x149) ∧
                                    br (decide (x144 ≠ x149)) (
                                      K (.bool false) w_8
                                    ) (
                                      I_2 (IntKind.i64.wrap (x6 + 1)) w_8 ∧ μ_2 (IntKind.i64.wrap (x6 + 1)) w_8 < μ_2 x6 w_7
                                    )
                                  ) (
                                    K (.bool true) w_7
                                  )
                                )
                              )
                            )
                          )
                        )
                      )
                    )
                  )
                )
              )
            )
          )
        )
      )
    )
  )
def qsame_notes : Notes := ⟨[(6, ⟨[0, 1, 0, 7, 15, 0, 32, 0, 224, 480, 1023], [], [0, 1, 2, 3, 4, 5, 6, 7, 8, 9, 10]⟩), (11, ⟨[0, 1, 0, 7, 15, 0, 32, 0, 224, 480, 1023], [], [0, 1, 2, 3, 4, 5, 6, 7, 8, 9, 10]⟩)], [(4, ⟨[(5, .lf (.int .i64))], [], [115, 116, 117, 118, 119, 122, 123, 124, 125, 126, 127, 128, 129, 130, 131, 132, 4, 120, 121, 5], []⟩), (9, ⟨[(6, .lf (.int .i64))], [], [133, 134, 135, 136, 137, 140, 141, 142, 143, 144, 145, 146, 147, 148, 149, 150, 4, 138, 139, 6], []⟩)], [], []⟩
set_option maxHeartbeats 4000000 in
theorem qsame_calls (x0_0 : Int) (x0_1 : Int) (x0_2 : Int) (x0_3 : Int) (x0_4 : Int) (x0_5 : Int) (x0_6 : Int) (x0_7 : Int) (x0_8 : Int) (x0_9 : Int) (x0_10 : Int) (x0_11 : Int) (a0_12 : Option Addr) (n0_12 : Nat) (c0_12 : Nat) (x0_13 : Int) (x0_14 : Int) (x0_15 : Int) (x0_16 : Int) (x0_17 : Int) (x0_18 : Int) (a0_19 : Option Addr) (n0_19 : Nat) (c0_19 : Nat) (x0_20 : Int) (x0_21 : Int) (x0_22 : Int) (a0_23 : Option Addr) (n0_23 : Nat) (c0_23 : Nat) (a0_24 : Option Addr) (n0_24 : Nat) (c0_24 : Nat) (x1_0 : Int) (x1_1 : Int) (x1_2 : Int) (x1_3 : Int) (x1_4 : Int) (x1_5 : Int) (x1_6 : Int) (x1_7 : Int) (x1_8 : Int) (x1_9 : Int) (x1_10 : Int) (x1_11 : Int) (a1_12 : Option Addr) (n1_12 : Nat) (c1_12 : Nat) (x1_13 : Int) (x1_14 : Int) (x1_15 : Int) (x1_16 : Int) (x1_17 : Int) (x1_18 : Int) (a1_19 : Option Addr) (n1_19 : Nat) (c1_19 : Nat) (x1_20 : Int) (x1_21 : Int) (x1_22 : Int) (a1_23 : Option Addr) (n1_23 : Nat) (c1_23 : Nat) (a1_24 : Option Addr) (n1_24 : Nat) (c1_24 : Nat) (w : World) (K : Value → World → Prop) (h : qsame_vc x0_0 x0_1 x0_2 x0_3 x0_4 x0_5 x0_6 x0_7 x0_8 x0_9 x0_10 x0_11 a0_12 n0_12 c0_12 x0_13 x0_14 x0_15 x0_16 x0_17 x0_18 a0_19 n0_19 c0_19 x0_20 x0_21 x0_22 a0_23 n0_23 c0_23 a0_24 n0_24 c0_24 x1_0 x1_1 x1_2 x1_3 x1_4 x1_5 x1_6 x1_7 x1_8 x1_9 x1_10 x1_11 a1_12 n1_12 c1_12 x1_13 x1_14 x1_15 x1_16 x1_17 x1_18 a1_19 n1_19 c1_19 x1_20 x1_21 x1_22 a1_23 n1_23 c1_23 a1_24 n1_24 c1_24 w K) : Calls Try.prog 16 #[.agg #[.int .i64 x0_0, .int .i64 x0_1, .int .i64 x0_2, .int .i64 x0_3, .int .i64 x0_4, .int .i64 x0_5, .int .i64 x0_6, .int .i64 x0_7, .int .i64 x0_8, .int .i64 x0_9, .int .i64 x0_10, .int .i64 x0_11, .slice a0_12 n0_12 c0_12, .int .i64 x0_13, .int .i64 x0_14, .int .i64 x0_15, .int .i64 x0_16, .int .i64 x0_17, .int .i64 x0_18, .slice a0_19 n0_19 c0_19, .int .i64 x0_20, .int .i64 x0_21, .int .i64 x0_22, .slice a0_23 n0_23 c0_23, .slice a0_24 n0_24 c0_24], .agg #[.int .i64 x1_0, .int .i64 x1_1, .int .i64 x1_2, .int .i64 x1_3, .int .i64 x1_4, .int .i64 x1_5, .int .i64 x1_6, .int .i64 x1_7, .int .i64 x1_8, .int .i64 x1_9, .int .i64 x1_10, .int .i64 x1_11, .slice a1_12 n1_12 c1_12, .int .i64 x1_13, .int .i64 x1_14, .int .i64 x1_15, .int .i64 x1_16, .int .i64 x1_17, .int .i64 x1_18, .slice a1_19 n1_19 c1_19, .int .i64 x1_20, .int .i64 x1_21, .int .i64 x1_22, .slice a1_23 n1_23 c1_23, .slice a1_24 n1_24 c1_24]] w fun e w' => ∃ v, e = .returned v ∧ K v w' :=
  calls_of_eq envOk Try.func16 qsame_notes [2, 3] [.agg #[.int .i64 x0_0, .int .i64 x0_1, .int .i64 x0_2, .int .i64 x0_3, .int .i64 x0_4, .int .i64 x0_5, .int .i64 x0_6, .int .i64 x0_7, .int .i64 x0_8, .int .i64 x0_9, .int .i64 x0_10, .int .i64 x0_11, .slice a0_12 n0_12 c0_12, .int .i64 x0_13, .int .i64 x0_14, .int .i64 x0_15, .int .i64 x0_16, .int .i64 x0_17, .int .i64 x0_18, .slice a0_19 n0_19 c0_19, .int .i64 x0_20, .int .i64 x0_21, .int .i64 x0_22, .slice a0_23 n0_23 c0_23, .slice a0_24 n0_24 c0_24], .agg #[.int .i64 x1_0, .int .i64 x1_1, .int .i64 x1_2, .int .i64 x1_3, .int .i64 x1_4, .int .i64 x1_5, .int .i64 x1_6, .int .i64 x1_7, .int .i64 x1_8, .int .i64 x1_9, .int .i64 x1_10, .int .i64 x1_11, .slice a1_12 n1_12 c1_12, .int .i64 x1_13, .int .i64 x1_14, .int .i64 x1_15, .int .i64 x1_16, .int .i64 x1_17, .int .i64 x1_18, .slice a1_19 n1_19 c1_19, .int .i64 x1_20, .int .i64 x1_21, .int .i64 x1_22, .slice a1_23 n1_23 c1_23, .slice a1_24 n1_24 c1_24]] w K h (by as_aux_lemma => kernel_rfl)
/-- purser/purserlaw22.wires -/
def lwires_vc  (w : World) (K : Value → World → Prop) : Prop :=
  Calls Try.prog 8 #[.agg #[.int .i64 8, .int .i64 0, .int .i64 0, .int .i64 3, .int .i64 0, .int .i64 0, .int .i64 0, .int .i64 0, .int .i64 0, .int .i64 0, .int .i64 0, .int .i64 0, .slice none 0 0, .int .i64 0, .int .i64 0, .int .i64 0, .int .i64 0, .int .i64 0, .int .i64 0, .slice none 0 0, .int .i64 0, .int .i64 0, .int .i64 0, .slice none 0 0, .slice none 0 0]] w fun e w_2 => KeepG [] w w_2 ∧
  ∃ (a7_0 : Option Addr) (n7_0 : Nat) (c7_0 : Nat) (x7_1 : Int),
  e = .returned (.tuple #[.slice a7_0 n7_0 c7_0, .int .i64 x7_1]) ∧
  newO w_2 (.cells #[.int .u8 8, .int .u8 3, .int .u8 0] 5) fun g w_3 =>
  Calls Try.prog 14 #[.slice (some ⟨g, 0, none⟩) 3 3] w_3 fun e_2 w_4 => KeepG [] w_3 w_4 ∧
  ∃ (x12_0_0 : Int) (x12_0_1 : Int) (x12_0_2 : Int) (x12_0_3 : Int) (x12_0_4 : Int) (x12_0_5 : Int) (x12_0_6 : Int) (x12_0_7 : Int) (x12_0_8 : Int) (x12_0_9 : Int) (x12_0_10 : Int) (x12_0_11 : Int) (a12_0_12 : Option Addr) (n12_0_12 : Nat) (c12_0_12 : Nat) (x12_0_13 : Int) (x12_0_14 : Int) (x12_0_15 : Int) (x12_0_16 : Int) (x12_0_17 : Int) (x12_0_18 : Int) (a12_0_19 : Option Addr) (n12_0_19 : Nat) (c12_0_19 : Nat) (x12_0_20 : Int) (x12_0_21 : Int) (x12_0_22 : Int) (a12_0_23 : Option Addr) (n12_0_23 : Nat) (c12_0_23 : Nat) (a12_0_24 : Option Addr) (n12_0_24 : Nat) (c12_0_24 : Nat) (x12_1 : Int),
  e_2 = .returned (.tuple #[.agg #[.int .i64 x12_0_0, .int .i64 x12_0_1, .int .i64 x12_0_2, .int .i64 x12_0_3, .int .i64 x12_0_4, .int .i64 x12_0_5, .int .i64 x12_0_6, .int .i64 x12_0_7, .int .i64 x12_0_8, .int .i64 x12_0_9, .int .i64 x12_0_10, .int .i64 x12_0_11, .slice a12_0_12 n12_0_12 c12_0_12, .int .i64 x12_0_13, .int .i64 x12_0_14, .int .i64 x12_0_15, .int .i64 x12_0_16, .int .i64 x12_0_17, .int .i64 x12_0_18, .slice a12_0_19 n12_0_19 c12_0_19, .int .i64 x12_0_20, .int .i64 x12_0_21, .int .i64 x12_0_22, .slice a12_0_23 n12_0_23 c12_0_23, .slice a12_0_24 n12_0_24 c12_0_24], .int .i64 x12_1]) ∧
  newO w_4 (.cells #[.int .i64 0, .int .i64 0, .int .i64 0, .int .i64 0, .int .i64 0, .int .i64 0, .int .i64 0, .int .i64 0, .int .i64 0, .int .i64 0, .int .i64 0, .int .i64 0, .slice none 0 0, .int .i64 0, .int .i64 0, .int .i64 0, .int .i64 0, .int .i64 0, .int .i64 0, .slice none 0 0, .int .i64 0, .int .i64 0, .int .i64 0, .slice none 0 0, .slice none 0 0] 39) fun g_2 w_5 =>
  ∀ w_6 : World, BoxSt g_2 w_5 w_6 →
  br (decide (x7_1 = 0)) (
    ∃ bs19 : List UInt8, bs19.length = n7_0 ∧ RowAt w_6 a7_0 (bs19.map bV) ∧
    br (decide ((strOf bs19) = (⟨#[8, 3]⟩ : ByteArray))) (
      br (decide (x12_1 = 2)) (
        Calls Try.prog 12 #[.int .i64 8] w_6 fun e_3 w_7 => KeepG [g_2] w_6 w_7 ∧
        ∃ (b27 : Bool),
        e_3 = .returned (.bool b27) ∧
        K (.bool b27) w_7
      ) (
        K (.bool false) w_6
      )
    ) (
      K (.bool false) w_6
    )
  ) (
    K (.bool false) w_6
  )
def lwires_notes : Notes := ⟨[], [], [], []⟩
set_option maxHeartbeats 4000000 in
theorem lwires_calls  (w : World) (K : Value → World → Prop) (h : lwires_vc  w K) : Calls Try.prog 11 #[] w fun e w' => ∃ v, e = .returned v ∧ K v w' :=
  calls_of_eq envOk Try.func11 lwires_notes [3] [] w K h (by as_aux_lemma => kernel_rfl)
/-- purser/purserlaw22.tame -/
def ltame_vc (x0_0 : Int) (x0_1 : Int) (x0_2 : Int) (x0_3 : Int) (x0_4 : Int) (x0_5 : Int) (x0_6 : Int) (x0_7 : Int) (x0_8 : Int) (x0_9 : Int) (x0_10 : Int) (x0_11 : Int) (a0_12 : Option Addr) (n0_12 : Nat) (c0_12 : Nat) (x0_13 : Int) (x0_14 : Int) (x0_15 : Int) (x0_16 : Int) (x0_17 : Int) (x0_18 : Int) (a0_19 : Option Addr) (n0_19 : Nat) (c0_19 : Nat) (x0_20 : Int) (x0_21 : Int) (x0_22 : Int) (a0_23 : Option Addr) (n0_23 : Nat) (c0_23 : Nat) (a0_24 : Option Addr) (n0_24 : Nat) (c0_24 : Nat) (w : World) (K : Value → World → Prop) : Prop :=
  newO w (.cells #[.int .i64 x0_0, .int .i64 x0_1, .int .i64 x0_2, .int .i64 x0_3, .int .i64 x0_4, .int .i64 x0_5, .int .i64 x0_6, .int .i64 x0_7, .int .i64 x0_8, .int .i64 x0_9, .int .i64 x0_10, .int .i64 x0_11, .slice a0_12 n0_12 c0_12, .int .i64 x0_13, .int .i64 x0_14, .int .i64 x0_15, .int .i64 x0_16, .int .i64 x0_17, .int .i64 x0_18, .slice a0_19 n0_19 c0_19, .int .i64 x0_20, .int .i64 x0_21, .int .i64 x0_22, .slice a0_23 n0_23 c0_23, .slice a0_24 n0_24 c0_24] 30) fun g w_2 =>
  newO w_2 (.cells #[.int .i64 0, .int .i64 0, .int .i64 0, .int .i64 0, .int .i64 0, .int .i64 0, .int .i64 0, .int .i64 0, .int .i64 0, .int .i64 0, .int .i64 0, .int .i64 0, .slice none 0 0, .int .i64 0, .int .i64 0, .int .i64 0, .int .i64 0, .int .i64 0, .int .i64 0, .slice none 0 0, .int .i64 0, .int .i64 0, .int .i64 0, .slice none 0 0, .slice none 0 0] 30) fun g_2 w_3 =>
  newO w_3 (.cells #[] 81) fun g_3 w_4 =>
  (0 : Int) ≤ min ((n0_12 : Nat) : Int) 6 ∧ min ((n0_12 : Nat) : Int) 6 ≤ (((c0_12 : Nat) : Int) : Int) ∧
  appO Try.prog [g_2, g] w_4 81 3 24 22 (some ⟨g_3, 0, none⟩) 0 0 (.slice a0_12 ((min ((n0_12 : Nat) : Int) 6).toNat) c0_12) fun m11 a11 c11 w_5 =>
  ∀ w_6 : World, BoxSt g w_5 w_6 →
  newO w_6 (.cells #[] 3) fun g_4 w_7 =>
  (0 : Int) ≤ min ((n0_24 : Nat) : Int) 40 ∧ min ((n0_24 : Nat) : Int) 40 ≤ (((c0_24 : Nat) : Int) : Int) ∧
  appO Try.prog [g_2, g] w_7 3 1 8 28 (some ⟨g_4, 0, none⟩) 0 0 (.slice a0_24 ((min ((n0_24 : Nat) : Int) 40).toNat) c0_24) fun m21 a21 c21 w_8 =>
  ∀ w_9 : World, BoxSt g w_8 w_9 →
  newO w_9 (.cells #[] 142) fun g_5 w_10 =>
  (0 : Int) ≤ min ((n0_19 : Nat) : Int) 9 ∧ min ((n0_19 : Nat) : Int) 9 ≤ (((c0_19 : Nat) : Int) : Int) ∧
  appO Try.prog [g_2, g] w_10 142 2 16 23 (some ⟨g_5, 0, none⟩) 0 0 (.slice a0_19 ((min ((n0_19 : Nat) : Int) 9).toNat) c0_19) fun m35 a35 c35 w_11 =>
  ∀ w_12 : World, BoxSt g w_11 w_12 →
  newO w_12 (.cells #[] 142) fun g_6 w_13 =>
  (0 : Int) ≤ min ((n0_23 : Nat) : Int) 9 ∧ min ((n0_23 : Nat) : Int) 9 ≤ (((c0_23 : Nat) : Int) : Int) ∧
  appO Try.prog [g_2, g] w_13 142 2 16 23 (some ⟨g_6, 0, none⟩) 0 0 (.slice a0_23 ((min ((n0_23 : Nat) : Int) 9).toNat) c0_23) fun m51 a51 c51 w_14 =>
  ∀ w_15 : World, BoxSt g w_14 w_15 →
  ∀ w_16 : World, BoxSt g_2 w_15 w_16 →
  K (.agg #[.int .i64 x0_0, .int .i64 x0_1, .int .i64 x0_2, .int .i64 x0_3, .int .i64 x0_4, .int .i64 x0_5, .int .i64 x0_6, .int .i64 x0_7, .int .i64 x0_8, .int .i64 x0_9, .int .i64 x0_10, .int .i64 x0_11, .slice a11 (0 + m11) c11, .int .i64 x0_13, .int .i64 x0_14, .int .i64 x0_15, .int .i64 x0_16, .int .i64 x0_17, .int .i64 x0_18, .slice a35 (0 + m35) c35, .int .i64 x0_20, .int .i64 x0_21, .int .i64 x0_22, .slice a51 (0 + m51) c51, .slice a21 (0 + m21) c21]) w_16
def ltame_notes : Notes := ⟨[], [], [], []⟩
set_option maxHeartbeats 4000000 in
theorem ltame_calls (x0_0 : Int) (x0_1 : Int) (x0_2 : Int) (x0_3 : Int) (x0_4 : Int) (x0_5 : Int) (x0_6 : Int) (x0_7 : Int) (x0_8 : Int) (x0_9 : Int) (x0_10 : Int) (x0_11 : Int) (a0_12 : Option Addr) (n0_12 : Nat) (c0_12 : Nat) (x0_13 : Int) (x0_14 : Int) (x0_15 : Int) (x0_16 : Int) (x0_17 : Int) (x0_18 : Int) (a0_19 : Option Addr) (n0_19 : Nat) (c0_19 : Nat) (x0_20 : Int) (x0_21 : Int) (x0_22 : Int) (a0_23 : Option Addr) (n0_23 : Nat) (c0_23 : Nat) (a0_24 : Option Addr) (n0_24 : Nat) (c0_24 : Nat) (w : World) (K : Value → World → Prop) (h : ltame_vc x0_0 x0_1 x0_2 x0_3 x0_4 x0_5 x0_6 x0_7 x0_8 x0_9 x0_10 x0_11 a0_12 n0_12 c0_12 x0_13 x0_14 x0_15 x0_16 x0_17 x0_18 a0_19 n0_19 c0_19 x0_20 x0_21 x0_22 a0_23 n0_23 c0_23 a0_24 n0_24 c0_24 w K) : Calls Try.prog 7 #[.agg #[.int .i64 x0_0, .int .i64 x0_1, .int .i64 x0_2, .int .i64 x0_3, .int .i64 x0_4, .int .i64 x0_5, .int .i64 x0_6, .int .i64 x0_7, .int .i64 x0_8, .int .i64 x0_9, .int .i64 x0_10, .int .i64 x0_11, .slice a0_12 n0_12 c0_12, .int .i64 x0_13, .int .i64 x0_14, .int .i64 x0_15, .int .i64 x0_16, .int .i64 x0_17, .int .i64 x0_18, .slice a0_19 n0_19 c0_19, .int .i64 x0_20, .int .i64 x0_21, .int .i64 x0_22, .slice a0_23 n0_23 c0_23, .slice a0_24 n0_24 c0_24]] w fun e w' => ∃ v, e = .returned v ∧ K v w' :=
  calls_of_eq envOk Try.func7 ltame_notes [1, 2] [.agg #[.int .i64 x0_0, .int .i64 x0_1, .int .i64 x0_2, .int .i64 x0_3, .int .i64 x0_4, .int .i64 x0_5, .int .i64 x0_6, .int .i64 x0_7, .int .i64 x0_8, .int .i64 x0_9, .int .i64 x0_10, .int .i64 x0_11, .slice a0_12 n0_12 c0_12, .int .i64 x0_13, .int .i64 x0_14, .int .i64 x0_15, .int .i64 x0_16, .int .i64 x0_17, .int .i64 x0_18, .slice a0_19 n0_19 c0_19, .int .i64 x0_20, .int .i64 x0_21, .int .i64 x0_22, .slice a0_23 n0_23 c0_23, .slice a0_24 n0_24 c0_24]] w K h (by as_aux_lemma => kernel_rfl)
/-- purser/purserlaw22.answer -/
def lanswer_vc (x0_0 : Int) (x0_1 : Int) (a0_2 : Option Addr) (n0_2 : Nat) (c0_2 : Nat) (x0_3 : Int) (x0_4 : Int) (x0_5 : Int) (x0_6 : Int) (x0_7 : Int) (x0_8 : Int) (x0_9 : Int) (x0_10 : Int) (x0_11 : Int) (s0_12 : ByteArray) (w : World) (K : Value → World → Prop) : Prop :=
  newO w (.cells #[.int .i64 x0_0, .int .i64 x0_1, .slice a0_2 n0_2 c0_2, .int .i64 x0_3, .int .i64 x0_4, .int .i64 x0_5, .int .i64 x0_6, .int .i64 x0_7, .int .i64 x0_8, .int .i64 x0_9, .int .i64 x0_10, .int .i64 x0_11, .string s0_12] 56) fun g w_2 =>
  newO w_2 (.cells #[.int .i64 0, .int .i64 0, .slice none 0 0, .int .i64 0, .int .i64 0, .int .i64 0, .int .i64 0, .int .i64 0, .int .i64 0, .int .i64 0, .int .i64 0, .int .i64 0, .slice none 0 0] 62) fun g_2 w_3 =>
  bytO w_3 5 s0_12 fun g_3 c24 w_4 =>
  newO w_4 (.cells #[.int .i64 0, .int .i64 0, .slice none 0 0, .int .i64 0, .int .i64 0, .int .i64 0, .int .i64 0, .int .i64 0, .int .i64 0, .int .i64 0, .int .i64 0, .int .i64 0, .slice none 0 0] 62) fun g_4 w_5 =>
  ∀ w_6 : World, BoxSt g_4 w_5 w_6 →
  ∀ w_7 : World, BoxSt g_4 w_6 w_7 →
  ∃ (I : Int → Int → Int → Option Addr → Nat → Nat → Int → Int → Int → Int → Int → Int → Int → Int → Int → Option Addr → Nat → Nat → World → Prop) (μ : Int → Int → Int → Option Addr → Nat → Nat → Int → Int → Int → Int → Int → Int → Int → Int → Int → Option Addr → Nat → Nat → World → Nat),
  I 0 x0_0 x0_1 none 0 0 x0_3 x0_4 x0_5 x0_6 x0_7 x0_8 x0_9 x0_10 x0_11 (some ⟨g_3, 0, none⟩) s0_12.size c24 w_7 ∧
  ∀ (x4 : Int) (x3_0 : Int) (x3_1 : Int) (a3_2 : Option Addr) (n3_2 : Nat) (c3_2 : Nat) (x3_3 : Int) (x3_4 : Int) (x3_5 : Int) (x3_6 : Int) (x3_7 : Int) (x3_8 : Int) (x3_9 : Int) (x3_10 : Int) (x3_11 : Int) (a3_12 : Option Addr) (n3_12 : Nat) (c3_12 : Nat) (w_8 : World), I x4 x3_0 x3_1 a3_2 n3_2 c3_2 x3_3 x3_4 x3_5 x3_6 x3_7 x3_8 x3_9 x3_10 x3_11 a3_12 n3_12 c3_12 w_8 →
  br (decide (x4 < ((n0_2 : Nat) : Int))) (
    withP a0_2 fun g53 o53 =>
    (0 : Int) ≤ x4 ∧ x4 < (((n0_2 : Nat) : Int) : Int) ∧
    ∃ (x54_0 : Int) (x54_1 : Int) (x54_2 : Int) (b54_3 : Bool),
    cellsAt w_8 g53 (o53 + x4.toNat * 4) [.int .i64 x54_0, .int .i64 x54_1, .int .i64 x54_2, .bool b54_3] ∧
    newO w_8 (.cells #[.int .i64 0, .int .i64 0, .int .i64 0, .bool false] 115) fun g_5 w_9 =>
    ∀ w_10 : World, BoxSt g_5 w_9 w_10 →
    newO w_10 (.cells #[.int .i64 x54_0, .int .i64 x54_1, .int .i64 x54_2, .bool b54_3] 111) fun g_6 w_11 =>
    appO Try.prog [g_5, g_4, g_2, g] w_11 111 4 32 58 a3_2 n3_2 c3_2 (.slice (some ⟨g_6, 0, none⟩) 1 1) fun m67 a67 c67 w_12 =>
    ∀ w_13 : World, BoxSt g_4 w_12 w_13 →
    I (IntKind.i64.wrap (x4 + 1)) x3_0 x3_1 a67 (n3_2 + m67) c67 x3_3 x3_4 x3_5 x3_6 x3_7 x3_8 x3_9 x3_10 x3_11 a3_12 n3_12 c3_12 w_13 ∧ μ (IntKind.i64.wrap (x4 + 1)) x3_0 x3_1 a67 (n3_2 + m67) c67 x3_3 x3_4 x3_5 x3_6 x3_7 x3_8 x3_9 x3_10 x3_11 a3_12 n3_12 c3_12 w_13 < μ x4 x3_0 x3_1 a3_2 n3_2 c3_2 x3_3 x3_4 x3_5 x3_6 x3_7 x3_8 x3_9 x3_10 x3_11 a3_12 n3_12 c3_12 w_8
  ) (
    ∀ w_14 : World, BoxSt g_2 w_8 w_14 →
    K (.agg #[.int .i64 x3_0, .int .i64 x3_1, .slice a3_2 n3_2 c3_2, .int .i64 x3_3, .int .i64 x3_4, .int .i64 x3_5, .int .i64 x3_6, .int .i64 x3_7, .int .i64 x3_8, .int .i64 x3_9, .int .i64 x3_10, .int .i64 x3_11, .slice a3_12 n3_12 c3_12]) w_14
  )
def lanswer_notes : Notes := ⟨[], [(4, ⟨[(4, .lf (.int .i64))], [(3, [.int .i64, .int .i64, .slice, .int .i64, .int .i64, .int .i64, .int .i64, .int .i64, .int .i64, .int .i64, .int .i64, .int .i64, .slice])], [43, 44, 45, 46, 47, 50, 51, 52, 53, 54, 5, 55, 56, 57, 58, 59, 60, 61, 62, 63, 64, 65, 66, 67, 68, 48, 49, 4], [5, 3]⟩)], [], []⟩
set_option maxHeartbeats 4000000 in
theorem lanswer_calls (x0_0 : Int) (x0_1 : Int) (a0_2 : Option Addr) (n0_2 : Nat) (c0_2 : Nat) (x0_3 : Int) (x0_4 : Int) (x0_5 : Int) (x0_6 : Int) (x0_7 : Int) (x0_8 : Int) (x0_9 : Int) (x0_10 : Int) (x0_11 : Int) (s0_12 : ByteArray) (w : World) (K : Value → World → Prop) (h : lanswer_vc x0_0 x0_1 a0_2 n0_2 c0_2 x0_3 x0_4 x0_5 x0_6 x0_7 x0_8 x0_9 x0_10 x0_11 s0_12 w K) : Calls Try.prog 19 #[.agg #[.int .i64 x0_0, .int .i64 x0_1, .slice a0_2 n0_2 c0_2, .int .i64 x0_3, .int .i64 x0_4, .int .i64 x0_5, .int .i64 x0_6, .int .i64 x0_7, .int .i64 x0_8, .int .i64 x0_9, .int .i64 x0_10, .int .i64 x0_11, .string s0_12]] w fun e w' => ∃ v, e = .returned v ∧ K v w' :=
  calls_of_eq envOk Try.func19 lanswer_notes [1, 2, 3, 5] [.agg #[.int .i64 x0_0, .int .i64 x0_1, .slice a0_2 n0_2 c0_2, .int .i64 x0_3, .int .i64 x0_4, .int .i64 x0_5, .int .i64 x0_6, .int .i64 x0_7, .int .i64 x0_8, .int .i64 x0_9, .int .i64 x0_10, .int .i64 x0_11, .string s0_12]] w K h (by as_aux_lemma => kernel_rfl)
/-- purser/purserlaw22.WireAsks -/
def lasks_k1 (K : Value → World → Prop) (g : Nat) (a16_0 : Option Addr) (n16_0 : Nat) (c16_0 : Nat) (x16_1 : Int) (s21_0 : ByteArray) (w_14 : World) : Prop :=
  br (decide (x16_1 ≠ 0)) (
    K (.bool true) w_14
  ) (
    Calls Try.prog 14 #[.slice a16_0 n16_0 c16_0] w_14 fun e_8 w_15 => KeepG [g] w_14 w_15 ∧
    ∃ (x58_0_0 : Int) (x58_0_1 : Int) (x58_0_2 : Int) (x58_0_3 : Int) (x58_0_4 : Int) (x58_0_5 : Int) (x58_0_6 : Int) (x58_0_7 : Int) (x58_0_8 : Int) (x58_0_9 : Int) (x58_0_10 : Int) (x58_0_11 : Int) (a58_0_12 : Option Addr) (n58_0_12 : Nat) (c58_0_12 : Nat) (x58_0_13 : Int) (x58_0_14 : Int) (x58_0_15 : Int) (x58_0_16 : Int) (x58_0_17 : Int) (x58_0_18 : Int) (a58_0_19 : Option Addr) (n58_0_19 : Nat) (c58_0_19 : Nat) (x58_0_20 : Int) (x58_0_21 : Int) (x58_0_22 : Int) (a58_0_23 : Option Addr) (n58_0_23 : Nat) (c58_0_23 : Nat) (a58_0_24 : Option Addr) (n58_0_24 : Nat) (c58_0_24 : Nat) (x58_1 : Int),
    e_8 = .returned (.tuple #[.agg #[.int .i64 x58_0_0, .int .i64 x58_0_1, .int .i64 x58_0_2, .int .i64 x58_0_3, .int .i64 x58_0_4, .int .i64 x58_0_5, .int .i64 x58_0_6, .int .i64 x58_0_7, .int .i64 x58_0_8, .int .i64 x58_0_9, .int .i64 x58_0_10, .int .i64 x58_0_11, .slice a58_0_12 n58_0_12 c58_0_12, .int .i64 x58_0_13, .int .i64 x58_0_14, .int .i64 x58_0_15, .int .i64 x58_0_16, .int .i64 x58_0_17, .int .i64 x58_0_18, .slice a58_0_19 n58_0_19 c58_0_19, .int .i64 x58_0_20, .int .i64 x58_0_21, .int .i64 x58_0_22, .slice a58_0_23 n58_0_23 c58_0_23, .slice a58_0_24 n58_0_24 c58_0_24], .int .i64 x58_1]) ∧
    newO w_15 (.cells #[.int .i64 0, .int .i64 0, .int .i64 0, .int .i64 0, .int .i64 0, .int .i64 0, .int .i64 0, .int .i64 0, .int .i64 0, .int .i64 0, .int .i64 0, .int .i64 0, .slice none 0 0, .int .i64 0, .int .i64 0, .int .i64 0, .int .i64 0, .int .i64 0, .int .i64 0, .slice none 0 0, .int .i64 0, .int .i64 0, .int .i64 0, .slice none 0 0, .slice none 0 0] 39) fun g_2 w_16 =>
    ∀ w_17 : World, BoxSt g_2 w_16 w_17 →
    Calls Try.prog 15 #[.string s21_0] w_17 fun e_9 w_18 => KeepG [g_2, g] w_17 w_18 ∧
    ∃ (x63_0_0 : Int) (x63_0_1 : Int) (x63_0_2 : Int) (x63_0_3 : Int) (x63_0_4 : Int) (x63_0_5 : Int) (x63_0_6 : Int) (x63_0_7 : Int) (x63_0_8 : Int) (x63_0_9 : Int) (x63_0_10 : Int) (x63_0_11 : Int) (a63_0_12 : Option Addr) (n63_0_12 : Nat) (c63_0_12 : Nat) (x63_0_13 : Int) (x63_0_14 : Int) (x63_0_15 : Int) (x63_0_16 : Int) (x63_0_17 : Int) (x63_0_18 : Int) (a63_0_19 : Option Addr) (n63_0_19 : Nat) (c63_0_19 : Nat) (x63_0_20 : Int) (x63_0_21 : Int) (x63_0_22 : Int) (a63_0_23 : Option Addr) (n63_0_23 : Nat) (c63_0_23 : Nat) (a63_0_24 : Option Addr) (n63_0_24 : Nat) (c63_0_24 : Nat) (b63_1 : Bool),
    e_9 = .returned (.tuple #[.agg #[.int .i64 x63_0_0, .int .i64 x63_0_1, .int .i64 x63_0_2, .int .i64 x63_0_3, .int .i64 x63_0_4, .int .i64 x63_0_5, .int .i64 x63_0_6, .int .i64 x63_0_7, .int .i64 x63_0_8, .int .i64 x63_0_9, .int .i64 x63_0_10, .int .i64 x63_0_11, .slice a63_0_12 n63_0_12 c63_0_12, .int .i64 x63_0_13, .int .i64 x63_0_14, .int .i64 x63_0_15, .int .i64 x63_0_16, .int .i64 x63_0_17, .int .i64 x63_0_18, .slice a63_0_19 n63_0_19 c63_0_19, .int .i64 x63_0_20, .int .i64 x63_0_21, .int .i64 x63_0_22, .slice a63_0_23 n63_0_23 c63_0_23, .slice a63_0_24 n63_0_24 c63_0_24], .bool b63_1]) ∧
    newO w_18 (.cells #[.int .i64 0, .int .i64 0, .int .i64 0, .int .i64 0, .int .i64 0, .int .i64 0, .int .i64 0, .int .i64 0, .int .i64 0, .int .i64 0, .int .i64 0, .int .i64 0, .slice none 0 0, .int .i64 0, .int .i64 0, .int .i64 0, .int .i64 0, .int .i64 0, .int .i64 0, .slice none 0 0, .int .i64 0, .int .i64 0, .int .i64 0, .slice none 0 0, .slice none 0 0] 30) fun g_3 w_19 =>
    ∀ w_20 : World, BoxSt g_3 w_19 w_20 →
    drewO w_20 fun w_21 =>
    ∃ bs67 : List UInt8, bs67.length = n16_0 ∧ RowAt w_21 a16_0 (bs67.map bV) ∧
    br (decide ((strOf bs67) = s21_0)) (
      br (decide (x58_1 = 0)) (
        br b63_1 (
          Calls Try.prog 17 #[.agg #[.int .i64 x58_0_0, .int .i64 x58_0_1, .int .i64 x58_0_2, .int .i64 x58_0_3, .int .i64 x58_0_4, .int .i64 x58_0_5, .int .i64 x58_0_6, .int .i64 x58_0_7, .int .i64 x58_0_8, .int .i64 x58_0_9, .int .i64 x58_0_10, .int .i64 x58_0_11, .slice a58_0_12 n58_0_12 c58_0_12, .int .i64 x58_0_13, .int .i64 x58_0_14, .int .i64 x58_0_15, .int .i64 x58_0_16, .int .i64 x58_0_17, .int .i64 x58_0_18, .slice a58_0_19 n58_0_19 c58_0_19, .int .i64 x58_0_20, .int .i64 x58_0_21, .int .i64 x58_0_22, .slice a58_0_23 n58_0_23 c58_0_23, .slice a58_0_24 n58_0_24 c58_0_24]] w_21 fun e_10 w_22 => KeepG [g_3, g_2, g] w_21 w_22 ∧
          ∃ (x79_0 : Int) (x79_1 : Int) (x79_2 : Int) (x79_3 : Int) (x79_4 : Int) (x79_5 : Int) (x79_6 : Int) (x79_7 : Int) (x79_8 : Int) (x79_9 : Int) (x79_10 : Int) (x79_11 : Int) (a79_12 : Option Addr) (n79_12 : Nat) (c79_12 : Nat) (x79_13 : Int) (x79_14 : Int) (x79_15 : Int) (x79_16 : Int) (x79_17 : Int) (x79_18 : Int) (a79_19 : Option Addr) (n79_19 : Nat) (c79_19 : Nat) (x79_20 : Int) (x79_21 : Int) (x79_22 : Int) (a79_23 : Option Addr) (n79_23 : Nat) (c79_23 : Nat) (a79_24 : Option Addr) (n79_24 : Nat) (c79_24 : Nat),
          e_10 = .returned (.agg #[.int .i64 x79_0, .int .i64 x79_1, .int .i64 x79_2, .int .i64 x79_3, .int .i64 x79_4, .int .i64 x79_5, .int .i64 x79_6, .int .i64 x79_7, .int .i64 x79_8, .int .i64 x79_9, .int .i64 x79_10, .int .i64 x79_11, .slice a79_12 n79_12 c79_12, .int .i64 x79_13, .int .i64 x79_14, .int .i64 x79_15, .int .i64 x79_16, .int .i64 x79_17, .int .i64 x79_18, .slice a79_19 n79_19 c79_19, .int .i64 x79_20, .int .i64 x79_21, .int .i64 x79_22, .slice a79_23 n79_23 c79_23, .slice a79_24 n79_24 c79_24]) ∧
          Calls Try.prog 16 #[.agg #[.int .i64 x79_0, .int .i64 x79_1, .int .i64 x79_2, .int .i64 x79_3, .int .i64 x79_4, .int .i64 x79_5, .int .i64 x79_6, .int .i64 x79_7, .int .i64 x79_8, .int .i64 x79_9, .int .i64 x79_10, .int .i64 x79_11, .slice a79_12 n79_12 c79_12, .int .i64 x79_13, .int .i64 x79_14, .int .i64 x79_15, .int .i64 x79_16, .int .i64 x79_17, .int .i64 x79_18, .slice a79_19 n79_19 c79_19, .int .i64 x79_20, .int .i64 x79_21, .int .i64 x79_22, .slice a79_23 n79_23 c79_23, .slice a79_24 n79_24 c79_24], .agg #[.int .i64 x63_0_0, .int .i64 x63_0_1, .int .i64 x63_0_2, .int .i64 x63_0_3, .int .i64 x63_0_4, .int .i64 x63_0_5, .int .i64 x63_0_6, .int .i64 x63_0_7, .int .i64 x63_0_8, .int .i64 x63_0_9, .int .i64 x63_0_10, .int .i64 x63_0_11, .slice a63_0_12 n63_0_12 c63_0_12, .int .i64 x63_0_13, .int .i64 x63_0_14, .int .i64 x63_0_15, .int .i64 x63_0_16, .int .i64 x63_0_17, .int .i64 x63_0_18, .slice a63_0_19 n63_0_19 c63_0_19, .int .i64 x63_0_20, .int .i64 x63_0_21, .int .i64 x63_0_22, .slice a63_0_23 n63_0_23 c63_0_23, .slice a63_0_24 n63_0_24 c63_0_24]] w_22 fun e_11 w_23 => KeepG [g_3, g_2, g] w_22 w_23 ∧
          ∃ (b81 : Bool),
          e_11 = .returned (.bool b81) ∧
          K (.bool b81) w_23
        ) (
          K (.bool false) w_21
        )
      ) (
        K (.bool false) w_21
      )
    ) (
      K (.bool false) w_21
    )
  )
def lasks_k2 (K : Value → World → Prop) (g : Nat) (a16_0 : Option Addr) (n16_0 : Nat) (c16_0 : Nat) (x16_1 : Int) (s21_0 : ByteArray) (b53 : Bool) (w_13 : World) : Prop :=
  br b53 (
    K (.bool false) w_13
  ) (
    lasks_k1 K g a16_0 n16_0 c16_0 x16_1 s21_0 w_13
  )
def lasks_vc (x0_0 : Int) (x0_1 : Int) (x0_2 : Int) (x0_3 : Int) (x0_4 : Int) (x0_5 : Int) (x0_6 : Int) (x0_7 : Int) (x0_8 : Int) (x0_9 : Int) (x0_10 : Int) (x0_11 : Int) (a0_12 : Option Addr) (n0_12 : Nat) (c0_12 : Nat) (x0_13 : Int) (x0_14 : Int) (x0_15 : Int) (x0_16 : Int) (x0_17 : Int) (x0_18 : Int) (a0_19 : Option Addr) (n0_19 : Nat) (c0_19 : Nat) (x0_20 : Int) (x0_21 : Int) (x0_22 : Int) (a0_23 : Option Addr) (n0_23 : Nat) (c0_23 : Nat) (a0_24 : Option Addr) (n0_24 : Nat) (c0_24 : Nat) (w : World) (K : Value → World → Prop) : Prop :=
  newO w (.cells #[.int .i64 x0_0, .int .i64 x0_1, .int .i64 x0_2, .int .i64 x0_3, .int .i64 x0_4, .int .i64 x0_5, .int .i64 x0_6, .int .i64 x0_7, .int .i64 x0_8, .int .i64 x0_9, .int .i64 x0_10, .int .i64 x0_11, .slice a0_12 n0_12 c0_12, .int .i64 x0_13, .int .i64 x0_14, .int .i64 x0_15, .int .i64 x0_16, .int .i64 x0_17, .int .i64 x0_18, .slice a0_19 n0_19 c0_19, .int .i64 x0_20, .int .i64 x0_21, .int .i64 x0_22, .slice a0_23 n0_23 c0_23, .slice a0_24 n0_24 c0_24] 30) fun g w_2 =>
  Calls Try.prog 7 #[.agg #[.int .i64 x0_0, .int .i64 x0_1, .int .i64 x0_2, .int .i64 x0_3, .int .i64 x0_4, .int .i64 x0_5, .int .i64 x0_6, .int .i64 x0_7, .int .i64 x0_8, .int .i64 x0_9, .int .i64 x0_10, .int .i64 x0_11, .slice a0_12 n0_12 c0_12, .int .i64 x0_13, .int .i64 x0_14, .int .i64 x0_15, .int .i64 x0_16, .int .i64 x0_17, .int .i64 x0_18, .slice a0_19 n0_19 c0_19, .int .i64 x0_20, .int .i64 x0_21, .int .i64 x0_22, .slice a0_23 n0_23 c0_23, .slice a0_24 n0_24 c0_24]] w_2 fun e w_3 => KeepG [g] w_2 w_3 ∧
  ∃ (x12_0 : Int) (x12_1 : Int) (x12_2 : Int) (x12_3 : Int) (x12_4 : Int) (x12_5 : Int) (x12_6 : Int) (x12_7 : Int) (x12_8 : Int) (x12_9 : Int) (x12_10 : Int) (x12_11 : Int) (a12_12 : Option Addr) (n12_12 : Nat) (c12_12 : Nat) (x12_13 : Int) (x12_14 : Int) (x12_15 : Int) (x12_16 : Int) (x12_17 : Int) (x12_18 : Int) (a12_19 : Option Addr) (n12_19 : Nat) (c12_19 : Nat) (x12_20 : Int) (x12_21 : Int) (x12_22 : Int) (a12_23 : Option Addr) (n12_23 : Nat) (c12_23 : Nat) (a12_24 : Option Addr) (n12_24 : Nat) (c12_24 : Nat),
  e = .returned (.agg #[.int .i64 x12_0, .int .i64 x12_1, .int .i64 x12_2, .int .i64 x12_3, .int .i64 x12_4, .int .i64 x12_5, .int .i64 x12_6, .int .i64 x12_7, .int .i64 x12_8, .int .i64 x12_9, .int .i64 x12_10, .int .i64 x12_11, .slice a12_12 n12_12 c12_12, .int .i64 x12_13, .int .i64 x12_14, .int .i64 x12_15, .int .i64 x12_16, .int .i64 x12_17, .int .i64 x12_18, .slice a12_19 n12_19 c12_19, .int .i64 x12_20, .int .i64 x12_21, .int .i64 x12_22, .slice a12_23 n12_23 c12_23, .slice a12_24 n12_24 c12_24]) ∧
  ∀ w_4 : World, BoxSt g w_3 w_4 →
  Calls Try.prog 9 #[.agg #[.int .i64 x12_0, .int .i64 x12_1, .int .i64 x12_2, .int .i64 x12_3, .int .i64 x12_4, .int .i64 x12_5, .int .i64 x12_6, .int .i64 x12_7, .int .i64 x12_8, .int .i64 x12_9, .int .i64 x12_10, .int .i64 x12_11, .slice a12_12 n12_12 c12_12, .int .i64 x12_13, .int .i64 x12_14, .int .i64 x12_15, .int .i64 x12_16, .int .i64 x12_17, .int .i64 x12_18, .slice a12_19 n12_19 c12_19, .int .i64 x12_20, .int .i64 x12_21, .int .i64 x12_22, .slice a12_23 n12_23 c12_23, .slice a12_24 n12_24 c12_24]] w_4 fun e_2 w_5 => KeepG [g] w_4 w_5 ∧
  ∃ (x15_0 : Int) (x15_1 : Int) (x15_2 : Int) (x15_3 : Int) (x15_4 : Int) (x15_5 : Int) (x15_6 : Int) (x15_7 : Int) (x15_8 : Int) (x15_9 : Int) (x15_10 : Int) (x15_11 : Int) (a15_12 : Option Addr) (n15_12 : Nat) (c15_12 : Nat) (x15_13 : Int) (x15_14 : Int) (x15_15 : Int) (x15_16 : Int) (x15_17 : Int) (x15_18 : Int) (a15_19 : Option Addr) (n15_19 : Nat) (c15_19 : Nat) (x15_20 : Int) (x15_21 : Int) (x15_22 : Int) (a15_23 : Option Addr) (n15_23 : Nat) (c15_23 : Nat) (a15_24 : Option Addr) (n15_24 : Nat) (c15_24 : Nat),
  e_2 = .returned (.agg #[.int .i64 x15_0, .int .i64 x15_1, .int .i64 x15_2, .int .i64 x15_3, .int .i64 x15_4, .int .i64 x15_5, .int .i64 x15_6, .int .i64 x15_7, .int .i64 x15_8, .int .i64 x15_9, .int .i64 x15_10, .int .i64 x15_11, .slice a15_12 n15_12 c15_12, .int .i64 x15_13, .int .i64 x15_14, .int .i64 x15_15, .int .i64 x15_16, .int .i64 x15_17, .int .i64 x15_18, .slice a15_19 n15_19 c15_19, .int .i64 x15_20, .int .i64 x15_21, .int .i64 x15_22, .slice a15_23 n15_23 c15_23, .slice a15_24 n15_24 c15_24]) ∧
  Calls Try.prog 8 #[.agg #[.int .i64 x15_0, .int .i64 x15_1, .int .i64 x15_2, .int .i64 x15_3, .int .i64 x15_4, .int .i64 x15_5, .int .i64 x15_6, .int .i64 x15_7, .int .i64 x15_8, .int .i64 x15_9, .int .i64 x15_10, .int .i64 x15_11, .slice a15_12 n15_12 c15_12, .int .i64 x15_13, .int .i64 x15_14, .int .i64 x15_15, .int .i64 x15_16, .int .i64 x15_17, .int .i64 x15_18, .slice a15_19 n15_19 c15_19, .int .i64 x15_20, .int .i64 x15_21, .int .i64 x15_22, .slice a15_23 n15_23 c15_23, .slice a15_24 n15_24 c15_24]] w_5 fun e_3 w_6 => KeepG [g] w_5 w_6 ∧
  ∃ (a16_0 : Option Addr) (n16_0 : Nat) (c16_0 : Nat) (x16_1 : Int),
  e_3 = .returned (.tuple #[.slice a16_0 n16_0 c16_0, .int .i64 x16_1]) ∧
  Calls Try.prog 10 #[.agg #[.int .i64 x12_0, .int .i64 x12_1, .int .i64 x12_2, .int .i64 x12_3, .int .i64 x12_4, .int .i64 x12_5, .int .i64 x12_6, .int .i64 x12_7, .int .i64 x12_8, .int .i64 x12_9, .int .i64 x12_10, .int .i64 x12_11, .slice a12_12 n12_12 c12_12, .int .i64 x12_13, .int .i64 x12_14, .int .i64 x12_15, .int .i64 x12_16, .int .i64 x12_17, .int .i64 x12_18, .slice a12_19 n12_19 c12_19, .int .i64 x12_20, .int .i64 x12_21, .int .i64 x12_22, .slice a12_23 n12_23 c12_23, .slice a12_24 n12_24 c12_24]] w_6 fun e_4 w_7 => KeepG [g] w_6 w_7 ∧
  ∃ (s21_0 : ByteArray) (b21_1 : Bool),
  e_4 = .returned (.tuple #[.string s21_0, .bool b21_1]) ∧
  drewO w_7 fun w_8 =>
  Calls Try.prog 11 #[] w_8 fun e_5 w_9 => KeepG [g] w_8 w_9 ∧
  ∃ (b24 : Bool),
  e_5 = .returned (.bool b24) ∧
  br (!b24) (
    K (.bool false) w_9
  ) (
    br (decide ((decide (x16_1 = 0)) ≠ b21_1)) (
      K (.bool false) w_9
    ) (
      br (decide (x16_1 ≠ 0)) (
        br (decide (x16_1 ≠ 2)) (
          K (.bool false) w_9
        ) (
          br (decide (((n16_0 : Nat) : Int) ≠ 0)) (
            K (.bool false) w_9
          ) (
            Calls Try.prog 12 #[.int .i64 x12_0] w_9 fun e_6 w_11 => KeepG [g] w_9 w_11 ∧
            ∃ (b48 : Bool),
            e_6 = .returned (.bool b48) ∧
            Calls Try.prog 13 #[.int .i64 x12_0] w_11 fun e_7 w_12 => KeepG [g] w_11 w_12 ∧
            ∃ (b51 : Bool),
            e_7 = .returned (.bool b51) ∧
            lasks_k2 K g a16_0 n16_0 c16_0 x16_1 s21_0 (decide (b48 ≠ b51)) w_12
          )
        )
      ) (
        Calls Try.prog 12 #[.int .i64 x12_0] w_9 fun e_12 w_25 => KeepG [g] w_9 w_25 ∧
        ∃ (b48_2 : Bool),
        e_12 = .returned (.bool b48_2) ∧
        Calls Try.prog 13 #[.int .i64 x12_0] w_25 fun e_13 w_26 => KeepG [g] w_25 w_26 ∧
        ∃ (b51_2 : Bool),
        e_13 = .returned (.bool b51_2) ∧
        lasks_k2 K g a16_0 n16_0 c16_0 x16_1 s21_0 (decide (b48_2 ≠ b51_2)) w_26
      )
    )
  )
def lasks_notes : Notes := ⟨[(4, ⟨[0, 1, 3, 7, 15, 7, 63, 127, 255, 511, 1023, 2047, 4095, 8191, 16383, 32767, 65535, 131071, 262143, 524287, 1048575, 2097151, 4194303, 8388607, 16777215, 4194303, 37748735, 134217727, 268435455, 536870911], [0, 24, 27], [1, 2, 3, 4, 5, 6, 7, 8, 9, 10, 11, 12, 13, 14, 15, 16, 17, 18, 19, 20, 21, 22, 23, 25, 26, 28, 29]⟩), (10, ⟨[0, 1, 0, 7, 15, 31, 63, 127, 255, 511, 1023, 2047, 4095, 8191, 4095, 32767, 65535, 131071], [13, 15], [0, 1, 2, 3, 4, 5, 6, 7, 8, 9, 10, 11, 12, 14, 16, 17]⟩)], [], [], []⟩
set_option maxHeartbeats 4000000 in
theorem lasks_calls (x0_0 : Int) (x0_1 : Int) (x0_2 : Int) (x0_3 : Int) (x0_4 : Int) (x0_5 : Int) (x0_6 : Int) (x0_7 : Int) (x0_8 : Int) (x0_9 : Int) (x0_10 : Int) (x0_11 : Int) (a0_12 : Option Addr) (n0_12 : Nat) (c0_12 : Nat) (x0_13 : Int) (x0_14 : Int) (x0_15 : Int) (x0_16 : Int) (x0_17 : Int) (x0_18 : Int) (a0_19 : Option Addr) (n0_19 : Nat) (c0_19 : Nat) (x0_20 : Int) (x0_21 : Int) (x0_22 : Int) (a0_23 : Option Addr) (n0_23 : Nat) (c0_23 : Nat) (a0_24 : Option Addr) (n0_24 : Nat) (c0_24 : Nat) (w : World) (K : Value → World → Prop) (h : lasks_vc x0_0 x0_1 x0_2 x0_3 x0_4 x0_5 x0_6 x0_7 x0_8 x0_9 x0_10 x0_11 a0_12 n0_12 c0_12 x0_13 x0_14 x0_15 x0_16 x0_17 x0_18 a0_19 n0_19 c0_19 x0_20 x0_21 x0_22 a0_23 n0_23 c0_23 a0_24 n0_24 c0_24 w K) : Calls Try.prog 3 #[.agg #[.int .i64 x0_0, .int .i64 x0_1, .int .i64 x0_2, .int .i64 x0_3, .int .i64 x0_4, .int .i64 x0_5, .int .i64 x0_6, .int .i64 x0_7, .int .i64 x0_8, .int .i64 x0_9, .int .i64 x0_10, .int .i64 x0_11, .slice a0_12 n0_12 c0_12, .int .i64 x0_13, .int .i64 x0_14, .int .i64 x0_15, .int .i64 x0_16, .int .i64 x0_17, .int .i64 x0_18, .slice a0_19 n0_19 c0_19, .int .i64 x0_20, .int .i64 x0_21, .int .i64 x0_22, .slice a0_23 n0_23 c0_23, .slice a0_24 n0_24 c0_24]] w fun e w' => ∃ v, e = .returned v ∧ K v w' :=
  calls_of_eq envOk Try.func3 lasks_notes [1, 7, 9] [.agg #[.int .i64 x0_0, .int .i64 x0_1, .int .i64 x0_2, .int .i64 x0_3, .int .i64 x0_4, .int .i64 x0_5, .int .i64 x0_6, .int .i64 x0_7, .int .i64 x0_8, .int .i64 x0_9, .int .i64 x0_10, .int .i64 x0_11, .slice a0_12 n0_12 c0_12, .int .i64 x0_13, .int .i64 x0_14, .int .i64 x0_15, .int .i64 x0_16, .int .i64 x0_17, .int .i64 x0_18, .slice a0_19 n0_19 c0_19, .int .i64 x0_20, .int .i64 x0_21, .int .i64 x0_22, .slice a0_23 n0_23 c0_23, .slice a0_24 n0_24 c0_24]] w K h (by as_aux_lemma => kernel_rfl)
/-- purser/purserlaw22.WireAsked -/
def lasked_k1 (K : Value → World → Prop) (bs18 : List UInt8) (x21_0_0 : Int) (x21_0_1 : Int) (x21_0_2 : Int) (x21_0_3 : Int) (x21_0_4 : Int) (x21_0_5 : Int) (x21_0_6 : Int) (x21_0_7 : Int) (x21_0_8 : Int) (x21_0_9 : Int) (x21_0_10 : Int) (x21_0_11 : Int) (a21_0_12 : Option Addr) (n21_0_12 : Nat) (c21_0_12 : Nat) (x21_0_13 : Int) (x21_0_14 : Int) (x21_0_15 : Int) (x21_0_16 : Int) (x21_0_17 : Int) (x21_0_18 : Int) (a21_0_19 : Option Addr) (n21_0_19 : Nat) (c21_0_19 : Nat) (x21_0_20 : Int) (x21_0_21 : Int) (x21_0_22 : Int) (a21_0_23 : Option Addr) (n21_0_23 : Nat) (c21_0_23 : Nat) (a21_0_24 : Option Addr) (n21_0_24 : Nat) (c21_0_24 : Nat) (x21_1 : Int) (g_2 : Nat) (g_3 : Nat) (w_16 : World) : Prop :=
  br (decide (x21_1 ≠ 0)) (
    K (.bool true) w_16
  ) (
    Calls Try.prog 8 #[.agg #[.int .i64 x21_0_0, .int .i64 x21_0_1, .int .i64 x21_0_2, .int .i64 x21_0_3, .int .i64 x21_0_4, .int .i64 x21_0_5, .int .i64 x21_0_6, .int .i64 x21_0_7, .int .i64 x21_0_8, .int .i64 x21_0_9, .int .i64 x21_0_10, .int .i64 x21_0_11, .slice a21_0_12 n21_0_12 c21_0_12, .int .i64 x21_0_13, .int .i64 x21_0_14, .int .i64 x21_0_15, .int .i64 x21_0_16, .int .i64 x21_0_17, .int .i64 x21_0_18, .slice a21_0_19 n21_0_19 c21_0_19, .int .i64 x21_0_20, .int .i64 x21_0_21, .int .i64 x21_0_22, .slice a21_0_23 n21_0_23 c21_0_23, .slice a21_0_24 n21_0_24 c21_0_24]] w_16 fun e_6 w_17 => KeepG [g_3, g_2] w_16 w_17 ∧
    ∃ (a62_0 : Option Addr) (n62_0 : Nat) (c62_0 : Nat) (x62_1 : Int),
    e_6 = .returned (.tuple #[.slice a62_0 n62_0 c62_0, .int .i64 x62_1]) ∧
    br (decide (x62_1 = 0)) (
      ∃ bs69 : List UInt8, bs69.length = n62_0 ∧ RowAt w_17 a62_0 (bs69.map bV) ∧
      K (.bool (decide ((strOf bs69) = (strOf bs18)))) w_17
    ) (
      K (.bool false) w_17
    )
  )
def lasked_k2 (K : Value → World → Prop) (bs18 : List UInt8) (x21_0_0 : Int) (x21_0_1 : Int) (x21_0_2 : Int) (x21_0_3 : Int) (x21_0_4 : Int) (x21_0_5 : Int) (x21_0_6 : Int) (x21_0_7 : Int) (x21_0_8 : Int) (x21_0_9 : Int) (x21_0_10 : Int) (x21_0_11 : Int) (a21_0_12 : Option Addr) (n21_0_12 : Nat) (c21_0_12 : Nat) (x21_0_13 : Int) (x21_0_14 : Int) (x21_0_15 : Int) (x21_0_16 : Int) (x21_0_17 : Int) (x21_0_18 : Int) (a21_0_19 : Option Addr) (n21_0_19 : Nat) (c21_0_19 : Nat) (x21_0_20 : Int) (x21_0_21 : Int) (x21_0_22 : Int) (a21_0_23 : Option Addr) (n21_0_23 : Nat) (c21_0_23 : Nat) (a21_0_24 : Option Addr) (n21_0_24 : Nat) (c21_0_24 : Nat) (x21_1 : Int) (g_2 : Nat) (g_3 : Nat) (b57 : Bool) (w_15 : World) : Prop :=
  br b57 (
    K (.bool false) w_15
  ) (
    lasked_k1 K bs18 x21_0_0 x21_0_1 x21_0_2 x21_0_3 x21_0_4 x21_0_5 x21_0_6 x21_0_7 x21_0_8 x21_0_9 x21_0_10 x21_0_11 a21_0_12 n21_0_12 c21_0_12 x21_0_13 x21_0_14 x21_0_15 x21_0_16 x21_0_17 x21_0_18 a21_0_19 n21_0_19 c21_0_19 x21_0_20 x21_0_21 x21_0_22 a21_0_23 n21_0_23 c21_0_23 a21_0_24 n21_0_24 c21_0_24 x21_1 g_2 g_3 w_15
  )
def lasked_vc (a0 : Option Addr) (n0 : Nat) (c0 : Nat) (w : World) (K : Value → World → Prop) : Prop :=
  newO w (.cells #[] 5) fun g w_2 =>
  (0 : Int) ≤ min ((n0 : Nat) : Int) 600 ∧ min ((n0 : Nat) : Int) 600 ≤ (((c0 : Nat) : Int) : Int) ∧
  appO Try.prog [] w_2 5 1 1 32 (some ⟨g, 0, none⟩) 0 0 (.slice a0 ((min ((n0 : Nat) : Int) 600).toNat) c0) fun m16 a16 c16 w_3 =>
  ∃ bs18 : List UInt8, bs18.length = 0 + m16 ∧ RowAt w_3 a16 (bs18.map bV) ∧
  Calls Try.prog 14 #[.slice a16 (0 + m16) c16] w_3 fun e w_4 => KeepG [] w_3 w_4 ∧
  ∃ (x21_0_0 : Int) (x21_0_1 : Int) (x21_0_2 : Int) (x21_0_3 : Int) (x21_0_4 : Int) (x21_0_5 : Int) (x21_0_6 : Int) (x21_0_7 : Int) (x21_0_8 : Int) (x21_0_9 : Int) (x21_0_10 : Int) (x21_0_11 : Int) (a21_0_12 : Option Addr) (n21_0_12 : Nat) (c21_0_12 : Nat) (x21_0_13 : Int) (x21_0_14 : Int) (x21_0_15 : Int) (x21_0_16 : Int) (x21_0_17 : Int) (x21_0_18 : Int) (a21_0_19 : Option Addr) (n21_0_19 : Nat) (c21_0_19 : Nat) (x21_0_20 : Int) (x21_0_21 : Int) (x21_0_22 : Int) (a21_0_23 : Option Addr) (n21_0_23 : Nat) (c21_0_23 : Nat) (a21_0_24 : Option Addr) (n21_0_24 : Nat) (c21_0_24 : Nat) (x21_1 : Int),
  e = .returned (.tuple #[.agg #[.int .i64 x21_0_0, .int .i64 x21_0_1, .int .i64 x21_0_2, .int .i64 x21_0_3, .int .i64 x21_0_4, .int .i64 x21_0_5, .int .i64 x21_0_6, .int .i64 x21_0_7, .int .i64 x21_0_8, .int .i64 x21_0_9, .int .i64 x21_0_10, .int .i64 x21_0_11, .slice a21_0_12 n21_0_12 c21_0_12, .int .i64 x21_0_13, .int .i64 x21_0_14, .int .i64 x21_0_15, .int .i64 x21_0_16, .int .i64 x21_0_17, .int .i64 x21_0_18, .slice a21_0_19 n21_0_19 c21_0_19, .int .i64 x21_0_20, .int .i64 x21_0_21, .int .i64 x21_0_22, .slice a21_0_23 n21_0_23 c21_0_23, .slice a21_0_24 n21_0_24 c21_0_24], .int .i64 x21_1]) ∧
  newO w_4 (.cells #[.int .i64 0, .int .i64 0, .int .i64 0, .int .i64 0, .int .i64 0, .int .i64 0, .int .i64 0, .int .i64 0, .int .i64 0, .int .i64 0, .int .i64 0, .int .i64 0, .slice none 0 0, .int .i64 0, .int .i64 0, .int .i64 0, .int .i64 0, .int .i64 0, .int .i64 0, .slice none 0 0, .int .i64 0, .int .i64 0, .int .i64 0, .slice none 0 0, .slice none 0 0] 39) fun g_2 w_5 =>
  ∀ w_6 : World, BoxSt g_2 w_5 w_6 →
  Calls Try.prog 15 #[.string (strOf bs18)] w_6 fun e_2 w_7 => KeepG [g_2] w_6 w_7 ∧
  ∃ (x26_0_0 : Int) (x26_0_1 : Int) (x26_0_2 : Int) (x26_0_3 : Int) (x26_0_4 : Int) (x26_0_5 : Int) (x26_0_6 : Int) (x26_0_7 : Int) (x26_0_8 : Int) (x26_0_9 : Int) (x26_0_10 : Int) (x26_0_11 : Int) (a26_0_12 : Option Addr) (n26_0_12 : Nat) (c26_0_12 : Nat) (x26_0_13 : Int) (x26_0_14 : Int) (x26_0_15 : Int) (x26_0_16 : Int) (x26_0_17 : Int) (x26_0_18 : Int) (a26_0_19 : Option Addr) (n26_0_19 : Nat) (c26_0_19 : Nat) (x26_0_20 : Int) (x26_0_21 : Int) (x26_0_22 : Int) (a26_0_23 : Option Addr) (n26_0_23 : Nat) (c26_0_23 : Nat) (a26_0_24 : Option Addr) (n26_0_24 : Nat) (c26_0_24 : Nat) (b26_1 : Bool),
  e_2 = .returned (.tuple #[.agg #[.int .i64 x26_0_0, .int .i64 x26_0_1, .int .i64 x26_0_2, .int .i64 x26_0_3, .int .i64 x26_0_4, .int .i64 x26_0_5, .int .i64 x26_0_6, .int .i64 x26_0_7, .int .i64 x26_0_8, .int .i64 x26_0_9, .int .i64 x26_0_10, .int .i64 x26_0_11, .slice a26_0_12 n26_0_12 c26_0_12, .int .i64 x26_0_13, .int .i64 x26_0_14, .int .i64 x26_0_15, .int .i64 x26_0_16, .int .i64 x26_0_17, .int .i64 x26_0_18, .slice a26_0_19 n26_0_19 c26_0_19, .int .i64 x26_0_20, .int .i64 x26_0_21, .int .i64 x26_0_22, .slice a26_0_23 n26_0_23 c26_0_23, .slice a26_0_24 n26_0_24 c26_0_24], .bool b26_1]) ∧
  newO w_7 (.cells #[.int .i64 0, .int .i64 0, .int .i64 0, .int .i64 0, .int .i64 0, .int .i64 0, .int .i64 0, .int .i64 0, .int .i64 0, .int .i64 0, .int .i64 0, .int .i64 0, .slice none 0 0, .int .i64 0, .int .i64 0, .int .i64 0, .int .i64 0, .int .i64 0, .int .i64 0, .slice none 0 0, .int .i64 0, .int .i64 0, .int .i64 0, .slice none 0 0, .slice none 0 0] 30) fun g_3 w_8 =>
  ∀ w_9 : World, BoxSt g_3 w_8 w_9 →
  drewO w_9 fun w_10 =>
  Calls Try.prog 11 #[] w_10 fun e_3 w_11 => KeepG [g_3, g_2] w_10 w_11 ∧
  ∃ (b29 : Bool),
  e_3 = .returned (.bool b29) ∧
  br (!b29) (
    K (.bool false) w_11
  ) (
    br (decide ((decide (x21_1 = 0)) ≠ b26_1)) (
      K (.bool false) w_11
    ) (
      br (decide (x21_1 ≠ 0)) (
        br (decide (x21_1 ≠ 2)) (
          K (.bool false) w_11
        ) (
          Calls Try.prog 17 #[.agg #[.int .i64 x21_0_0, .int .i64 x21_0_1, .int .i64 x21_0_2, .int .i64 x21_0_3, .int .i64 x21_0_4, .int .i64 x21_0_5, .int .i64 x21_0_6, .int .i64 x21_0_7, .int .i64 x21_0_8, .int .i64 x21_0_9, .int .i64 x21_0_10, .int .i64 x21_0_11, .slice a21_0_12 n21_0_12 c21_0_12, .int .i64 x21_0_13, .int .i64 x21_0_14, .int .i64 x21_0_15, .int .i64 x21_0_16, .int .i64 x21_0_17, .int .i64 x21_0_18, .slice a21_0_19 n21_0_19 c21_0_19, .int .i64 x21_0_20, .int .i64 x21_0_21, .int .i64 x21_0_22, .slice a21_0_23 n21_0_23 c21_0_23, .slice a21_0_24 n21_0_24 c21_0_24]] w_11 fun e_4 w_13 => KeepG [g_3, g_2] w_11 w_13 ∧
          ∃ (x47_0 : Int) (x47_1 : Int) (x47_2 : Int) (x47_3 : Int) (x47_4 : Int) (x47_5 : Int) (x47_6 : Int) (x47_7 : Int) (x47_8 : Int) (x47_9 : Int) (x47_10 : Int) (x47_11 : Int) (a47_12 : Option Addr) (n47_12 : Nat) (c47_12 : Nat) (x47_13 : Int) (x47_14 : Int) (x47_15 : Int) (x47_16 : Int) (x47_17 : Int) (x47_18 : Int) (a47_19 : Option Addr) (n47_19 : Nat) (c47_19 : Nat) (x47_20 : Int) (x47_21 : Int) (x47_22 : Int) (a47_23 : Option Addr) (n47_23 : Nat) (c47_23 : Nat) (a47_24 : Option Addr) (n47_24 : Nat) (c47_24 : Nat),
          e_4 = .returned (.agg #[.int .i64 x47_0, .int .i64 x47_1, .int .i64 x47_2, .int .i64 x47_3, .int .i64 x47_4, .int .i64 x47_5, .int .i64 x47_6, .int .i64 x47_7, .int .i64 x47_8, .int .i64 x47_9, .int .i64 x47_10, .int .i64 x47_11, .slice a47_12 n47_12 c47_12, .int .i64 x47_13, .int .i64 x47_14, .int .i64 x47_15, .int .i64 x47_16, .int .i64 x47_17, .int .i64 x47_18, .slice a47_19 n47_19 c47_19, .int .i64 x47_20, .int .i64 x47_21, .int .i64 x47_22, .slice a47_23 n47_23 c47_23, .slice a47_24 n47_24 c47_24]) ∧
          Calls Try.prog 16 #[.agg #[.int .i64 x47_0, .int .i64 x47_1, .int .i64 x47_2, .int .i64 x47_3, .int .i64 x47_4, .int .i64 x47_5, .int .i64 x47_6, .int .i64 x47_7, .int .i64 x47_8, .int .i64 x47_9, .int .i64 x47_10, .int .i64 x47_11, .slice a47_12 n47_12 c47_12, .int .i64 x47_13, .int .i64 x47_14, .int .i64 x47_15, .int .i64 x47_16, .int .i64 x47_17, .int .i64 x47_18, .slice a47_19 n47_19 c47_19, .int .i64 x47_20, .int .i64 x47_21, .int .i64 x47_22, .slice a47_23 n47_23 c47_23, .slice a47_24 n47_24 c47_24], .agg #[.int .i64 x26_0_0, .int .i64 x26_0_1, .int .i64 x26_0_2, .int .i64 x26_0_3, .int .i64 x26_0_4, .int .i64 x26_0_5, .int .i64 x26_0_6, .int .i64 x26_0_7, .int .i64 x26_0_8, .int .i64 x26_0_9, .int .i64 x26_0_10, .int .i64 x26_0_11, .slice a26_0_12 n26_0_12 c26_0_12, .int .i64 x26_0_13, .int .i64 x26_0_14, .int .i64 x26_0_15, .int .i64 x26_0_16, .int .i64 x26_0_17, .int .i64 x26_0_18, .slice a26_0_19 n26_0_19 c26_0_19, .int .i64 x26_0_20, .int .i64 x26_0_21, .int .i64 x26_0_22, .slice a26_0_23 n26_0_23 c26_0_23, .slice a26_0_24 n26_0_24 c26_0_24]] w_13 fun e_5 w_14 => KeepG [g_3, g_2] w_13 w_14 ∧
          ∃ (b49 : Bool),
          e_5 = .returned (.bool b49) ∧
          br (!b49) (
            K (.bool false) w_14
          ) (
            ∃ bs54 : List UInt8, bs54.length = 0 + m16 ∧ RowAt w_14 a16 (bs54.map bV) ∧
            lasked_k2 K bs18 x21_0_0 x21_0_1 x21_0_2 x21_0_3 x21_0_4 x21_0_5 x21_0_6 x21_0_7 x21_0_8 x21_0_9 x21_0_10 x21_0_11 a21_0_12 n21_0_12 c21_0_12 x21_0_13 x21_0_14 x21_0_15 x21_0_16 x21_0_17 x21_0_18 a21_0_19 n21_0_19 c21_0_19 x21_0_20 x21_0_21 x21_0_22 a21_0_23 n21_0_23 c21_0_23 a21_0_24 n21_0_24 c21_0_24 x21_1 g_2 g_3 (decide ((strOf bs54) ≠ (strOf bs18))) w_14
          )
        )
      ) (
        Calls Try.prog 17 #[.agg #[.int .i64 x21_0_0, .int .i64 x21_0_1, .int .i64 x21_0_2, .int .i64 x21_0_3, .int .i64 x21_0_4, .int .i64 x21_0_5, .int .i64 x21_0_6, .int .i64 x21_0_7, .int .i64 x21_0_8, .int .i64 x21_0_9, .int .i64 x21_0_10, .int .i64 x21_0_11, .slice a21_0_12 n21_0_12 c21_0_12, .int .i64 x21_0_13, .int .i64 x21_0_14, .int .i64 x21_0_15, .int .i64 x21_0_16, .int .i64 x21_0_17, .int .i64 x21_0_18, .slice a21_0_19 n21_0_19 c21_0_19, .int .i64 x21_0_20, .int .i64 x21_0_21, .int .i64 x21_0_22, .slice a21_0_23 n21_0_23 c21_0_23, .slice a21_0_24 n21_0_24 c21_0_24]] w_11 fun e_7 w_18 => KeepG [g_3, g_2] w_11 w_18 ∧
        ∃ (x47_0_2 : Int) (x47_1_2 : Int) (x47_2_2 : Int) (x47_3_2 : Int) (x47_4_2 : Int) (x47_5_2 : Int) (x47_6_2 : Int) (x47_7_2 : Int) (x47_8_2 : Int) (x47_9_2 : Int) (x47_10_2 : Int) (x47_11_2 : Int) (a47_12_2 : Option Addr) (n47_12_2 : Nat) (c47_12_2 : Nat) (x47_13_2 : Int) (x47_14_2 : Int) (x47_15_2 : Int) (x47_16_2 : Int) (x47_17_2 : Int) (x47_18_2 : Int) (a47_19_2 : Option Addr) (n47_19_2 : Nat) (c47_19_2 : Nat) (x47_20_2 : Int) (x47_21_2 : Int) (x47_22_2 : Int) (a47_23_2 : Option Addr) (n47_23_2 : Nat) (c47_23_2 : Nat) (a47_24_2 : Option Addr) (n47_24_2 : Nat) (c47_24_2 : Nat),
        e_7 = .returned (.agg #[.int .i64 x47_0_2, .int .i64 x47_1_2, .int .i64 x47_2_2, .int .i64 x47_3_2, .int .i64 x47_4_2, .int .i64 x47_5_2, .int .i64 x47_6_2, .int .i64 x47_7_2, .int .i64 x47_8_2, .int .i64 x47_9_2, .int .i64 x47_10_2, .int .i64 x47_11_2, .slice a47_12_2 n47_12_2 c47_12_2, .int .i64 x47_13_2, .int .i64 x47_14_2, .int .i64 x47_15_2, .int .i64 x47_16_2, .int .i64 x47_17_2, .int .i64 x47_18_2, .slice a47_19_2 n47_19_2 c47_19_2, .int .i64 x47_20_2, .int .i64 x47_21_2, .int .i64 x47_22_2, .slice a47_23_2 n47_23_2 c47_23_2, .slice a47_24_2 n47_24_2 c47_24_2]) ∧
        Calls Try.prog 16 #[.agg #[.int .i64 x47_0_2, .int .i64 x47_1_2, .int .i64 x47_2_2, .int .i64 x47_3_2, .int .i64 x47_4_2, .int .i64 x47_5_2, .int .i64 x47_6_2, .int .i64 x47_7_2, .int .i64 x47_8_2, .int .i64 x47_9_2, .int .i64 x47_10_2, .int .i64 x47_11_2, .slice a47_12_2 n47_12_2 c47_12_2, .int .i64 x47_13_2, .int .i64 x47_14_2, .int .i64 x47_15_2, .int .i64 x47_16_2, .int .i64 x47_17_2, .int .i64 x47_18_2, .slice a47_19_2 n47_19_2 c47_19_2, .int .i64 x47_20_2, .int .i64 x47_21_2, .int .i64 x47_22_2, .slice a47_23_2 n47_23_2 c47_23_2, .slice a47_24_2 n47_24_2 c47_24_2], .agg #[.int .i64 x26_0_0, .int .i64 x26_0_1, .int .i64 x26_0_2, .int .i64 x26_0_3, .int .i64 x26_0_4, .int .i64 x26_0_5, .int .i64 x26_0_6, .int .i64 x26_0_7, .int .i64 x26_0_8, .int .i64 x26_0_9, .int .i64 x26_0_10, .int .i64 x26_0_11, .slice a26_0_12 n26_0_12 c26_0_12, .int .i64 x26_0_13, .int .i64 x26_0_14, .int .i64 x26_0_15, .int .i64 x26_0_16, .int .i64 x26_0_17, .int .i64 x26_0_18, .slice a26_0_19 n26_0_19 c26_0_19, .int .i64 x26_0_20, .int .i64 x26_0_21, .int .i64 x26_0_22, .slice a26_0_23 n26_0_23 c26_0_23, .slice a26_0_24 n26_0_24 c26_0_24]] w_18 fun e_8 w_19 => KeepG [g_3, g_2] w_18 w_19 ∧
        ∃ (b49_2 : Bool),
        e_8 = .returned (.bool b49_2) ∧
        br (!b49_2) (
          K (.bool false) w_19
        ) (
          ∃ bs54_2 : List UInt8, bs54_2.length = 0 + m16 ∧ RowAt w_19 a16 (bs54_2.map bV) ∧
          lasked_k2 K bs18 x21_0_0 x21_0_1 x21_0_2 x21_0_3 x21_0_4 x21_0_5 x21_0_6 x21_0_7 x21_0_8 x21_0_9 x21_0_10 x21_0_11 a21_0_12 n21_0_12 c21_0_12 x21_0_13 x21_0_14 x21_0_15 x21_0_16 x21_0_17 x21_0_18 a21_0_19 n21_0_19 c21_0_19 x21_0_20 x21_0_21 x21_0_22 a21_0_23 n21_0_23 c21_0_23 a21_0_24 n21_0_24 c21_0_24 x21_1 g_2 g_3 (decide ((strOf bs54_2) ≠ (strOf bs18))) w_19
        )
      )
    )
  )
def lasked_notes : Notes := ⟨[(5, ⟨[0, 1, 3, 7, 15, 7, 63, 127, 255, 511, 1023, 2047, 4095, 8191, 16383, 32767, 65535, 131071, 262143, 131071, 1048575, 2097151, 4194303, 8388607, 16777215, 33554431, 16777215, 134217727, 268435455], [0, 18, 20], [1, 2, 3, 4, 5, 6, 7, 8, 9, 10, 11, 12, 13, 14, 15, 16, 17, 19, 21, 22, 23, 24, 25, 26, 27, 28]⟩)], [], [], []⟩
set_option maxHeartbeats 4000000 in
theorem lasked_calls (a0 : Option Addr) (n0 : Nat) (c0 : Nat) (w : World) (K : Value → World → Prop) (h : lasked_vc a0 n0 c0 w K) : Calls Try.prog 4 #[.slice a0 n0 c0] w fun e w' => ∃ v, e = .returned v ∧ K v w' :=
  calls_of_eq envOk Try.func4 lasked_notes [4, 6] [.slice a0 n0 c0] w K h (by as_aux_lemma => kernel_rfl)
/-- purser/purserlaw22.WireTells -/
def ltells_k1 (K : Value → World → Prop) (x0_0 : Int) (x0_1 : Int) (x1 : Int) (g : Nat) (a38_0 : Option Addr) (n38_0 : Nat) (c38_0 : Nat) (x38_1 : Int) (s43_0 : ByteArray) (w_11 : World) : Prop :=
  br (decide (x38_1 ≠ 0)) (
    K (.bool (decide (x38_1 ≠ 0))) w_11
  ) (
    br (decide (((n38_0 : Nat) : Int) = 0)) (
      K (.bool (decide (x38_1 ≠ 0))) w_11
    ) (
      Calls Try.prog 21 #[.slice a38_0 n38_0 c38_0] w_11 fun e_5 w_12 => KeepG [g] w_11 w_12 ∧
      ∃ (x78_0_0 : Int) (x78_0_1 : Int) (a78_0_2 : Option Addr) (n78_0_2 : Nat) (c78_0_2 : Nat) (x78_0_3 : Int) (x78_0_4 : Int) (x78_0_5 : Int) (x78_0_6 : Int) (x78_0_7 : Int) (x78_0_8 : Int) (x78_0_9 : Int) (x78_0_10 : Int) (x78_0_11 : Int) (a78_0_12 : Option Addr) (n78_0_12 : Nat) (c78_0_12 : Nat) (x78_1 : Int),
      e_5 = .returned (.tuple #[.agg #[.int .i64 x78_0_0, .int .i64 x78_0_1, .slice a78_0_2 n78_0_2 c78_0_2, .int .i64 x78_0_3, .int .i64 x78_0_4, .int .i64 x78_0_5, .int .i64 x78_0_6, .int .i64 x78_0_7, .int .i64 x78_0_8, .int .i64 x78_0_9, .int .i64 x78_0_10, .int .i64 x78_0_11, .slice a78_0_12 n78_0_12 c78_0_12], .int .i64 x78_1]) ∧
      newO w_12 (.cells #[.int .i64 0, .int .i64 0, .slice none 0 0, .int .i64 0, .int .i64 0, .int .i64 0, .int .i64 0, .int .i64 0, .int .i64 0, .int .i64 0, .int .i64 0, .int .i64 0, .slice none 0 0] 62) fun g_3 w_13 =>
      ∀ w_14 : World, BoxSt g_3 w_13 w_14 →
      Calls Try.prog 18 #[.agg #[.int .i64 x78_0_0, .int .i64 x78_0_1, .slice a78_0_2 n78_0_2 c78_0_2, .int .i64 x78_0_3, .int .i64 x78_0_4, .int .i64 x78_0_5, .int .i64 x78_0_6, .int .i64 x78_0_7, .int .i64 x78_0_8, .int .i64 x78_0_9, .int .i64 x78_0_10, .int .i64 x78_0_11, .slice a78_0_12 n78_0_12 c78_0_12]] w_14 fun e_6 w_15 => KeepG [g_3, g] w_14 w_15 ∧
      ∃ (a83_0 : Option Addr) (n83_0 : Nat) (c83_0 : Nat) (x83_1 : Int),
      e_6 = .returned (.tuple #[.slice a83_0 n83_0 c83_0, .int .i64 x83_1]) ∧
      ((IntKind.u64.wrap ((n38_0 : Nat) : Int)) : Int) ≠ 0 ∧
      (0 : Int) ≤ IntKind.i64.wrap (Int.tmod (IntKind.u64.wrap x1) (IntKind.u64.wrap ((n38_0 : Nat) : Int))) ∧ IntKind.i64.wrap (Int.tmod (IntKind.u64.wrap x1) (IntKind.u64.wrap ((n38_0 : Nat) : Int))) ≤ (((c38_0 : Nat) : Int) : Int) ∧
      Calls Try.prog 21 #[.slice a38_0 ((IntKind.i64.wrap (Int.tmod (IntKind.u64.wrap x1) (IntKind.u64.wrap ((n38_0 : Nat) : Int)))).toNat) c38_0] w_15 fun e_7 w_16 => KeepG [g_3, g] w_15 w_16 ∧
      ∃ (x96_0_0 : Int) (x96_0_1 : Int) (a96_0_2 : Option Addr) (n96_0_2 : Nat) (c96_0_2 : Nat) (x96_0_3 : Int) (x96_0_4 : Int) (x96_0_5 : Int) (x96_0_6 : Int) (x96_0_7 : Int) (x96_0_8 : Int) (x96_0_9 : Int) (x96_0_10 : Int) (x96_0_11 : Int) (a96_0_12 : Option Addr) (n96_0_12 : Nat) (c96_0_12 : Nat) (x96_1 : Int),
      e_7 = .returned (.tuple #[.agg #[.int .i64 x96_0_0, .int .i64 x96_0_1, .slice a96_0_2 n96_0_2 c96_0_2, .int .i64 x96_0_3, .int .i64 x96_0_4, .int .i64 x96_0_5, .int .i64 x96_0_6, .int .i64 x96_0_7, .int .i64 x96_0_8, .int .i64 x96_0_9, .int .i64 x96_0_10, .int .i64 x96_0_11, .slice a96_0_12 n96_0_12 c96_0_12], .int .i64 x96_1]) ∧
      newO w_16 (.cells #[.int .i64 0, .int .i64 0, .slice none 0 0, .int .i64 0, .int .i64 0, .int .i64 0, .int .i64 0, .int .i64 0, .int .i64 0, .int .i64 0, .int .i64 0, .int .i64 0, .slice none 0 0] 62) fun g_4 w_17 =>
      ∀ w_18 : World, BoxSt g_4 w_17 w_18 →
      newO w_18 (.cells #[] 5) fun g_5 w_19 =>
      appO Try.prog [g_4, g_3, g] w_19 5 1 1 32 (some ⟨g_5, 0, none⟩) 0 0 (.slice a38_0 n38_0 c38_0) fun m102 a102 c102 w_20 =>
      newO w_20 (.cells #[.int .u8 0] 5) fun g_6 w_21 =>
      appO Try.prog [g_4, g_3, g] w_21 5 1 1 32 a102 (0 + m102) c102 (.slice (some ⟨g_6, 0, none⟩) 1 1) fun m104 a104 c104 w_22 =>
      Calls Try.prog 21 #[.slice a104 ((0 + m102) + m104) c104] w_22 fun e_8 w_23 => KeepG [g_4, g_3, g] w_22 w_23 ∧
      ∃ (x105_0_0 : Int) (x105_0_1 : Int) (a105_0_2 : Option Addr) (n105_0_2 : Nat) (c105_0_2 : Nat) (x105_0_3 : Int) (x105_0_4 : Int) (x105_0_5 : Int) (x105_0_6 : Int) (x105_0_7 : Int) (x105_0_8 : Int) (x105_0_9 : Int) (x105_0_10 : Int) (x105_0_11 : Int) (a105_0_12 : Option Addr) (n105_0_12 : Nat) (c105_0_12 : Nat) (x105_1 : Int),
      e_8 = .returned (.tuple #[.agg #[.int .i64 x105_0_0, .int .i64 x105_0_1, .slice a105_0_2 n105_0_2 c105_0_2, .int .i64 x105_0_3, .int .i64 x105_0_4, .int .i64 x105_0_5, .int .i64 x105_0_6, .int .i64 x105_0_7, .int .i64 x105_0_8, .int .i64 x105_0_9, .int .i64 x105_0_10, .int .i64 x105_0_11, .slice a105_0_12 n105_0_12 c105_0_12], .int .i64 x105_1]) ∧
      newO w_23 (.cells #[.int .i64 0, .int .i64 0, .slice none 0 0, .int .i64 0, .int .i64 0, .int .i64 0, .int .i64 0, .int .i64 0, .int .i64 0, .int .i64 0, .int .i64 0, .int .i64 0, .slice none 0 0] 62) fun g_7 w_24 =>
      ∀ w_25 : World, BoxSt g_7 w_24 w_25 →
      ∃ bs109 : List UInt8, bs109.length = n38_0 ∧ RowAt w_25 a38_0 (bs109.map bV) ∧
      br (decide ((strOf bs109) = s43_0)) (
        br (decide (x78_1 = 0)) (
          br (decide (x83_1 = 0)) (
            ∃ bs122 : List UInt8, bs122.length = n83_0 ∧ RowAt w_25 a83_0 (bs122.map bV) ∧
            br (decide ((strOf bs122) = s43_0)) (
              br (decide (x96_1 = 2)) (
                br (decide (x105_1 = 2)) (
                  br (decide (x78_0_0 = x0_0)) (
                    K (.bool (decide (x78_0_1 = x0_1))) w_25
                  ) (
                    K (.bool false) w_25
                  )
                ) (
                  K (.bool false) w_25
                )
              ) (
                K (.bool false) w_25
              )
            ) (
              K (.bool false) w_25
            )
          ) (
            K (.bool false) w_25
          )
        ) (
          K (.bool false) w_25
        )
      ) (
        K (.bool false) w_25
      )
    )
  )
def ltells_vc (x0_0 : Int) (x0_1 : Int) (a0_2 : Option Addr) (n0_2 : Nat) (c0_2 : Nat) (x0_3 : Int) (x0_4 : Int) (x0_5 : Int) (x0_6 : Int) (x0_7 : Int) (x0_8 : Int) (x0_9 : Int) (x0_10 : Int) (x0_11 : Int) (s0_12 : ByteArray) (x1 : Int) (w : World) (K : Value → World → Prop) : Prop :=
  newO w (.cells #[.int .i64 x0_0, .int .i64 x0_1, .slice a0_2 n0_2 c0_2, .int .i64 x0_3, .int .i64 x0_4, .int .i64 x0_5, .int .i64 x0_6, .int .i64 x0_7, .int .i64 x0_8, .int .i64 x0_9, .int .i64 x0_10, .int .i64 x0_11, .string s0_12] 56) fun g w_2 =>
  newO w_2 (.cells #[] 115) fun g_2 w_3 =>
  (0 : Int) ≤ min ((n0_2 : Nat) : Int) 6 ∧ min ((n0_2 : Nat) : Int) 6 ≤ (((c0_2 : Nat) : Int) : Int) ∧
  appO Try.prog [g] w_3 115 4 32 53 (some ⟨g_2, 0, none⟩) 0 0 (.slice a0_2 ((min ((n0_2 : Nat) : Int) 6).toNat) c0_2) fun m25 a25 c25 w_4 =>
  ∀ w_5 : World, BoxSt g w_4 w_5 →
  (0 : Int) ≤ min ((s0_12.size : Nat) : Int) 200 ∧ min ((s0_12.size : Nat) : Int) 200 ≤ (((s0_12.size : Nat) : Int) : Int) ∧
  ∀ w_6 : World, BoxSt g w_5 w_6 →
  Calls Try.prog 19 #[.agg #[.int .i64 x0_0, .int .i64 x0_1, .slice a25 (0 + m25) c25, .int .i64 x0_3, .int .i64 x0_4, .int .i64 x0_5, .int .i64 x0_6, .int .i64 x0_7, .int .i64 x0_8, .int .i64 x0_9, .int .i64 x0_10, .int .i64 x0_11, .string (s0_12.extract 0 ((min ((s0_12.size : Nat) : Int) 200).toNat))]] w_6 fun e w_7 => KeepG [g] w_6 w_7 ∧
  ∃ (x37_0 : Int) (x37_1 : Int) (a37_2 : Option Addr) (n37_2 : Nat) (c37_2 : Nat) (x37_3 : Int) (x37_4 : Int) (x37_5 : Int) (x37_6 : Int) (x37_7 : Int) (x37_8 : Int) (x37_9 : Int) (x37_10 : Int) (x37_11 : Int) (a37_12 : Option Addr) (n37_12 : Nat) (c37_12 : Nat),
  e = .returned (.agg #[.int .i64 x37_0, .int .i64 x37_1, .slice a37_2 n37_2 c37_2, .int .i64 x37_3, .int .i64 x37_4, .int .i64 x37_5, .int .i64 x37_6, .int .i64 x37_7, .int .i64 x37_8, .int .i64 x37_9, .int .i64 x37_10, .int .i64 x37_11, .slice a37_12 n37_12 c37_12]) ∧
  Calls Try.prog 18 #[.agg #[.int .i64 x37_0, .int .i64 x37_1, .slice a37_2 n37_2 c37_2, .int .i64 x37_3, .int .i64 x37_4, .int .i64 x37_5, .int .i64 x37_6, .int .i64 x37_7, .int .i64 x37_8, .int .i64 x37_9, .int .i64 x37_10, .int .i64 x37_11, .slice a37_12 n37_12 c37_12]] w_7 fun e_2 w_8 => KeepG [g] w_7 w_8 ∧
  ∃ (a38_0 : Option Addr) (n38_0 : Nat) (c38_0 : Nat) (x38_1 : Int),
  e_2 = .returned (.tuple #[.slice a38_0 n38_0 c38_0, .int .i64 x38_1]) ∧
  Calls Try.prog 20 #[.agg #[.int .i64 x0_0, .int .i64 x0_1, .slice a25 (0 + m25) c25, .int .i64 x0_3, .int .i64 x0_4, .int .i64 x0_5, .int .i64 x0_6, .int .i64 x0_7, .int .i64 x0_8, .int .i64 x0_9, .int .i64 x0_10, .int .i64 x0_11, .string (s0_12.extract 0 ((min ((s0_12.size : Nat) : Int) 200).toNat))]] w_8 fun e_3 w_9 => KeepG [g] w_8 w_9 ∧
  ∃ (s43_0 : ByteArray) (b43_1 : Bool),
  e_3 = .returned (.tuple #[.string s43_0, .bool b43_1]) ∧
  Calls Try.prog 11 #[] w_9 fun e_4 w_10 => KeepG [g] w_9 w_10 ∧
  ∃ (b46 : Bool),
  e_4 = .returned (.bool b46) ∧
  br (!b46) (
    K (.bool false) w_10
  ) (
    br (decide ((decide (x38_1 = 0)) ≠ b43_1)) (
      K (.bool false) w_10
    ) (
      br (decide (x38_1 ≠ 0)) (
        br (decide (x38_1 ≠ 2)) (
          K (.bool false) w_10
        ) (
          br (decide (((n38_0 : Nat) : Int) ≠ 0)) (
            K (.bool false) w_10
          ) (
            ltells_k1 K x0_0 x0_1 x1 g a38_0 n38_0 c38_0 x38_1 s43_0 w_10
          )
        )
      ) (
        ltells_k1 K x0_0 x0_1 x1 g a38_0 n38_0 c38_0 x38_1 s43_0 w_10
      )
    )
  )
def ltells_notes : Notes := ⟨[], [], [], []⟩
set_option maxHeartbeats 4000000 in
theorem ltells_calls (x0_0 : Int) (x0_1 : Int) (a0_2 : Option Addr) (n0_2 : Nat) (c0_2 : Nat) (x0_3 : Int) (x0_4 : Int) (x0_5 : Int) (x0_6 : Int) (x0_7 : Int) (x0_8 : Int) (x0_9 : Int) (x0_10 : Int) (x0_11 : Int) (s0_12 : ByteArray) (x1 : Int) (w : World) (K : Value → World → Prop) (h : ltells_vc x0_0 x0_1 a0_2 n0_2 c0_2 x0_3 x0_4 x0_5 x0_6 x0_7 x0_8 x0_9 x0_10 x0_11 s0_12 x1 w K) : Calls Try.prog 5 #[.agg #[.int .i64 x0_0, .int .i64 x0_1, .slice a0_2 n0_2 c0_2, .int .i64 x0_3, .int .i64 x0_4, .int .i64 x0_5, .int .i64 x0_6, .int .i64 x0_7, .int .i64 x0_8, .int .i64 x0_9, .int .i64 x0_10, .int .i64 x0_11, .string s0_12], .int .i64 x1] w fun e w' => ∃ v, e = .returned v ∧ K v w' :=
  calls_of_eq envOk Try.func5 ltells_notes [2, 9, 13, 15] [.agg #[.int .i64 x0_0, .int .i64 x0_1, .slice a0_2 n0_2 c0_2, .int .i64 x0_3, .int .i64 x0_4, .int .i64 x0_5, .int .i64 x0_6, .int .i64 x0_7, .int .i64 x0_8, .int .i64 x0_9, .int .i64 x0_10, .int .i64 x0_11, .string s0_12], .int .i64 x1] w K h (by as_aux_lemma => kernel_rfl)
end GWiR
end Go.Proofs.Ytkggnbabnfhcpaa
end
section
/- Conditions of functions, printed by a program of this claim's own (vcgen.py) out of the loaded code; each is proved to be enough. -/
set_option maxRecDepth 100000
namespace Go.Proofs.Ytkggnbabnfhcpaa
open Go.RowKit
namespace GWiD
def env : Env := ⟨[(3, ⟨.int .i64, 1, .int .i64 0, 8, [.int .i64]⟩), (67, ⟨.int .u64, 1, .int .u64 0, 8, [.int .u64]⟩)], [(74, [.lf (.str)])], []⟩
theorem ty3 : TyOk Try.prog 3 ⟨.int .i64, 1, .int .i64 0, 8, [.int .i64]⟩ := tyok (by kernel_rfl) (by kernel_rfl)
theorem ty67 : TyOk Try.prog 67 ⟨.int .u64, 1, .int .u64 0, 8, [.int .u64]⟩ := tyok (by kernel_rfl) (by kernel_rfl)
theorem fn74 : FnOk Try.prog 74 := fnok Try.func74 (by kernel_rfl) (by kernel_rfl)
theorem envOk : EOk Try.prog env := ⟨(by simp only [env, List.forall_mem_cons, List.not_mem_nil, false_implies, implies_true, and_true]; exact ⟨ty3, ty67⟩), (by simp only [env, List.forall_mem_cons, List.not_mem_nil, false_implies, implies_true, and_true]; exact fn74), by kernel_rfl, (fun _ h => by cases h)⟩
/-- purser/purserref03.Uint -/
def funt_vc (x0 : Int) (w : World) (K : Value → World → Prop) : Prop :=
  br (decide (x0 < 0)) (
    K (.string (⟨#[]⟩ : ByteArray)) w
  ) (
    Calls Try.prog 74 #[.int .u64 (IntKind.u64.wrap x0)] w fun e w_2 => KeepG [] w w_2 ∧
    ∃ (s7 : ByteArray),
    e = .returned (.string s7) ∧
    K (.string s7) w_2
  )
def funt_notes : Notes := ⟨[], [], [], []⟩
set_option maxHeartbeats 4000000 in
theorem funt_calls (x0 : Int) (w : World) (K : Value → World → Prop) (h : funt_vc x0 w K) : Calls Try.prog 58 #[.int .i64 x0] w fun e w' => ∃ v, e = .returned v ∧ K v w' :=
  calls_of_eq envOk Try.func58 funt_notes [] [.int .i64 x0] w K h (by as_aux_lemma => kernel_rfl)
/-- purser/purserref03.Int -/
def fintt_vc (x0 : Int) (w : World) (K : Value → World → Prop) : Prop :=
  br (decide (x0 ≥ 0)) (
    Calls Try.prog 74 #[.int .u64 (IntKind.u64.wrap (2 * (IntKind.u64.wrap x0)))] w fun e w_2 => KeepG [] w w_2 ∧
    ∃ (s8 : ByteArray),
    e = .returned (.string s8) ∧
    K (.string s8) w_2
  ) (
    Calls Try.prog 74 #[.int .u64 (IntKind.u64.wrap ((IntKind.u64.wrap (2 * (IntKind.u64.wrap (0 - (IntKind.u64.wrap x0))))) - 1))] w fun e_2 w_3 => KeepG [] w w_3 ∧
    ∃ (s14 : ByteArray),
    e_2 = .returned (.string s14) ∧
    K (.string s14) w_3
  )
def fintt_notes : Notes := ⟨[], [], [], []⟩
set_option maxHeartbeats 4000000 in
theorem fintt_calls (x0 : Int) (w : World) (K : Value → World → Prop) (h : fintt_vc x0 w K) : Calls Try.prog 59 #[.int .i64 x0] w fun e w' => ∃ v, e = .returned v ∧ K v w' :=
  calls_of_eq envOk Try.func59 fintt_notes [] [.int .i64 x0] w K h (by as_aux_lemma => kernel_rfl)
end GWiD
end Go.Proofs.Ytkggnbabnfhcpaa
end
section
/- The document's writer; walked. -/
namespace Go.Proofs.Ytkggnbabnfhcpaa
open Go.RowKit
/-- A writer; some blocks are never its own. -/
structure YAt (w : World) (pr : Nat → Prop) (g : Nat) (bs : List UInt8) (r : Bool) : Prop where
  ex : ∃ v, Bk w g #[v, .bool r] 86 ∧ Own w 0 5 1 v bs.length (bs.map bV) ∧ ∀ k, v.ownBlock = some k → ¬ pr k
  g0 : ¬ pr g
  up : ∀ q, pr q → q < w.heap.size
/-- Those, and blocks of other kinds than a writer's, are as they were. -/
structure YFr (pr : Nat → Prop) (w w' : World) : Prop where
  os : w'.os = w.os
  tape : w'.tape = w.tape
  output : w'.output = w.output
  size : w.heap.size ≤ w'.heap.size
  old : ∀ q, q < w.heap.size → pr q → w'.heap[q]? = w.heap[q]?
  kind : ∀ (q : Nat) (cs : Array Value) (t : TypeId) (f : Nat × Nat), w.heap[q]? = some (Obj.cells cs t f) → t ≠ 5 → t ≠ 86 → w'.heap[q]? = w.heap[q]?
section
variable {pr : Nat → Prop} {g : Nat} {w w1 w2 : World} {bs : List UInt8} {r : Bool}
theorem YFr.refl (pr : Nat → Prop) (w : World) : YFr pr w w := ⟨rfl, rfl, rfl, Nat.le_refl _, fun _ _ _ => rfl, fun _ _ _ _ _ _ _ => rfl⟩
theorem YFr.trans (h : YFr pr w w1) (k : YFr pr w1 w2) : YFr pr w w2 :=
  ⟨k.os.trans h.os, k.tape.trans h.tape, k.output.trans h.output, Nat.le_trans h.size k.size, fun q h1 h2 => (k.old q (Nat.lt_of_lt_of_le h1 h.size) h2).trans (h.old q h1 h2), fun q cs t f h1 h2 h3 => (k.kind q cs t f ((h.kind q cs t f h1 h2 h3).trans h1) h2 h3).trans (h.kind q cs t f h1 h2 h3)⟩
theorem YFr.ofBelow (b : Below w.heap.size w w1) : YFr pr w w1 := ⟨b.os, b.tape, b.output, b.size, fun q h1 _ => b.block q h1, fun q cs t f h1 _ _ => b.block q (heap_lt h1)⟩
theorem YFr.mono {pr2 : Nat → Prop} (h : YFr pr w w1) (hp : ∀ q, pr2 q → pr q) : YFr pr2 w w1 := ⟨h.os, h.tape, h.output, h.size, fun q h1 h2 => h.old q h1 (hp q h2), h.kind⟩
theorem YFr.old0 {w0 : World} (f : YFr pr w w1) (B : Bs w0 w) (hn : ∀ q, q < w0.heap.size → pr q) : Bs w0 w1 := ⟨f.os.trans B.os, f.tape.trans B.tape, f.output.trans B.output, Nat.le_trans B.size f.size, fun q hq => (f.old q (by have := B.size; omega) (hn q hq)).trans (B.block q hq)⟩
theorem YFr.row {a : Option Addr} {vs : List Value} (f : YFr pr w w1) (h : RowAt w a vs) (hp : ∀ q, a = some q → pr q.block) : RowAt w1 a vs := by
  rcases h with h | ⟨b, off, ha, h⟩
  · exact .inl h
  · refine .inr ⟨b, off, ha, fun i v hv => ?_⟩
    have hc := h i v hv
    rw [cell_keep (f.old b (block_lt_of_cell hc) (hp _ ha))]
    exact hc
theorem Bk.yfr {q : Nat} {cs : Array Value} {t : TypeId} (h : Bk w q cs t) (f : YFr pr w w1) (h1 : t ≠ 5) (h2 : t ≠ 86) : Bk w1 q cs t := Bk.keep h (f.kind q cs t (0, 0) h h1 h2)
theorem YAt.raw (h : YAt w pr g bs r) : ∃ a c, Bk w g #[.slice a bs.length c, .bool r] 86 ∧ Own w 0 5 1 (.slice a bs.length c) bs.length (bs.map bV) ∧ ∀ k, (Value.slice a bs.length c).ownBlock = some k → ¬ pr k := by
  obtain ⟨v, h1, h2, h3⟩ := h.ex
  obtain ⟨a, c, rfl⟩ := h2.isSlice
  exact ⟨a, c, h1, h2, h3⟩
theorem YAt.make (h : Bk w g #[.slice none 0 0, .bool false] 86) (hn : ¬ pr g) (hp : ∀ q, pr q → q < w.heap.size) : YAt w pr g [] false := ⟨⟨_, h, Own.nil _ _ _ _, fun k hk => by cases hk⟩, hn, hp⟩
theorem YAt.below (h : YAt w pr g bs r) (b : Below w.heap.size w w1) : YAt w1 pr g bs r := by
  obtain ⟨v, h1, h2, h3⟩ := h.ex
  exact ⟨⟨v, h1.below b, h2.below b (Nat.le_refl _), h3⟩, h.g0, fun q hq => Nat.lt_of_lt_of_le (h.up q hq) b.size⟩
theorem YAt.lt (h : YAt w pr g bs r) : g < w.heap.size := by
  obtain ⟨v, h1, h2⟩ := h.ex
  exact h1.lt
theorem YAt.mono {pr2 : Nat → Prop} (h : YAt w pr g bs r) (hp : ∀ q, pr2 q → pr q) : YAt w pr2 g bs r := by
  obtain ⟨v, h1, h2, h3⟩ := h.ex
  exact ⟨⟨v, h1, h2, fun k hk hq => h3 k hk (hp k hq)⟩, fun hq => h.g0 (hp _ hq), fun q hq => h.up q (hp q hq)⟩
/-- A block that is newer than all of the writer's is never its own. -/
theorem YAt.more {q : Nat} (h : YAt w pr g bs r) (b : Below w.heap.size w w1) (hq : w.heap.size ≤ q) (hq1 : q < w1.heap.size) : YAt w1 (fun k => pr k ∨ k = q) g bs r := by
  obtain ⟨v, h1, h2, h3⟩ := h.ex
  refine ⟨⟨v, h1.below b, h2.below b (Nat.le_refl _), fun k hk hp => ?_⟩, fun hp => ?_, fun k hp => ?_⟩
  · rcases hp with hp | rfl
    · exact h3 k hk hp
    · have := (h2.lt k hk).2; omega
  · rcases hp with hp | rfl
    · exact h.g0 hp
    · have := h1.lt; omega
  · rcases hp with hp | rfl
    · have := h.up k hp; have := b.size; omega
    · exact hq1
/-- A box of another kind was written. -/
theorem YAt.other {q : Nat} {cs : Array Value} {t : TypeId} (h : YAt w pr g bs r) (hq : Bk w q cs t) (h1 : t ≠ 5) (h2 : t ≠ 86) (f : Fr [q] w w1) : YAt w1 pr g bs r := by
  obtain ⟨v, k1, k2, k3⟩ := h.ex
  have hne : g ≠ q := k1.ne hq (Ne.symm h2)
  exact ⟨⟨v, k1.fr1 f hne, k2.keep fun k hk => f.block k (k2.lt k hk).2 (by rw [List.mem_singleton]; rintro rfl; exact own_far2 hq k2 h1 hk), k3⟩, h.g0, fun q hq => Nat.lt_of_lt_of_le (h.up q hq) f.size⟩
/-- Bytes more. -/
theorem y_app {gs : List Nat} (hgs : ∀ q ∈ gs, ∃ cs t, Bk w q cs t ∧ t ≠ 5 ∧ t ≠ 86) {tx : TypeId} {a : Option Addr} {c m : Nat} {x : Value} {news : List UInt8} (hb : Bk w g #[.slice a bs.length c, .bool r] 86) (ho : Own w 0 5 1 (.slice a bs.length c) bs.length (bs.map bV)) (hop : ∀ k, (Value.slice a bs.length c).ownBlock = some k → ¬ pr k) (g0 : ¬ pr g) (hup : ∀ q, pr q → q < w.heap.size)
    (s : Src Try.prog 1 tx x m (news.map bV) w) (hm : news.length = m) (hl : bs.length + m ≤ 1000000000) {K : World → Prop} (k : ∀ w2, YAt w2 pr g (bs ++ news) r → YFr pr w w2 → K w2) :
    appO Try.prog gs w 5 1 1 tx a bs.length c x fun m' a' c' w1 => stO gs w1 g 0 [.slice a' (bs.length + m') c'] K := by
  subst hm
  refine ⟨news.length, bs.map bV, news.map bV, ho.base_le fun _ _ => Nat.zero_le _, s, by unfold maxLen; omega, by omega, (fun q hq => by obtain ⟨cs, t, k1, k2, _⟩ := hgs q hq; exact own_far2 k1 ho k2), fun a' c' w1 o1 g1 or1 _ => ?_⟩
  have hne : (Value.slice a bs.length c).ownBlock ≠ some g := own_far2 hb ho (by decide)
  have b1 : Bk w1 g #[.slice a bs.length c, .bool r] 86 := hb.keep (g1.block g hb.lt fun e => hne e.symm)
  have o2 : ∀ q, (Value.slice a' (bs.length + news.length) c').ownBlock = some q → ¬ pr q := fun q hq hp => by
    rcases or1 with h | ⟨g', h, h3⟩
    · exact hop q (h ▸ hq) hp
    · rw [h] at hq; injection hq with hq; have := hup q hp; omega
  refine stO_bk b1 (i := 0) (by simp) (fun q hq e => by subst e; obtain ⟨cs, t, k1, _, k3⟩ := hgs q hq; exact hb.ne k1 (Ne.symm k3) rfl) fun w2 b2 f2 z2 => k w2 ⟨⟨.slice a' (bs.length + news.length) c', b2, ?_, o2⟩, g0, fun q hq => by have := hup q hq; have := g1.size; omega⟩ ⟨f2.os.trans g1.os, f2.tape.trans g1.tape, f2.output.trans g1.output, by have := g1.size; omega, fun q h1 h2 => ?_, fun q cs t f h1 h2 h3 => ?_⟩
  · rw [List.length_append, List.map_append]
    exact o1.keep fun q hq => f2.block q (o1.lt q hq).2 (by rw [List.mem_singleton]; rintro rfl; exact own_far2 b1 o1 (by decide) hq)
  · have := g1.size
    exact (f2.block q (by omega) (by rw [List.mem_singleton]; rintro rfl; exact g0 h2)).trans (g1.block q h1 fun e => hop q e.symm h2)
  · have hq := heap_lt h1
    have := g1.size
    have hne2 : q ≠ g := fun e => by subst e; have hb' : w.heap[q]? = _ := hb; rw [h1] at hb'; injection hb' with hb'; injection hb' with _ hb'; exact h3 hb'
    exact (f2.block q (by omega) (by rw [List.mem_singleton]; exact hne2)).trans (g1.block q hq fun e => own_far2 h1 ho h2 e.symm)
/-- Its flag is set. -/
theorem y_flag {gs : List Nat} (hgs : ∀ q ∈ gs, ∃ cs t, Bk w q cs t ∧ t ≠ 5 ∧ t ≠ 86) (h : YAt w pr g bs r) {v : Bool} {K : World → Prop} (k : ∀ w2, YAt w2 pr g bs v → YFr pr w w2 → w2.heap.size = w.heap.size → K w2) : stO gs w g 1 [.bool v] K := by
  obtain ⟨u, h1, h2, h2'⟩ := h.ex
  refine stO_bk h1 (i := 1) (by simp) (fun q hq e => by subst e; obtain ⟨cs, t, k1, _, k3⟩ := hgs q hq; exact h1.ne k1 (Ne.symm k3) rfl) fun w2 b2 f2 z2 => k w2 ⟨⟨u, b2, h2.keep fun q hq => f2.block q (h2.lt q hq).2 (by rw [List.mem_singleton]; rintro rfl; exact own_far2 h1 h2 (by decide) hq), h2'⟩, h.g0, fun q hq => by have := h.up q hq; omega⟩ ⟨f2.os, f2.tape, f2.output, by omega, fun q h3 h4 => f2.block q h3 (by rw [List.mem_singleton]; rintro rfl; exact h.g0 h4), fun q cs t f h3 _ h5 => f2.block q (heap_lt h3) ?_⟩ z2
  rw [List.mem_singleton]
  rintro rfl
  have hb' : w.heap[q]? = _ := h1
  rw [h3] at hb'
  injection hb' with hb'
  injection hb' with _ hb'
  exact h5 hb'
theorem YAt.c0 (h : YAt w pr g bs r) : ∃ a c, w.cell? ⟨g, 0, none⟩ = some (.slice a bs.length c) := by
  obtain ⟨a, c, h1, _⟩ := h.raw
  exact ⟨a, c, by rw [h1.cell]; rfl⟩
theorem YAt.c1 (h : YAt w pr g bs r) : w.cell? ⟨g, 1, none⟩ = some (.bool r) := by
  obtain ⟨a, c, h1, _⟩ := h.raw
  rw [h1.cell]; rfl
end
theorem bytes_of (bs : List UInt8) : byteCells (strOf bs) = bs.map bV := by
  unfold byteCells strOf
  simp [bV]
theorem srcStr {w : World} (bs : List UInt8) : Src Try.prog 1 9 (.string (strOf bs)) bs.length (bs.map bV) w := by
  have := Src.ofString (P := Try.prog) (w := w) (tx := 9) Try.underlying9 (strOf bs)
  rwa [bytes_of, strOf_size] at this
theorem funt_any (z : Int) (w : World) : Calls Try.prog 58 #[.int .i64 z] w (Ret (.string (strOf (ub z))) w) := by
  refine ret_in (GWiD.funt_calls z w (fun u w' => u = .string (strOf (ub z)) ∧ Below w.heap.size w w') ?_)
  unfold GWiD.funt_vc ub
  refine br_dec (fun h => ⟨by rw [if_pos h]; rfl, Below.refl _ _⟩) fun h => ?_
  rw [if_neg h]
  have hr := u64_range z
  obtain ⟨n, hn⟩ : ∃ n : Nat, IntKind.u64.wrap z = n := ⟨(IntKind.u64.wrap z).toNat, by omega⟩
  rw [hn, Int.toNat_natCast]
  refine (fgroups_any n (by omega) w).mono ?_
  rintro e w2 ⟨rfl, b2⟩
  exact ⟨keepG_nil _ _, _, rfl, rfl, b2⟩
def ib2 (z : Int) : List UInt8 := if 0 ≤ z then grp (IntKind.u64.wrap (2 * (IntKind.u64.wrap z))).toNat else grp (IntKind.u64.wrap ((IntKind.u64.wrap (2 * (IntKind.u64.wrap (0 - (IntKind.u64.wrap z))))) - 1)).toNat
theorem ib2_len (z : Int) : (ib2 z).length ≤ 10 := by
  unfold ib2
  split
  · exact grp_len64 (by have := u64_range (2 * (IntKind.u64.wrap z)); omega)
  · exact grp_len64 (by have := u64_range ((IntKind.u64.wrap (2 * (IntKind.u64.wrap (0 - (IntKind.u64.wrap z))))) - 1); omega)
theorem ib2_eq {z : Int} (h0 : -9223372036854775808 ≤ z) (h : z ≤ 9223372036854775807) : ib2 z = intB z := by
  unfold ib2 intB zig
  split
  · rw [wru64 (z := z) (by omega) (by omega), wru64 (z := 2 * z) (by omega) (by omega)]
  · have h1 : IntKind.u64.wrap z = 18446744073709551616 + z := by rw [IntKind.wrap_u64]; omega
    have h2 : IntKind.u64.wrap (0 - (18446744073709551616 + z)) = - z := by rw [IntKind.wrap_u64]; omega
    congr 2
    rw [h1, h2]
    by_cases h3 : z = -9223372036854775808
    · subst h3
      rw [IntKind.wrap_u64, IntKind.wrap_u64]
      rfl
    · rw [wru64 (z := 2 * -z) (by omega) (by omega), wru64 (z := 2 * -z - 1) (by omega) (by omega)]
theorem fintt_any (z : Int) (w : World) : Calls Try.prog 59 #[.int .i64 z] w (Ret (.string (strOf (ib2 z))) w) := by
  refine ret_in (GWiD.fintt_calls z w (fun u w' => u = .string (strOf (ib2 z)) ∧ Below w.heap.size w w') ?_)
  unfold GWiD.fintt_vc ib2
  have key : ∀ y : Int, 0 ≤ y ∧ y < 18446744073709551616 → Calls Try.prog 74 #[.int .u64 y] w (Ret (.string (strOf (grp y.toNat))) w) := fun y hy => by
    obtain ⟨n, rfl⟩ : ∃ n : Nat, y = n := ⟨y.toNat, by omega⟩
    rw [Int.toNat_natCast]
    exact fgroups_any n (by omega) w
  refine br_dec (fun h => ?_) fun h => ?_
  · rw [if_pos h]
    refine (key _ (u64_range _)).mono ?_
    rintro e w2 ⟨rfl, b2⟩
    exact ⟨keepG_nil _ _, _, rfl, rfl, b2⟩
  · rw [if_neg h]
    refine (key _ (u64_range _)).mono ?_
    rintro e w2 ⟨rfl, b2⟩
    exact ⟨keepG_nil _ _, _, rfl, rfl, b2⟩
end Go.Proofs.Ytkggnbabnfhcpaa
end
section
/- The document's writer of requests; walked. -/
namespace Go.Proofs.Ytkggnbabnfhcpaa
open Go.RowKit
structure DW (w : World) (pr : Nat → Prop) (g : Nat) (bs : List UInt8) (P : Prop) (L : Nat) : Prop where
  ex : ∃ bs' bad, YAt w pr g bs' bad ∧ (bad = false ↔ P) ∧ (P → bs' = bs) ∧ bs'.length ≤ L
def DWd (w : World) (pr : Nat → Prop) (g : Nat) (bs : List UInt8) (P : Prop) (L : Nat) (e : Ending) (w' : World) : Prop := e = .returned (.tuple #[]) ∧ DW w' pr g bs P L ∧ YFr pr w w'
section
variable {pr : Nat → Prop} {g x L : Nat} {w w1 : World} {bs : List UInt8} {P : Prop} {a : Option Addr}
theorem DW.below (h : DW w pr g bs P L) (b : Below w.heap.size w w1) : DW w1 pr g bs P L := by
  obtain ⟨bs', bad, h1, h2⟩ := h.ex
  exact ⟨bs', bad, h1.below b, h2⟩
theorem DW.to (h : DW w pr g bs P L) {bs2 : List UInt8} {Q : Prop} {M : Nat} (e : bs = bs2) (hq : P ↔ Q) (hm : L ≤ M) : DW w pr g bs2 Q M := by
  subst e
  obtain ⟨bs', bad, h1, h2, h4, h5⟩ := h.ex
  exact ⟨bs', bad, h1, h2.trans hq, fun q => h4 (hq.2 q), Nat.le_trans h5 hm⟩
theorem DW.start (h : Bk w g #[.slice none 0 0, .bool false] 86) (hn : ¬ pr g) (hp : ∀ q, pr q → q < w.heap.size) : DW w pr g [] True 0 := ⟨[], false, YAt.make h hn hp, by simp, fun _ => rfl, Nat.le_refl _⟩
theorem keepG_yfr {gs : List Nat} (f : YFr pr w w1) (h : ∀ q ∈ gs, ∃ cs t, Bk w q cs t ∧ t ≠ 5 ∧ t ≠ 86) : KeepG gs w w1 := fun _ q hq => by
  obtain ⟨cs, t, h1, h2, h3⟩ := h q hq
  exact f.kind q cs t _ h1 h2 h3
/-- A text is put behind what is there. -/
theorem y_str {gs : List Nat} {bs' : List UInt8} {b : Bool} (h : YAt w pr g bs' b) (hgs : ∀ q ∈ gs, ∃ cs t, Bk w q cs t ∧ t ≠ 5 ∧ t ≠ 86) (ts : List UInt8) (hl : bs'.length + ts.length ≤ 1000000000) {K : World → Prop} (k : ∀ w2, YAt w2 pr g (bs' ++ ts) b → YFr pr w w2 → K w2) :
    ∀ a c, w.cell? ⟨g, 0, none⟩ = some (.slice a bs'.length c) → appO Try.prog gs w 5 1 1 9 a bs'.length c (.string (strOf ts)) fun m a' c' w6 => stO gs w6 g 0 [.slice a' (bs'.length + m) c'] K := fun a c hc => by
  obtain ⟨a', c', k1, k2, k3⟩ := h.raw
  have e : (some (.slice a bs'.length c) : Option Value) = some (.slice a' bs'.length c') := hc.symm.trans (by rw [k1.cell]; rfl)
  injection e with e
  injection e with e1 e2 e3
  subst e1; subst e3
  exact y_app hgs k1 k2 k3 h.g0 h.up (srcStr ts) rfl hl k
/-- One number more, behind its flag. -/
theorem y_num {bs' : List UInt8} {b : Bool} {z : Int} {i n : Nat} (h : YAt w pr g bs' b) (hl : bs'.length ≤ 1000000) (hi : i < n) (hc : ∀ w', YFr pr w w' → ∃ rb ro, a = some ⟨rb, ro, none⟩ ∧ w'.cell? ⟨rb, ro + i * 1, none⟩ = some (.int .i64 z)) {K : World → Prop} (k : ∀ w2, YAt w2 pr g (bs' ++ ub z) b → YFr pr w w2 → K w2) :
    drewO w fun w_4 => withP (some ⟨g, 0, none⟩) fun g34 o34 => ∃ (a36 : Option Addr) (n36 : Nat) (c36 : Nat), w_4.cell? ⟨g34, o34, none⟩ = some (.slice a36 n36 c36) ∧ withP a fun g39 o39 => (0 : Int) ≤ (i : Int) ∧ (i : Int) < (((n : Nat) : Int) : Int) ∧ ∃ (x40 : Int), w_4.cell? ⟨g39, o39 + (i : Int).toNat * 1, none⟩ = some (.int .i64 x40) ∧
      Calls Try.prog 58 #[.int .i64 x40] w_4 fun e w_5 => KeepG [] w_4 w_5 ∧ ∃ (s41 : ByteArray), e = .returned (.string s41) ∧ w_5.cell? ⟨g34, o34, none⟩ = some (.slice a36 n36 c36) ∧ appO Try.prog [] w_5 5 1 1 9 a36 n36 c36 (.string s41) fun m42 a42 c42 w_6 => withP (some ⟨g, 0, none⟩) fun g43 o43 => stO [] w_6 g43 o43 [.slice a42 (n36 + m42) c42] K := by
  refine drewB (Bs.refl w) fun w4 b4 _ _ => ?_
  have h4 := h.below b4
  obtain ⟨a0, c0, hc0⟩ := h4.c0
  obtain ⟨rb, ro, ha, hcell⟩ := hc w4 (YFr.ofBelow b4)
  have hub := ub_len z
  refine withP_mk g 0 rfl ⟨a0, _, c0, hc0, withP_mk rb ro ha ⟨by omega, by omega, z, by rw [Int.toNat_natCast]; exact hcell, (funt_any z w4).mono ?_⟩⟩
  rintro e w5 ⟨rfl, b5⟩
  have hc5 : w5.cell? ⟨g, 0, none⟩ = some (.slice a0 bs'.length c0) := by rw [cell_keep (b5.block g h4.lt)]; exact hc0
  exact ⟨keepG_nil _ _, _, rfl, hc5, y_str (h4.below b5) (fun q hq => by cases hq) (ub z) (by omega) (fun w6 h6 f6 => k w6 h6 ((YFr.ofBelow (b4.trans (b5.mono b4.size))).trans f6)) a0 c0 hc5⟩
end
set_option maxHeartbeats 800000 in
theorem quint_any {pr : Nat → Prop} {g L : Nat} {w : World} {bs : List UInt8} {P : Prop} {a : Option Addr} {c : Nat} {zs : List Int} (h : DW w pr g bs P L) (hr : ∀ w', YFr pr w w' → RowAt w' a (zs.map iV)) (hl : L ≤ 100000) (hzl : zs.length ≤ 1000) :
    Calls Try.prog 27 #[.pointer (some ⟨g, 0, none⟩), .slice a zs.length c] w (DWd w pr g (bs ++ zs.flatMap uintB) (P ∧ ∀ z ∈ zs, inFar z) (L + 10 * zs.length)) := by
  refine (GWiR.quint_calls (some ⟨g, 0, none⟩) a zs.length c w (fun v w' => v = .tuple #[] ∧ DW w' pr g (bs ++ zs.flatMap uintB) (P ∧ ∀ z ∈ zs, inFar z) (L + 10 * zs.length) ∧ YFr pr w w') ?_).mono (by rintro e w' ⟨v, rfl, rfl, h1, h2⟩; exact ⟨rfl, h1, h2⟩)
  unfold GWiR.quint_vc
  refine ⟨fun y wx => ∃ i : Nat, y = i ∧ i ≤ zs.length ∧ DW wx pr g (bs ++ (zs.take i).flatMap uintB) (P ∧ ∀ z ∈ zs.take i, inFar z) (L + 10 * i) ∧ YFr pr w wx, fun y _ => (zs.length - y).toNat, ⟨0, rfl, Nat.zero_le _, h.to (by simp) (by simp) (by omega), YFr.refl _ _⟩, ?_⟩
  rintro y wx ⟨i, rfl, hi, hX, hF⟩
  refine br_dec (fun h1 => ?_) fun h1 => by
    have e : i = zs.length := by omega
    subst e
    rw [List.take_length] at hX
    exact ⟨rfl, hX, hF⟩
  have hi2 : i < zs.length := by omega
  obtain ⟨bs', bad, k1, k2, k3, k4⟩ := hX.ex
  have hi1 : IntKind.i64.wrap ((i : Int) + 1) = ((i + 1 : Nat) : Int) := by rw [wr64 (by omega) (by omega)]; omega
  rw [hi1]
  have hcell : ∀ w', YFr pr wx w' → ∃ rb ro, a = some ⟨rb, ro, none⟩ ∧ w'.cell? ⟨rb, ro + i * 1, none⟩ = some (.int .i64 zs[i]) := fun w' f => by
    obtain ⟨rb, ro, ha, hc⟩ := (hr w' (hF.trans f)).int hi2
    exact ⟨rb, ro, ha, by rw [Nat.mul_one]; exact hc⟩
  have fin : ∀ (b : Bool), (b = false ↔ ((P ∧ ∀ z ∈ zs.take i, inFar z) ∧ inFar zs[i])) → ∀ w5, YAt w5 pr g (bs' ++ ub zs[i]) b → YFr pr wx w5 →
      (∃ j : Nat, ((i + 1 : Nat) : Int) = j ∧ j ≤ zs.length ∧ DW w5 pr g (bs ++ (zs.take j).flatMap uintB) (P ∧ ∀ z ∈ zs.take j, inFar z) (L + 10 * j) ∧ YFr pr w w5) ∧ ((zs.length : Int) - ((i + 1 : Nat) : Int)).toNat < ((zs.length : Int) - (i : Int)).toNat := fun b hb w5 k5 f5 => by
    have et : zs.take (i + 1) = zs.take i ++ [zs[i]] := by rw [List.take_add_one, List.getElem?_eq_getElem hi2]; rfl
    have hul := ub_len zs[i]
    have hiff : ((P ∧ ∀ z ∈ zs.take i, inFar z) ∧ inFar zs[i]) ↔ (P ∧ ∀ z ∈ zs.take (i + 1), inFar z) := by
      rw [et]
      constructor
      · rintro ⟨⟨q1, q2⟩, q3⟩
        exact ⟨q1, fun o ho => by
          rcases List.mem_append.1 ho with ho | ho
          · exact q2 o ho
          · rw [List.mem_singleton.1 ho]; exact q3⟩
      · rintro ⟨q1, q2⟩
        exact ⟨⟨q1, fun o ho => q2 o (List.mem_append_left _ ho)⟩, q2 zs[i] (List.mem_append_right _ List.mem_cons_self)⟩
    refine ⟨⟨i + 1, rfl, hi2, ⟨_, b, k5, hb.trans hiff, fun q => ?_, by rw [List.length_append]; omega⟩, hF.trans f5⟩, by omega⟩
    have q' := hiff.2 q
    rw [k3 q'.1, ub_eq (far64 q'.2), et]
    simp only [List.flatMap_append, List.flatMap_cons, List.flatMap_nil, List.append_nil, List.append_assoc]
  refine withP_mk g 0 rfl ⟨bad, k1.c1, ?_⟩
  have rowc := hcell wx (YFr.refl _ _)
  obtain ⟨rb, ro, ha, hc⟩ := rowc
  cases bad
  · refine br_f rfl (withP_mk rb ro ha ⟨by omega, by omega, zs[i], by rw [Int.toNat_natCast]; exact hc, br_dec (fun e => ?_) fun e => ?_⟩)
    · exact withP_mk g 0 rfl (y_flag (fun q hq => by cases hq) k1 fun w3 h3 f3 z3 => y_num h3 (by omega) hi2 (fun w' f => hcell w' (f3.trans f)) fun w5 h5 f5 => fin true (by
        constructor
        · intro c; cases c
        · rintro ⟨_, c⟩; have := c.1; omega) w5 h5 (f3.trans f5))
    · refine withP_mk rb ro ha ⟨by omega, by omega, zs[i], by rw [Int.toNat_natCast]; exact hc, withP_mk g 0 rfl (y_flag (fun q hq => by cases hq) k1 fun w3 h3 f3 z3 => y_num h3 (by omega) hi2 (fun w' f => hcell w' (f3.trans f)) fun w5 h5 f5 => fin _ ?_ w5 h5 (f3.trans f5))⟩
      constructor
      · intro c
        have := of_decide_eq_false c
        exact ⟨k2.1 rfl, by omega, by unfold wfar; omega⟩
      · rintro ⟨_, c⟩
        have := c.2
        unfold wfar at this
        exact decide_eq_false (by omega)
  · exact br_t rfl (withP_mk g 0 rfl (y_flag (fun q hq => by cases hq) k1 fun w3 h3 f3 z3 => y_num h3 (by omega) hi2 (fun w' f => hcell w' (f3.trans f)) fun w5 h5 f5 => fin true (by
      constructor
      · intro c; cases c
      · rintro ⟨c, _⟩; have := k2.2 c; cases this) w5 h5 (f3.trans f5)))
end Go.Proofs.Ytkggnbabnfhcpaa
end
section
/- The document's bytes of a request; walked. -/
namespace Go.Proofs.Ytkggnbabnfhcpaa
open Go.RowKit
section
variable {pr : Nat → Prop} {g x L : Nat} {w w1 : World} {bs : List UInt8} {P : Prop} {a : Option Addr}
theorem y_int {bs' : List UInt8} {b : Bool} {z : Int} (h : YAt w pr g bs' b) (hl : bs'.length ≤ 1000000) {K : World → Prop} (k : ∀ w2, YAt w2 pr g (bs' ++ ib2 z) b → YFr pr w w2 → K w2) :
    drewO w fun w_3 => withP (some ⟨g, 0, none⟩) fun g21 o21 => ∃ (a23 : Option Addr) (n23 : Nat) (c23 : Nat), w_3.cell? ⟨g21, o21, none⟩ = some (.slice a23 n23 c23) ∧
      Calls Try.prog 59 #[.int .i64 z] w_3 fun e w_4 => KeepG [] w_3 w_4 ∧ ∃ (s25 : ByteArray), e = .returned (.string s25) ∧ w_4.cell? ⟨g21, o21, none⟩ = some (.slice a23 n23 c23) ∧ appO Try.prog [] w_4 5 1 1 9 a23 n23 c23 (.string s25) fun m26 a26 c26 w_5 => withP (some ⟨g, 0, none⟩) fun g27 o27 => stO [] w_5 g27 o27 [.slice a26 (n23 + m26) c26] K := by
  refine drewB (Bs.refl w) fun w4 b4 _ _ => ?_
  have h4 := h.below b4
  obtain ⟨a0, c0, hc0⟩ := h4.c0
  have hub := ib2_len z
  refine withP_mk g 0 rfl ⟨a0, _, c0, hc0, (fintt_any z w4).mono ?_⟩
  rintro e w5 ⟨rfl, b5⟩
  have hc5 : w5.cell? ⟨g, 0, none⟩ = some (.slice a0 bs'.length c0) := by rw [cell_keep (b5.block g h4.lt)]; exact hc0
  exact ⟨keepG_nil _ _, _, rfl, hc5, y_str (h4.below b5) (fun q hq => by cases hq) (ib2 z) (by omega) (fun w6 h6 f6 => k w6 h6 ((YFr.ofBelow (b4.trans (b5.mono b4.size))).trans f6)) a0 c0 hc5⟩
end
theorem qlim_any {pr : Nat → Prop} {g L : Nat} {w : World} {bs : List UInt8} {P : Prop} {z : Int} (h : DW w pr g bs P L) (hl : L ≤ 100000) :
    Calls Try.prog 29 #[.pointer (some ⟨g, 0, none⟩), .int .i64 z] w (DWd w pr g (bs ++ intB z) (P ∧ limOk z) (L + 10)) := by
  refine (GWiR.qlim_calls (some ⟨g, 0, none⟩) z w (fun v w' => v = .tuple #[] ∧ DW w' pr g (bs ++ intB z) (P ∧ limOk z) (L + 10) ∧ YFr pr w w') ?_).mono (by rintro e w' ⟨v, rfl, rfl, h1, h2⟩; exact ⟨rfl, h1, h2⟩)
  unfold GWiR.qlim_vc
  obtain ⟨bs', bad, k1, k2, k3, k4⟩ := h.ex
  have hib := ib2_len z
  have fin : ∀ (b : Bool), (b = false ↔ (P ∧ limOk z)) → ∀ w5, YAt w5 pr g (bs' ++ ib2 z) b → YFr pr w w5 → (fun (v : Value) w' => v = .tuple #[] ∧ DW w' pr g (bs ++ intB z) (P ∧ limOk z) (L + 10) ∧ YFr pr w w') (.tuple #[]) w5 := fun b hb w5 k5 f5 =>
    ⟨rfl, ⟨_, b, k5, hb, fun q => by rw [k3 q.1, ib2_eq (by have := q.2.1; omega) (Int.le_trans q.2.2 (by decide))], by rw [List.length_append]; omega⟩, f5⟩
  refine withP_mk g 0 rfl ⟨bad, k1.c1, ?_⟩
  cases bad
  · refine br_f rfl (br_dec (fun e => ?_) fun e => ?_)
    · exact withP_mk g 0 rfl (y_flag (fun q hq => by cases hq) k1 fun w3 h3 f3 z3 => y_int h3 (by omega) fun w5 h5 f5 => fin true (by
        constructor
        · intro c; cases c
        · rintro ⟨_, c⟩; have := c.1; omega) w5 h5 (f3.trans f5))
    · refine withP_mk g 0 rfl (y_flag (fun q hq => by cases hq) k1 fun w3 h3 f3 z3 => y_int h3 (by omega) fun w5 h5 f5 => fin _ ?_ w5 h5 (f3.trans f5))
      constructor
      · intro c
        have := of_decide_eq_false c
        exact ⟨k2.1 rfl, by omega, by unfold wfar; omega⟩
      · rintro ⟨_, c⟩
        have := c.2
        unfold wfar at this
        exact decide_eq_false (by omega)
  · exact br_t rfl (withP_mk g 0 rfl (y_flag (fun q hq => by cases hq) k1 fun w3 h3 f3 z3 => y_int h3 (by omega) fun w5 h5 f5 => fin true (by
      constructor
      · intro c; cases c
      · rintro ⟨c, _⟩; have := k2.2 c; cases this) w5 h5 (f3.trans f5)))
/-- A few numbers, from a row that is made for them. -/
theorem q_lit {pr : Nat → Prop} {g L : Nat} {w : World} {bs : List UInt8} {P : Prop} {gs : List Nat} {zs : List Int} (h : DW w pr g bs P L) (hgs : ∀ q ∈ gs, ∃ cs t, Bk w q cs t ∧ t ≠ 5 ∧ t ≠ 86) (hl : L ≤ 10000) (hz : zs.length ≤ 100) {R : Ending → World → Prop}
    (k : ∀ w', DW w' pr g (bs ++ zs.flatMap uintB) (P ∧ ∀ z ∈ zs, inFar z) (L + 10 * zs.length) → YFr pr w w' → R (.returned (.tuple #[])) w') :
    newO w (.cells (zs.map iV).toArray 3) fun q w3 => Calls Try.prog 27 #[.pointer (some ⟨g, 0, none⟩), .slice (some ⟨q, 0, none⟩) zs.length zs.length] w3 fun e w4 => KeepG gs w3 w4 ∧ R e w4 := by
  refine newB (Bs.refl w) fun q w3 q0 sq n3 z3 b3 B3 => (quint_any (c := zs.length) (zs := zs) (h.below b3) (fun w' f => ?_) (by omega) (by omega)).mono ?_
  · have hb : Bk w3 q (zs.map iV).toArray 3 := n3
    exact RowAt.ofWhole (hb.yfr f (by decide) (by decide))
  · rintro e w4 ⟨rfl, h4, f4⟩
    exact ⟨keepG_yfr f4 fun q' hq' => by obtain ⟨cs, t, k1, k2, k3⟩ := hgs q' hq'; exact ⟨cs, t, Bk.below k1 b3, k2, k3⟩, k w4 h4 ((YFr.ofBelow b3).trans f4)⟩
section
variable {pr : Nat → Prop} {g L : Nat} {w0 w : World} {bs : List UInt8} {P : Prop} {a : Option Addr} {c : Nat} {xs : List It} {k : Int}
/-- An item's numbers. -/
theorem qitem_step {wx : World} {i : Nat} {I : Int → World → Prop} {μ : Int → World → Nat} (hk : k = 1 ∨ k = 2 ∨ k = 3) (hX : DW wx pr g bs P L) (hl : L ≤ 5000) (hi : i < xs.length) (hil : xs.length ≤ 100) (hr : ∀ w', YFr pr wx w' → ItsAt 0 w' a xs)
    (hI : ∀ w', DW w' pr g (bs ++ (pIt k).enc xs[i]) (P ∧ (pIt k).ok (itOnly k xs[i])) (L + 30) → YFr pr wx w' → I ((i + 1 : Nat) : Int) w' ∧ μ ((i + 1 : Nat) : Int) w' < μ (i : Int) wx) :
    withP a fun g33 o33 => (0 : Int) ≤ (i : Int) ∧ (i : Int) < (((xs.length : Nat) : Int) : Int) ∧ (0 : Int) ≤ 0 ∧ 0 < ((3 : Nat) : Int) ∧ ∃ (x35 : Int), wx.cell? ⟨g33, o33 + (i : Int).toNat * 3 + (0 : Int).toNat * 1, none⟩ = some (.int .i64 x35) ∧
      newO wx (.cells #[.int .i64 x35] 3) fun g_2 w_6 => Calls Try.prog 27 #[.pointer (some ⟨g, 0, none⟩), .slice (some ⟨g_2, 0, none⟩) 1 1] w_6 fun e_2 w_7 => KeepG [] w_6 w_7 ∧ e_2 = .returned (.tuple #[]) ∧
        br (decide (k > 1))
          (withP a fun g43 o43 => (0 : Int) ≤ (i : Int) ∧ (i : Int) < (((xs.length : Nat) : Int) : Int) ∧ (0 : Int) ≤ 1 ∧ 1 < ((3 : Nat) : Int) ∧ ∃ (x45 : Int), w_7.cell? ⟨g43, o43 + (i : Int).toNat * 3 + (1 : Int).toNat * 1, none⟩ = some (.int .i64 x45) ∧
            newO w_7 (.cells #[.int .i64 x45] 3) fun g_3 w_8 => Calls Try.prog 27 #[.pointer (some ⟨g, 0, none⟩), .slice (some ⟨g_3, 0, none⟩) 1 1] w_8 fun e_3 w_9 => KeepG [] w_8 w_9 ∧ e_3 = .returned (.tuple #[]) ∧ GWiR.qitems_k1 I μ (some ⟨g, 0, none⟩) k a xs.length (i : Int) wx w_9)
          (GWiR.qitems_k1 I μ (some ⟨g, 0, none⟩) k a xs.length (i : Int) wx w_7) := by
  have hcell : ∀ w', YFr pr wx w' → ∃ b off, a = some ⟨b, off, none⟩ ∧ w'.cell? ⟨b, off + i * 3 + 0, none⟩ = some (.int .i64 xs[i].g) ∧ w'.cell? ⟨b, off + i * 3 + 1, none⟩ = some (.int .i64 xs[i].u) ∧ w'.cell? ⟨b, off + i * 3 + 2, none⟩ = some (.int .i64 xs[i].w) := fun w' f => by
    obtain ⟨b, off, ha, hc⟩ := (hr w' f).get hi
    exact ⟨b, off, ha, cellsAt_get hc 0 _ rfl, cellsAt_get hc 1 _ rfl, cellsAt_get hc 2 _ rfl⟩
  have hi1 : IntKind.i64.wrap ((i : Int) + 1) = ((i + 1 : Nat) : Int) := by rw [wr64 (by omega) (by omega)]; omega
  -- what is behind the second number
  have tail : ∀ (w7 : World) (bs7 : List UInt8) (P7 : Prop) (L7 : Nat), DW w7 pr g bs7 P7 L7 → L7 ≤ L + 20 → YFr pr wx w7 → (k < 3 → bs7 ++ uintB xs[i].w = bs ++ (pIt k).enc xs[i] ∧ ((P7 ∧ inFar xs[i].w) ↔ (P ∧ (pIt k).ok (itOnly k xs[i])))) → (¬ k < 3 → bs7 = bs ++ (pIt k).enc xs[i] ∧ (P7 ↔ (P ∧ (pIt k).ok (itOnly k xs[i])))) → GWiR.qitems_k1 I μ (some ⟨g, 0, none⟩) k a xs.length (i : Int) wx w7 := fun w7 bs7 P7 L7 h7 hL7 f7 q1 q2 => by
    unfold GWiR.qitems_k1
    rw [hi1]
    refine br_dec (fun e => ?_) fun e => ?_
    · obtain ⟨b, off, ha, c0, c1, c2⟩ := hcell w7 f7
      refine withP_mk b off ha ⟨by omega, by omega, by omega, by omega, xs[i].w, by rw [Int.toNat_natCast]; exact c2, ?_⟩
      refine q_lit (zs := [xs[i].w]) h7 (fun q hq => by cases hq) (by omega) (by simp) fun w9 h9 f9 => ⟨rfl, hI w9 (h9.to (by rw [← (q1 e).1]; simp) (by rw [← (q1 e).2]; simp) (by simp; omega)) (f7.trans f9)⟩
    · exact hI w7 (h7.to (q2 e).1 (q2 e).2 (by omega)) f7
  obtain ⟨b, off, ha, c0, c1, c2⟩ := hcell wx (YFr.refl _ _)
  refine withP_mk b off ha ⟨by omega, by omega, by omega, by omega, xs[i].g, by rw [Int.toNat_natCast]; exact c0, ?_⟩
  refine q_lit (zs := [xs[i].g]) hX (fun q hq => by cases hq) (by omega) (by simp) fun w7 h7 f7 => ⟨rfl, ?_⟩
  refine br_dec (fun e => ?_) fun e => ?_
  · obtain ⟨b, off, ha, c0, c1, c2⟩ := hcell w7 f7
    refine withP_mk b off ha ⟨by omega, by omega, by omega, by omega, xs[i].u, by rw [Int.toNat_natCast]; exact c1, ?_⟩
    refine q_lit (zs := [xs[i].u]) h7 (fun q hq => by cases hq) (by simp; omega) (by simp) fun w9 h9 f9 => ⟨rfl, tail w9 _ _ _ h9 (by simp) (f7.trans f9) (fun e3 => ?_) fun e3 => ?_⟩
    · have : k = 2 := by omega
      subst this
      refine ⟨by simp [pIt, pI2], ?_⟩
      simp [pIt, pI2, itOnly, and_assoc]
    · have : k = 3 := by omega
      subst this
      refine ⟨by simp [pIt, pI3], ?_⟩
      simp [pIt, pI3, itOnly, and_assoc]
  · have : k = 1 := by omega
    subst this
    refine tail w7 _ _ _ h7 (by simp) f7 (fun e3 => ?_) fun e3 => absurd (by decide) e3
    refine ⟨by simp [pIt, pI1], ?_⟩
    simp [pIt, pI1, itOnly, and_assoc]
theorem qitems_any (hk : k = 1 ∨ k = 2 ∨ k = 3) (h : DW w pr g bs P L) (hl : L ≤ 1000) (hil : xs.length ≤ 100) (hr : ∀ w', YFr pr w w' → ItsAt 0 w' a xs) :
    Calls Try.prog 28 #[.pointer (some ⟨g, 0, none⟩), .int .i64 k, .slice a xs.length c] w (DWd w pr g (bs ++ (pItems k).enc xs) (P ∧ (pItems k).ok (xs.map (itOnly k))) (L + 4000)) := by
  refine (GWiR.qitems_calls (some ⟨g, 0, none⟩) k a xs.length c w (fun v w' => v = .tuple #[] ∧ DW w' pr g (bs ++ (pItems k).enc xs) (P ∧ (pItems k).ok (xs.map (itOnly k))) (L + 4000) ∧ YFr pr w w') ?_).mono (by rintro e w' ⟨v, rfl, rfl, h1, h2⟩; exact ⟨rfl, h1, h2⟩)
  unfold GWiR.qitems_vc
  have hK : ∀ w', DW w' pr g (bs ++ (pItems k).enc xs) (P ∧ (pItems k).ok (xs.map (itOnly k))) (L + 4000) → YFr pr w w' → (fun (v : Value) w' => v = .tuple #[] ∧ DW w' pr g (bs ++ (pItems k).enc xs) (P ∧ (pItems k).ok (xs.map (itOnly k))) (L + 4000) ∧ YFr pr w w') (.tuple #[]) w' := fun w' h1 h2 => ⟨rfl, h1, h2⟩
  generalize (fun (v : Value) w' => v = .tuple #[] ∧ DW w' pr g (bs ++ (pItems k).enc xs) (P ∧ (pItems k).ok (xs.map (itOnly k))) (L + 4000) ∧ YFr pr w w') = K at hK ⊢
  -- behind the flag
  have go : ∀ w3 (Q : Prop), (Q ↔ (P ∧ (xs.length : Int) ≤ 4)) → DW w3 pr g bs Q L → YFr pr w w3 → newO w3 (.cells #[.int .i64 ((xs.length : Nat) : Int)] 3) fun g_5 w_15 => Calls Try.prog 27 #[.pointer (some ⟨g, 0, none⟩), .slice (some ⟨g_5, 0, none⟩) 1 1] w_15 fun e_5 w_16 => KeepG [] w_15 w_16 ∧ e_5 = .returned (.tuple #[]) ∧
      ∃ (I : Int → World → Prop) (μ : Int → World → Nat), I 0 w_16 ∧ ∀ (x6 : Int) (w_5 : World), I x6 w_5 → br (decide (x6 < ((xs.length : Nat) : Int)))
        (withP a fun g33 o33 => (0 : Int) ≤ x6 ∧ x6 < (((xs.length : Nat) : Int) : Int) ∧ (0 : Int) ≤ 0 ∧ 0 < ((3 : Nat) : Int) ∧ ∃ (x35 : Int), w_5.cell? ⟨g33, o33 + x6.toNat * 3 + (0 : Int).toNat * 1, none⟩ = some (.int .i64 x35) ∧
          newO w_5 (.cells #[.int .i64 x35] 3) fun g_2 w_6 => Calls Try.prog 27 #[.pointer (some ⟨g, 0, none⟩), .slice (some ⟨g_2, 0, none⟩) 1 1] w_6 fun e_2 w_7 => KeepG [] w_6 w_7 ∧ e_2 = .returned (.tuple #[]) ∧
            br (decide (k > 1))
              (withP a fun g43 o43 => (0 : Int) ≤ x6 ∧ x6 < (((xs.length : Nat) : Int) : Int) ∧ (0 : Int) ≤ 1 ∧ 1 < ((3 : Nat) : Int) ∧ ∃ (x45 : Int), w_7.cell? ⟨g43, o43 + x6.toNat * 3 + (1 : Int).toNat * 1, none⟩ = some (.int .i64 x45) ∧
                newO w_7 (.cells #[.int .i64 x45] 3) fun g_3 w_8 => Calls Try.prog 27 #[.pointer (some ⟨g, 0, none⟩), .slice (some ⟨g_3, 0, none⟩) 1 1] w_8 fun e_3 w_9 => KeepG [] w_8 w_9 ∧ e_3 = .returned (.tuple #[]) ∧ GWiR.qitems_k1 I μ (some ⟨g, 0, none⟩) k a xs.length x6 w_5 w_9)
              (GWiR.qitems_k1 I μ (some ⟨g, 0, none⟩) k a xs.length x6 w_5 w_7))
        (K (.tuple #[]) w_5) := fun w3 Q hQ h3 f3 => by
    refine q_lit (zs := [(xs.length : Int)]) h3 (fun q hq => by cases hq) (by omega) (by simp) fun w4 h4 f4 => ⟨rfl, ?_⟩
    refine ⟨fun y wx => ∃ i : Nat, y = i ∧ i ≤ xs.length ∧ DW wx pr g (bs ++ (uintB xs.length ++ (xs.take i).flatMap (pIt k).enc)) (P ∧ (xs.length : Int) ≤ 4 ∧ ∀ z ∈ xs.take i, (pIt k).ok (itOnly k z)) (L + 10 + 30 * i) ∧ YFr pr w wx, fun y _ => (xs.length - y).toNat,
      ⟨0, rfl, Nat.zero_le _, h4.to (by simp) (by
        rw [hQ]
        simp only [List.mem_singleton, forall_eq, List.take_zero]
        constructor
        · rintro ⟨⟨q1, q2⟩, _⟩; exact ⟨q1, q2, fun z hz => by cases hz⟩
        · rintro ⟨q1, q2, _⟩; exact ⟨⟨q1, q2⟩, by unfold inFar wfar; omega⟩) (by simp), f3.trans f4⟩, ?_⟩
    rintro y wx ⟨i, rfl, hi, hX, hF⟩
    refine br_dec (fun h1 => ?_) fun h1 => by
      have e : i = xs.length := by omega
      subst e
      rw [List.take_length] at hX
      refine hK wx (hX.to rfl ?_ (by omega)) hF
      show _ ↔ P ∧ ((xs.map (itOnly k)).length : Int) ≤ 4 ∧ ∀ z ∈ xs.map (itOnly k), (pIt k).ok z
      rw [List.length_map]
      simp
    have hi2 : i < xs.length := by omega
    refine qitem_step hk hX (by omega) hi2 hil (fun w' f => hr w' (hF.trans f)) fun w9 h9 f9 => ?_
    have et : xs.take (i + 1) = xs.take i ++ [xs[i]] := by rw [List.take_add_one, List.getElem?_eq_getElem hi2]; rfl
    refine ⟨⟨i + 1, rfl, hi2, h9.to (by rw [et]; simp only [List.flatMap_append, List.flatMap_cons, List.flatMap_nil, List.append_nil, List.append_assoc]) ?_ (by omega), hF.trans f9⟩, by omega⟩
    rw [et]
    constructor
    · rintro ⟨⟨q1, q2, q3⟩, q4⟩
      exact ⟨q1, q2, fun z hz => by
        rcases List.mem_append.1 hz with hz | hz
        · exact q3 z hz
        · rw [List.mem_singleton.1 hz]; exact q4⟩
    · rintro ⟨q1, q2, q3⟩
      exact ⟨⟨q1, q2, fun z hz => q3 z (List.mem_append_left _ hz)⟩, q3 xs[i] (List.mem_append_right _ List.mem_cons_self)⟩
  obtain ⟨bs', bad, k1, k2, k3, k4⟩ := h.ex
  refine withP_mk g 0 rfl ⟨bad, k1.c1, ?_⟩
  cases bad
  · refine br_f rfl (withP_mk g 0 rfl (y_flag (fun q hq => by cases hq) k1 fun w3 h3 f3 z3 => go w3 (P ∧ (xs.length : Int) ≤ 4) Iff.rfl ⟨bs', _, h3, ?_, fun q => k3 q.1, k4⟩ f3))
    constructor
    · intro c
      have := of_decide_eq_false c
      exact ⟨k2.1 rfl, by omega⟩
    · rintro ⟨_, c⟩
      exact decide_eq_false (by omega)
  · refine br_t rfl (withP_mk g 0 rfl (y_flag (fun q hq => by cases hq) k1 fun w3 h3 f3 z3 => go w3 (P ∧ (xs.length : Int) ≤ 4) Iff.rfl ⟨bs', _, h3, ?_, fun q => k3 q.1, k4⟩ f3))
    constructor
    · intro c; cases c
    · rintro ⟨c, _⟩; have := k2.2 c; cases this
end
end Go.Proofs.Ytkggnbabnfhcpaa
end
