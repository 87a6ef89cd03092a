import Derived.Test.YtjcabccolkmlmaaProg
import Derived.Test.YtjcabccolkmlmaaMTree2
import Derived.Test.YtjcabccolkmlmaaMTree1
import Derived.ProofKit
import Derived.Deep.Matrix
import Derived.Deep.Slices
import Derived.OpenShut
set_option linter.unusedVariables false
section
/- Conditions of functions, printed by a program of this claim's own (vcgen.py) out of the loaded code; each is proved to be enough. -/
set_option maxRecDepth 100000
namespace Go.Proofs.Ytjcabccolkmlmaa
open Go.RowKit
namespace GTreeR
def env : Env := ⟨[(3, ⟨.int .i64, 1, .int .i64 0, 8, [.int .i64]⟩), (4, ⟨.bool, 1, .bool false, 1, [.bool]⟩), (23, ⟨.slice 3, 1, .slice none 0 0, 24, [.slice]⟩), (43, ⟨.int .u64, 1, .int .u64 0, 8, [.int .u64]⟩), (88, ⟨.struct [(0, 3), (1, 3), (2, 3), (3, 3), (4, 4)], 5, .agg #[.int .i64 0, .int .i64 0, .int .i64 0, .int .i64 0, .bool false], 40, [.int .i64, .int .i64, .int .i64, .int .i64, .bool]⟩), (92, ⟨.slice 102, 1, .slice none 0 0, 24, [.slice]⟩), (97, ⟨.struct [(0, 3), (1, 3), (2, 3), (3, 4)], 4, .agg #[.int .i64 0, .int .i64 0, .int .i64 0, .bool false], 32, [.int .i64, .int .i64, .int .i64, .bool]⟩), (98, ⟨.arr 32 97, 128, .agg #[.int .i64 0, .int .i64 0, .int .i64 0, .bool false, .int .i64 0, .int .i64 0, .int .i64 0, .bool false, .int .i64 0, .int .i64 0, .int .i64 0, .bool false, .int .i64 0, .int .i64 0, .int .i64 0, .bool false, .int .i64 0, .int .i64 0, .int .i64 0, .bool false, .int .i64 0, .int .i64 0, .int .i64 0, .bool false, .int .i64 0, .int .i64 0, .int .i64 0, .bool false, .int .i64 0, .int .i64 0, .int .i64 0, .bool false, .int .i64 0, .int .i64 0, .int .i64 0, .bool false, .int .i64 0, .int .i64 0, .int .i64 0, .bool false, .int .i64 0, .int .i64 0, .int .i64 0, .bool false, .int .i64 0, .int .i64 0, .int .i64 0, .bool false, .int .i64 0, .int .i64 0, .int .i64 0, .bool false, .int .i64 0, .int .i64 0, .int .i64 0, .bool false, .int .i64 0, .int .i64 0, .int .i64 0, .bool false, .int .i64 0, .int .i64 0, .int .i64 0, .bool false, .int .i64 0, .int .i64 0, .int .i64 0, .bool false, .int .i64 0, .int .i64 0, .int .i64 0, .bool false, .int .i64 0, .int .i64 0, .int .i64 0, .bool false, .int .i64 0, .int .i64 0, .int .i64 0, .bool false, .int .i64 0, .int .i64 0, .int .i64 0, .bool false, .int .i64 0, .int .i64 0, .int .i64 0, .bool false, .int .i64 0, .int .i64 0, .int .i64 0, .bool false, .int .i64 0, .int .i64 0, .int .i64 0, .bool false, .int .i64 0, .int .i64 0, .int .i64 0, .bool false, .int .i64 0, .int .i64 0, .int .i64 0, .bool false, .int .i64 0, .int .i64 0, .int .i64 0, .bool false, .int .i64 0, .int .i64 0, .int .i64 0, .bool false, .int .i64 0, .int .i64 0, .int .i64 0, .bool false, .int .i64 0, .int .i64 0, .int .i64 0, .bool false, .int .i64 0, .int .i64 0, .int .i64 0, .bool false, .int .i64 0, .int .i64 0, .int .i64 0, .bool false], 1024, [.int .i64, .int .i64, .int .i64, .bool, .int .i64, .int .i64, .int .i64, .bool, .int .i64, .int .i64, .int .i64, .bool, .int .i64, .int .i64, .int .i64, .bool, .int .i64, .int .i64, .int .i64, .bool, .int .i64, .int .i64, .int .i64, .bool, .int .i64, .int .i64, .int .i64, .bool, .int .i64, .int .i64, .int .i64, .bool, .int .i64, .int .i64, .int .i64, .bool, .int .i64, .int .i64, .int .i64, .bool, .int .i64, .int .i64, .int .i64, .bool, .int .i64, .int .i64, .int .i64, .bool, .int .i64, .int .i64, .int .i64, .bool, .int .i64, .int .i64, .int .i64, .bool, .int .i64, .int .i64, .int .i64, .bool, .int .i64, .int .i64, .int .i64, .bool, .int .i64, .int .i64, .int .i64, .bool, .int .i64, .int .i64, .int .i64, .bool, .int .i64, .int .i64, .int .i64, .bool, .int .i64, .int .i64, .int .i64, .bool, .int .i64, .int .i64, .int .i64, .bool, .int .i64, .int .i64, .int .i64, .bool, .int .i64, .int .i64, .int .i64, .bool, .int .i64, .int .i64, .int .i64, .bool, .int .i64, .int .i64, .int .i64, .bool, .int .i64, .int .i64, .int .i64, .bool, .int .i64, .int .i64, .int .i64, .bool, .int .i64, .int .i64, .int .i64, .bool, .int .i64, .int .i64, .int .i64, .bool, .int .i64, .int .i64, .int .i64, .bool, .int .i64, .int .i64, .int .i64, .bool, .int .i64, .int .i64, .int .i64, .bool]⟩), (100, ⟨.struct [(0, 98)], 128, .agg #[.int .i64 0, .int .i64 0, .int .i64 0, .bool false, .int .i64 0, .int .i64 0, .int .i64 0, .bool false, .int .i64 0, .int .i64 0, .int .i64 0, .bool false, .int .i64 0, .int .i64 0, .int .i64 0, .bool false, .int .i64 0, .int .i64 0, .int .i64 0, .bool false, .int .i64 0, .int .i64 0, .int .i64 0, .bool false, .int .i64 0, .int .i64 0, .int .i64 0, .bool false, .int .i64 0, .int .i64 0, .int .i64 0, .bool false, .int .i64 0, .int .i64 0, .int .i64 0, .bool false, .int .i64 0, .int .i64 0, .int .i64 0, .bool false, .int .i64 0, .int .i64 0, .int .i64 0, .bool false, .int .i64 0, .int .i64 0, .int .i64 0, .bool false, .int .i64 0, .int .i64 0, .int .i64 0, .bool false, .int .i64 0, .int .i64 0, .int .i64 0, .bool false, .int .i64 0, .int .i64 0, .int .i64 0, .bool false, .int .i64 0, .int .i64 0, .int .i64 0, .bool false, .int .i64 0, .int .i64 0, .int .i64 0, .bool false, .int .i64 0, .int .i64 0, .int .i64 0, .bool false, .int .i64 0, .int .i64 0, .int .i64 0, .bool false, .int .i64 0, .int .i64 0, .int .i64 0, .bool false, .int .i64 0, .int .i64 0, .int .i64 0, .bool false, .int .i64 0, .int .i64 0, .int .i64 0, .bool false, .int .i64 0, .int .i64 0, .int .i64 0, .bool false, .int .i64 0, .int .i64 0, .int .i64 0, .bool false, .int .i64 0, .int .i64 0, .int .i64 0, .bool false, .int .i64 0, .int .i64 0, .int .i64 0, .bool false, .int .i64 0, .int .i64 0, .int .i64 0, .bool false, .int .i64 0, .int .i64 0, .int .i64 0, .bool false, .int .i64 0, .int .i64 0, .int .i64 0, .bool false, .int .i64 0, .int .i64 0, .int .i64 0, .bool false, .int .i64 0, .int .i64 0, .int .i64 0, .bool false, .int .i64 0, .int .i64 0, .int .i64 0, .bool false], 1024, [.int .i64, .int .i64, .int .i64, .bool, .int .i64, .int .i64, .int .i64, .bool, .int .i64, .int .i64, .int .i64, .bool, .int .i64, .int .i64, .int .i64, .bool, .int .i64, .int .i64, .int .i64, .bool, .int .i64, .int .i64, .int .i64, .bool, .int .i64, .int .i64, .int .i64, .bool, .int .i64, .int .i64, .int .i64, .bool, .int .i64, .int .i64, .int .i64, .bool, .int .i64, .int .i64, .int .i64, .bool, .int .i64, .int .i64, .int .i64, .bool, .int .i64, .int .i64, .int .i64, .bool, .int .i64, .int .i64, .int .i64, .bool, .int .i64, .int .i64, .int .i64, .bool, .int .i64, .int .i64, .int .i64, .bool, .int .i64, .int .i64, .int .i64, .bool, .int .i64, .int .i64, .int .i64, .bool, .int .i64, .int .i64, .int .i64, .bool, .int .i64, .int .i64, .int .i64, .bool, .int .i64, .int .i64, .int .i64, .bool, .int .i64, .int .i64, .int .i64, .bool, .int .i64, .int .i64, .int .i64, .bool, .int .i64, .int .i64, .int .i64, .bool, .int .i64, .int .i64, .int .i64, .bool, .int .i64, .int .i64, .int .i64, .bool, .int .i64, .int .i64, .int .i64, .bool, .int .i64, .int .i64, .int .i64, .bool, .int .i64, .int .i64, .int .i64, .bool, .int .i64, .int .i64, .int .i64, .bool, .int .i64, .int .i64, .int .i64, .bool, .int .i64, .int .i64, .int .i64, .bool, .int .i64, .int .i64, .int .i64, .bool]⟩), (102, ⟨.struct [(0, 3), (1, 3), (2, 3), (3, 3), (4, 3)], 5, .agg #[.int .i64 0, .int .i64 0, .int .i64 0, .int .i64 0, .int .i64 0], 40, [.int .i64, .int .i64, .int .i64, .int .i64, .int .i64]⟩)], [(39, [.lf (.bool)]), (43, [.lf (.ptr)]), (44, [.lf (.bool)]), (45, [.lf (.int .i64)]), (46, [.lf (.int .i64)]), (47, [.lf (.int .i64)]), (48, [.lf (.slice)]), (49, [.agg [.int .i64, .int .i64, .int .i64, .int .i64, .bool], .lf (.int .i64)]), (50, [.lf (.int .i64)]), (51, [.lf (.ptr)]), (52, [.lf (.slice), .lf (.int .i64)]), (53, [.lf (.slice), .lf (.int .i64)]), (54, [.lf (.int .i64)]), (55, [.lf (.bool)]), (56, [.lf (.bool)]), (57, [.lf (.slice)]), (58, [.lf (.slice)]), (97, [.lf (.int .i64)]), (98, [.lf (.int .i64)]), (99, [.lf (.int .i64)]), (100, [.lf (.int .i64)]), (119, [.lf (.bool)]), (120, [.lf (.int .i64)])], [88]⟩
theorem ty3 : TyOk Try.prog 3 ⟨.int .i64, 1, .int .i64 0, 8, [.int .i64]⟩ := tyok (by kernel_rfl) (by kernel_rfl)
theorem ty4 : TyOk Try.prog 4 ⟨.bool, 1, .bool false, 1, [.bool]⟩ := tyok (by kernel_rfl) (by kernel_rfl)
theorem ty23 : TyOk Try.prog 23 ⟨.slice 3, 1, .slice none 0 0, 24, [.slice]⟩ := tyok (by kernel_rfl) (by kernel_rfl)
theorem ty43 : TyOk Try.prog 43 ⟨.int .u64, 1, .int .u64 0, 8, [.int .u64]⟩ := tyok (by kernel_rfl) (by kernel_rfl)
theorem ty88 : TyOk Try.prog 88 ⟨.struct [(0, 3), (1, 3), (2, 3), (3, 3), (4, 4)], 5, .agg #[.int .i64 0, .int .i64 0, .int .i64 0, .int .i64 0, .bool false], 40, [.int .i64, .int .i64, .int .i64, .int .i64, .bool]⟩ := tyok (by kernel_rfl) (by kernel_rfl)
theorem ty92 : TyOk Try.prog 92 ⟨.slice 102, 1, .slice none 0 0, 24, [.slice]⟩ := tyok (by kernel_rfl) (by kernel_rfl)
theorem ty97 : TyOk Try.prog 97 ⟨.struct [(0, 3), (1, 3), (2, 3), (3, 4)], 4, .agg #[.int .i64 0, .int .i64 0, .int .i64 0, .bool false], 32, [.int .i64, .int .i64, .int .i64, .bool]⟩ := tyok (by kernel_rfl) (by kernel_rfl)
theorem ty98 : TyOk Try.prog 98 ⟨.arr 32 97, 128, .agg #[.int .i64 0, .int .i64 0, .int .i64 0, .bool false, .int .i64 0, .int .i64 0, .int .i64 0, .bool false, .int .i64 0, .int .i64 0, .int .i64 0, .bool false, .int .i64 0, .int .i64 0, .int .i64 0, .bool false, .int .i64 0, .int .i64 0, .int .i64 0, .bool false, .int .i64 0, .int .i64 0, .int .i64 0, .bool false, .int .i64 0, .int .i64 0, .int .i64 0, .bool false, .int .i64 0, .int .i64 0, .int .i64 0, .bool false, .int .i64 0, .int .i64 0, .int .i64 0, .bool false, .int .i64 0, .int .i64 0, .int .i64 0, .bool false, .int .i64 0, .int .i64 0, .int .i64 0, .bool false, .int .i64 0, .int .i64 0, .int .i64 0, .bool false, .int .i64 0, .int .i64 0, .int .i64 0, .bool false, .int .i64 0, .int .i64 0, .int .i64 0, .bool false, .int .i64 0, .int .i64 0, .int .i64 0, .bool false, .int .i64 0, .int .i64 0, .int .i64 0, .bool false, .int .i64 0, .int .i64 0, .int .i64 0, .bool false, .int .i64 0, .int .i64 0, .int .i64 0, .bool false, .int .i64 0, .int .i64 0, .int .i64 0, .bool false, .int .i64 0, .int .i64 0, .int .i64 0, .bool false, .int .i64 0, .int .i64 0, .int .i64 0, .bool false, .int .i64 0, .int .i64 0, .int .i64 0, .bool false, .int .i64 0, .int .i64 0, .int .i64 0, .bool false, .int .i64 0, .int .i64 0, .int .i64 0, .bool false, .int .i64 0, .int .i64 0, .int .i64 0, .bool false, .int .i64 0, .int .i64 0, .int .i64 0, .bool false, .int .i64 0, .int .i64 0, .int .i64 0, .bool false, .int .i64 0, .int .i64 0, .int .i64 0, .bool false, .int .i64 0, .int .i64 0, .int .i64 0, .bool false, .int .i64 0, .int .i64 0, .int .i64 0, .bool false, .int .i64 0, .int .i64 0, .int .i64 0, .bool false, .int .i64 0, .int .i64 0, .int .i64 0, .bool false], 1024, [.int .i64, .int .i64, .int .i64, .bool, .int .i64, .int .i64, .int .i64, .bool, .int .i64, .int .i64, .int .i64, .bool, .int .i64, .int .i64, .int .i64, .bool, .int .i64, .int .i64, .int .i64, .bool, .int .i64, .int .i64, .int .i64, .bool, .int .i64, .int .i64, .int .i64, .bool, .int .i64, .int .i64, .int .i64, .bool, .int .i64, .int .i64, .int .i64, .bool, .int .i64, .int .i64, .int .i64, .bool, .int .i64, .int .i64, .int .i64, .bool, .int .i64, .int .i64, .int .i64, .bool, .int .i64, .int .i64, .int .i64, .bool, .int .i64, .int .i64, .int .i64, .bool, .int .i64, .int .i64, .int .i64, .bool, .int .i64, .int .i64, .int .i64, .bool, .int .i64, .int .i64, .int .i64, .bool, .int .i64, .int .i64, .int .i64, .bool, .int .i64, .int .i64, .int .i64, .bool, .int .i64, .int .i64, .int .i64, .bool, .int .i64, .int .i64, .int .i64, .bool, .int .i64, .int .i64, .int .i64, .bool, .int .i64, .int .i64, .int .i64, .bool, .int .i64, .int .i64, .int .i64, .bool, .int .i64, .int .i64, .int .i64, .bool, .int .i64, .int .i64, .int .i64, .bool, .int .i64, .int .i64, .int .i64, .bool, .int .i64, .int .i64, .int .i64, .bool, .int .i64, .int .i64, .int .i64, .bool, .int .i64, .int .i64, .int .i64, .bool, .int .i64, .int .i64, .int .i64, .bool, .int .i64, .int .i64, .int .i64, .bool]⟩ := tyok (by kernel_rfl) (by kernel_rfl)
theorem ty100 : TyOk Try.prog 100 ⟨.struct [(0, 98)], 128, .agg #[.int .i64 0, .int .i64 0, .int .i64 0, .bool false, .int .i64 0, .int .i64 0, .int .i64 0, .bool false, .int .i64 0, .int .i64 0, .int .i64 0, .bool false, .int .i64 0, .int .i64 0, .int .i64 0, .bool false, .int .i64 0, .int .i64 0, .int .i64 0, .bool false, .int .i64 0, .int .i64 0, .int .i64 0, .bool false, .int .i64 0, .int .i64 0, .int .i64 0, .bool false, .int .i64 0, .int .i64 0, .int .i64 0, .bool false, .int .i64 0, .int .i64 0, .int .i64 0, .bool false, .int .i64 0, .int .i64 0, .int .i64 0, .bool false, .int .i64 0, .int .i64 0, .int .i64 0, .bool false, .int .i64 0, .int .i64 0, .int .i64 0, .bool false, .int .i64 0, .int .i64 0, .int .i64 0, .bool false, .int .i64 0, .int .i64 0, .int .i64 0, .bool false, .int .i64 0, .int .i64 0, .int .i64 0, .bool false, .int .i64 0, .int .i64 0, .int .i64 0, .bool false, .int .i64 0, .int .i64 0, .int .i64 0, .bool false, .int .i64 0, .int .i64 0, .int .i64 0, .bool false, .int .i64 0, .int .i64 0, .int .i64 0, .bool false, .int .i64 0, .int .i64 0, .int .i64 0, .bool false, .int .i64 0, .int .i64 0, .int .i64 0, .bool false, .int .i64 0, .int .i64 0, .int .i64 0, .bool false, .int .i64 0, .int .i64 0, .int .i64 0, .bool false, .int .i64 0, .int .i64 0, .int .i64 0, .bool false, .int .i64 0, .int .i64 0, .int .i64 0, .bool false, .int .i64 0, .int .i64 0, .int .i64 0, .bool false, .int .i64 0, .int .i64 0, .int .i64 0, .bool false, .int .i64 0, .int .i64 0, .int .i64 0, .bool false, .int .i64 0, .int .i64 0, .int .i64 0, .bool false, .int .i64 0, .int .i64 0, .int .i64 0, .bool false, .int .i64 0, .int .i64 0, .int .i64 0, .bool false, .int .i64 0, .int .i64 0, .int .i64 0, .bool false], 1024, [.int .i64, .int .i64, .int .i64, .bool, .int .i64, .int .i64, .int .i64, .bool, .int .i64, .int .i64, .int .i64, .bool, .int .i64, .int .i64, .int .i64, .bool, .int .i64, .int .i64, .int .i64, .bool, .int .i64, .int .i64, .int .i64, .bool, .int .i64, .int .i64, .int .i64, .bool, .int .i64, .int .i64, .int .i64, .bool, .int .i64, .int .i64, .int .i64, .bool, .int .i64, .int .i64, .int .i64, .bool, .int .i64, .int .i64, .int .i64, .bool, .int .i64, .int .i64, .int .i64, .bool, .int .i64, .int .i64, .int .i64, .bool, .int .i64, .int .i64, .int .i64, .bool, .int .i64, .int .i64, .int .i64, .bool, .int .i64, .int .i64, .int .i64, .bool, .int .i64, .int .i64, .int .i64, .bool, .int .i64, .int .i64, .int .i64, .bool, .int .i64, .int .i64, .int .i64, .bool, .int .i64, .int .i64, .int .i64, .bool, .int .i64, .int .i64, .int .i64, .bool, .int .i64, .int .i64, .int .i64, .bool, .int .i64, .int .i64, .int .i64, .bool, .int .i64, .int .i64, .int .i64, .bool, .int .i64, .int .i64, .int .i64, .bool, .int .i64, .int .i64, .int .i64, .bool, .int .i64, .int .i64, .int .i64, .bool, .int .i64, .int .i64, .int .i64, .bool, .int .i64, .int .i64, .int .i64, .bool, .int .i64, .int .i64, .int .i64, .bool, .int .i64, .int .i64, .int .i64, .bool, .int .i64, .int .i64, .int .i64, .bool]⟩ := tyok (by kernel_rfl) (by kernel_rfl)
theorem ty102 : TyOk Try.prog 102 ⟨.struct [(0, 3), (1, 3), (2, 3), (3, 3), (4, 3)], 5, .agg #[.int .i64 0, .int .i64 0, .int .i64 0, .int .i64 0, .int .i64 0], 40, [.int .i64, .int .i64, .int .i64, .int .i64, .int .i64]⟩ := tyok (by kernel_rfl) (by kernel_rfl)
theorem fn39 : FnOk Try.prog 39 := fnok Try.func39 (by kernel_rfl) (by kernel_rfl)
theorem fn43 : FnOk Try.prog 43 := fnok Try.func43 (by kernel_rfl) (by kernel_rfl)
theorem fn44 : FnOk Try.prog 44 := fnok Try.func44 (by kernel_rfl) (by kernel_rfl)
theorem fn45 : FnOk Try.prog 45 := fnok Try.func45 (by kernel_rfl) (by kernel_rfl)
theorem fn46 : FnOk Try.prog 46 := fnok Try.func46 (by kernel_rfl) (by kernel_rfl)
theorem fn47 : FnOk Try.prog 47 := fnok Try.func47 (by kernel_rfl) (by kernel_rfl)
theorem fn48 : FnOk Try.prog 48 := fnok Try.func48 (by kernel_rfl) (by kernel_rfl)
theorem fn49 : FnOk Try.prog 49 := fnok Try.func49 (by kernel_rfl) (by kernel_rfl)
theorem fn50 : FnOk Try.prog 50 := fnok Try.func50 (by kernel_rfl) (by kernel_rfl)
theorem fn51 : FnOk Try.prog 51 := fnok Try.func51 (by kernel_rfl) (by kernel_rfl)
theorem fn52 : FnOk Try.prog 52 := fnok Try.func52 (by kernel_rfl) (by kernel_rfl)
theorem fn53 : FnOk Try.prog 53 := fnok Try.func53 (by kernel_rfl) (by kernel_rfl)
theorem fn54 : FnOk Try.prog 54 := fnok Try.func54 (by kernel_rfl) (by kernel_rfl)
theorem fn55 : FnOk Try.prog 55 := fnok Try.func55 (by kernel_rfl) (by kernel_rfl)
theorem fn56 : FnOk Try.prog 56 := fnok Try.func56 (by kernel_rfl) (by kernel_rfl)
theorem fn57 : FnOk Try.prog 57 := fnok Try.func57 (by kernel_rfl) (by kernel_rfl)
theorem fn58 : FnOk Try.prog 58 := fnok Try.func58 (by kernel_rfl) (by kernel_rfl)
theorem fn97 : FnOk Try.prog 97 := fnok Try.func97 (by kernel_rfl) (by kernel_rfl)
theorem fn98 : FnOk Try.prog 98 := fnok Try.func98 (by kernel_rfl) (by kernel_rfl)
theorem fn99 : FnOk Try.prog 99 := fnok Try.func99 (by kernel_rfl) (by kernel_rfl)
theorem fn100 : FnOk Try.prog 100 := fnok Try.func100 (by kernel_rfl) (by kernel_rfl)
theorem fn119 : FnOk Try.prog 119 := fnok Try.func119 (by kernel_rfl) (by kernel_rfl)
theorem fn120 : FnOk Try.prog 120 := fnok Try.func120 (by kernel_rfl) (by kernel_rfl)
theorem eqt88 : EqTy Try.prog 88 := ⟨by kernel_rfl, by kernel_rfl, by kernel_rfl⟩
theorem envOk : EOk Try.prog env := ⟨(by simp only [env, List.forall_mem_cons, List.not_mem_nil, false_implies, implies_true, and_true]; exact ⟨ty3, ty4, ty23, ty43, ty88, ty92, ty97, ty98, ty100, ty102⟩), (by simp only [env, List.forall_mem_cons, List.not_mem_nil, false_implies, implies_true, and_true]; exact ⟨fn39, fn43, fn44, fn45, fn46, fn47, fn48, fn49, fn50, fn51, fn52, fn53, fn54, fn55, fn56, fn57, fn58, fn97, fn98, fn99, fn100, fn119, fn120⟩), by kernel_rfl, (by simp only [env, List.forall_mem_cons, List.not_mem_nil, false_implies, implies_true, and_true]; exact eqt88)⟩
/-- (*purser/purserref13.Tree).There -/
def rthere_vc (p0 : Option Addr) (x1 : Int) (w : World) (K : Value → World → Prop) : Prop :=
  br (decide (x1 ≥ 1)) (
    br (decide (x1 ≤ 32)) (
      withP p0 fun g15 o15 =>
      (0 : Int) ≤ IntKind.i64.wrap (x1 - 1) ∧ IntKind.i64.wrap (x1 - 1) < ((32 : Nat) : Int) ∧
      ∃ (x19 : Int), w.cell? ⟨g15, o15 + (IntKind.i64.wrap (x1 - 1)).toNat * 4 + 1, none⟩ = some (.int .i64 x19) ∧
      K (.bool (decide (x19 > 0))) w
    ) (
      K (.bool false) w
    )
  ) (
    K (.bool false) w
  )
def rthere_notes : Notes := ⟨[], [], []⟩
theorem rthere_calls (p0 : Option Addr) (x1 : Int) (w : World) (K : Value → World → Prop) (h : rthere_vc p0 x1 w K) : Calls Try.prog 56 #[.pointer p0, .int .i64 x1] w fun e w' => ∃ v, e = .returned v ∧ K v w' :=
  calls_of_fvc envOk Try.func56 rthere_notes [] [.pointer p0, .int .i64 x1] w K (use_vc h (by as_aux_lemma => kernel_rfl))
/-- purser/purserref13.limit -/
def rlimit_vc (x0 : Int) (w : World) (K : Value → World → Prop) : Prop :=
  br (decide (x0 ≥ (-1))) (
    K (.bool (decide (x0 ≤ 9007199254740992))) w
  ) (
    K (.bool false) w
  )
def rlimit_notes : Notes := ⟨[], [], []⟩
theorem rlimit_calls (x0 : Int) (w : World) (K : Value → World → Prop) (h : rlimit_vc x0 w K) : Calls Try.prog 119 #[.int .i64 x0] w fun e w' => ∃ v, e = .returned v ∧ K v w' :=
  calls_of_fvc envOk Try.func119 rlimit_notes [] [.int .i64 x0] w K (use_vc h (by as_aux_lemma => kernel_rfl))
/-- (*purser/purserref13.Tree).under -/
def runder_vc (p0 : Option Addr) (x1 : Int) (x2 : Int) (w : World) (K : Value → World → Prop) : Prop :=
  Calls Try.prog 56 #[.pointer p0, .int .i64 x2] w fun e w_2 => KeepG [] w w_2 ∧
  ∃ (b9 : Bool),
  e = .returned (.bool b9) ∧
  br (!b9) (
    K (.int .i64 7) w_2
  ) (
    withP p0 fun g14 o14 =>
    (0 : Int) ≤ IntKind.i64.wrap (x2 - 1) ∧ IntKind.i64.wrap (x2 - 1) < ((32 : Nat) : Int) ∧
    ∃ (x18 : Int), w_2.cell? ⟨g14, o14 + (IntKind.i64.wrap (x2 - 1)).toNat * 4 + 1, none⟩ = some (.int .i64 x18) ∧
    br (decide (x18 ≠ (IntKind.i64.wrap (x1 - 1)))) (
      K (.int .i64 21) w_2
    ) (
      K (.int .i64 0) w_2
    )
  )
def runder_notes : Notes := ⟨[], [], []⟩
theorem runder_calls (p0 : Option Addr) (x1 : Int) (x2 : Int) (w : World) (K : Value → World → Prop) (h : runder_vc p0 x1 x2 w K) : Calls Try.prog 120 #[.pointer p0, .int .i64 x1, .int .i64 x2] w fun e w' => ∃ v, e = .returned v ∧ K v w' :=
  calls_of_fvc envOk Try.func120 runder_notes [] [.pointer p0, .int .i64 x1, .int .i64 x2] w K (use_vc h (by as_aux_lemma => kernel_rfl))
/-- (*purser/purserref13.Tree).DocCreate -/
def rcreate_k1 (K : Value → World → Prop) (p0 : Option Addr) (x1 : Int) (x2 : Int) (x3 : Int) (x4 : Int) (b5 : Bool) (w_5 : World) : Prop :=
  withP p0 fun g70 o70 =>
  (0 : Int) ≤ IntKind.i64.wrap (x1 - 1) ∧ IntKind.i64.wrap (x1 - 1) < ((32 : Nat) : Int) ∧
  stO [] w_5 g70 (o70 + (IntKind.i64.wrap (x1 - 1)).toNat * 4) [.int .i64 x2, .int .i64 x3, .int .i64 x4, .bool b5] fun w_6 =>
  K (.int .i64 0) w_6
def rcreate_vc (p0 : Option Addr) (x1 : Int) (x2 : Int) (x3 : Int) (x4 : Int) (b5 : Bool) (w : World) (K : Value → World → Prop) : Prop :=
  br (decide (x1 < 1)) (
    K (.int .i64 1) w
  ) (
    br (decide (x1 > 32)) (
      K (.int .i64 1) w
    ) (
      Calls Try.prog 119 #[.int .i64 x4] w fun e w_2 => KeepG [] w w_2 ∧
      ∃ (b22 : Bool),
      e = .returned (.bool b22) ∧
      br (!b22) (
        K (.int .i64 1) w_2
      ) (
        br (decide (x3 < 1)) (
          K (.int .i64 21) w_2
        ) (
          br (decide (x3 > 3)) (
            K (.int .i64 21) w_2
          ) (
            br (decide ((decide (x2 = 0)) ≠ (decide (x3 = 1)))) (
              K (.int .i64 21) w_2
            ) (
              Calls Try.prog 56 #[.pointer p0, .int .i64 x1] w_2 fun e_2 w_3 => KeepG [] w_2 w_3 ∧
              ∃ (b40 : Bool),
              e_2 = .returned (.bool b40) ∧
              br b40 (
                K (.int .i64 8) w_3
              ) (
                br (decide (x2 ≠ 0)) (
                  Calls Try.prog 120 #[.pointer p0, .int .i64 x3, .int .i64 x2] w_3 fun e_3 w_4 => KeepG [] w_3 w_4 ∧
                  ∃ (x46 : Int),
                  e_3 = .returned (.int .i64 x46) ∧
                  br (decide (x46 ≠ 0)) (
                    K (.int .i64 x46) w_4
                  ) (
                    withP p0 fun g53 o53 =>
                    (0 : Int) ≤ IntKind.i64.wrap (x2 - 1) ∧ IntKind.i64.wrap (x2 - 1) < ((32 : Nat) : Int) ∧
                    ∃ (b57 : Bool), w_4.cell? ⟨g53, o53 + (IntKind.i64.wrap (x2 - 1)).toNat * 4 + 3, none⟩ = some (.bool b57) ∧
                    br b57 (
                      br (!b5) (
                        K (.int .i64 16) w_4
                      ) (
                        rcreate_k1 K p0 x1 x2 x3 x4 b5 w_4
                      )
                    ) (
                      rcreate_k1 K p0 x1 x2 x3 x4 b5 w_4
                    )
                  )
                ) (
                  rcreate_k1 K p0 x1 x2 x3 x4 b5 w_3
                )
              )
            )
          )
        )
      )
    )
  )
def rcreate_notes : Notes := ⟨[], [], []⟩
theorem rcreate_calls (p0 : Option Addr) (x1 : Int) (x2 : Int) (x3 : Int) (x4 : Int) (b5 : Bool) (w : World) (K : Value → World → Prop) (h : rcreate_vc p0 x1 x2 x3 x4 b5 w K) : Calls Try.prog 97 #[.pointer p0, .int .i64 x1, .int .i64 x2, .int .i64 x3, .int .i64 x4, .bool b5] w fun e w' => ∃ v, e = .returned v ∧ K v w' :=
  calls_of_fvc envOk Try.func97 rcreate_notes [] [.pointer p0, .int .i64 x1, .int .i64 x2, .int .i64 x3, .int .i64 x4, .bool b5] w K (use_vc h (by as_aux_lemma => kernel_rfl))
/-- (*purser/purserref13.Tree).DocMove -/
def rmove_vc (p0 : Option Addr) (x1 : Int) (x2 : Int) (w : World) (K : Value → World → Prop) : Prop :=
  Calls Try.prog 56 #[.pointer p0, .int .i64 x1] w fun e w_2 => KeepG [] w w_2 ∧
  ∃ (b11 : Bool),
  e = .returned (.bool b11) ∧
  br (!b11) (
    K (.int .i64 7) w_2
  ) (
    withP p0 fun g16 o16 =>
    (0 : Int) ≤ IntKind.i64.wrap (x1 - 1) ∧ IntKind.i64.wrap (x1 - 1) < ((32 : Nat) : Int) ∧
    ∃ (x19_0 : Int) (x19_1 : Int) (x19_2 : Int) (b19_3 : Bool),
    cellsAt w_2 g16 (o16 + (IntKind.i64.wrap (x1 - 1)).toNat * 4) [.int .i64 x19_0, .int .i64 x19_1, .int .i64 x19_2, .bool b19_3] ∧
    newO w_2 (.cells #[.int .i64 0, .int .i64 0, .int .i64 0, .bool false] 97) fun g w_3 =>
    ∀ w_4 : World, BoxSt g w_3 w_4 →
    br b19_3 (
      K (.int .i64 16) w_4
    ) (
      br (decide (x19_1 = 1)) (
        K (.int .i64 21) w_4
      ) (
        Calls Try.prog 120 #[.pointer p0, .int .i64 x19_1, .int .i64 x2] w_4 fun e_2 w_5 => KeepG [g] w_4 w_5 ∧
        ∃ (x29 : Int),
        e_2 = .returned (.int .i64 x29) ∧
        br (decide (x29 ≠ 0)) (
          K (.int .i64 x29) w_5
        ) (
          withP p0 fun g36 o36 =>
          (0 : Int) ≤ IntKind.i64.wrap (x2 - 1) ∧ IntKind.i64.wrap (x2 - 1) < ((32 : Nat) : Int) ∧
          ∃ (b40 : Bool), w_5.cell? ⟨g36, o36 + (IntKind.i64.wrap (x2 - 1)).toNat * 4 + 3, none⟩ = some (.bool b40) ∧
          br b40 (
            K (.int .i64 16) w_5
          ) (
            br (decide (x19_0 = x2)) (
              K (.int .i64 8) w_5
            ) (
              withP p0 fun g49 o49 =>
              (0 : Int) ≤ IntKind.i64.wrap (x1 - 1) ∧ IntKind.i64.wrap (x1 - 1) < ((32 : Nat) : Int) ∧
              stO [g] w_5 g49 (o49 + (IntKind.i64.wrap (x1 - 1)).toNat * 4) [.int .i64 x2] fun w_6 =>
              K (.int .i64 0) w_6
            )
          )
        )
      )
    )
  )
def rmove_notes : Notes := ⟨[], [], []⟩
theorem rmove_calls (p0 : Option Addr) (x1 : Int) (x2 : Int) (w : World) (K : Value → World → Prop) (h : rmove_vc p0 x1 x2 w K) : Calls Try.prog 98 #[.pointer p0, .int .i64 x1, .int .i64 x2] w fun e w' => ∃ v, e = .returned v ∧ K v w' :=
  calls_of_fvc envOk Try.func98 rmove_notes [7] [.pointer p0, .int .i64 x1, .int .i64 x2] w K (use_vc h (by as_aux_lemma => kernel_rfl))
/-- (*purser/purserref13.Tree).DocClose -/
def rclose_vc (p0 : Option Addr) (x1 : Int) (w : World) (K : Value → World → Prop) : Prop :=
  Calls Try.prog 56 #[.pointer p0, .int .i64 x1] w fun e w_2 => KeepG [] w w_2 ∧
  ∃ (b8 : Bool),
  e = .returned (.bool b8) ∧
  br (!b8) (
    K (.int .i64 7) w_2
  ) (
    withP p0 fun g13 o13 =>
    (0 : Int) ≤ IntKind.i64.wrap (x1 - 1) ∧ IntKind.i64.wrap (x1 - 1) < ((32 : Nat) : Int) ∧
    ∃ (b17 : Bool), w_2.cell? ⟨g13, o13 + (IntKind.i64.wrap (x1 - 1)).toNat * 4 + 3, none⟩ = some (.bool b17) ∧
    br b17 (
      K (.int .i64 16) w_2
    ) (
      ∃ (I : Int → World → Prop) (μ : Int → World → Nat),
      I 0 w_2 ∧
      ∀ (x5 : Int) (w_3 : World), I x5 w_3 →
      br (decide (x5 < 32)) (
        withP p0 fun g24 o24 =>
        (0 : Int) ≤ x5 ∧ x5 < ((32 : Nat) : Int) ∧
        ∃ (x28 : Int), w_3.cell? ⟨g24, o24 + x5.toNat * 4 + 1, none⟩ = some (.int .i64 x28) ∧
        br (decide (x28 > 0)) (
          withP p0 fun g33 o33 =>
          (0 : Int) ≤ x5 ∧ x5 < ((32 : Nat) : Int) ∧
          ∃ (x37 : Int), w_3.cell? ⟨g33, o33 + x5.toNat * 4, none⟩ = some (.int .i64 x37) ∧
          br (decide (x37 = x1)) (
            withP p0 fun g44 o44 =>
            (0 : Int) ≤ x5 ∧ x5 < ((32 : Nat) : Int) ∧
            ∃ (b48 : Bool), w_3.cell? ⟨g44, o44 + x5.toNat * 4 + 3, none⟩ = some (.bool b48) ∧
            br (!b48) (
              K (.int .i64 17) w_3
            ) (
              I (IntKind.i64.wrap (x5 + 1)) w_3 ∧ μ (IntKind.i64.wrap (x5 + 1)) w_3 < μ x5 w_3
            )
          ) (
            I (IntKind.i64.wrap (x5 + 1)) w_3 ∧ μ (IntKind.i64.wrap (x5 + 1)) w_3 < μ x5 w_3
          )
        ) (
          I (IntKind.i64.wrap (x5 + 1)) w_3 ∧ μ (IntKind.i64.wrap (x5 + 1)) w_3 < μ x5 w_3
        )
      ) (
        withP p0 fun g54 o54 =>
        (0 : Int) ≤ IntKind.i64.wrap (x1 - 1) ∧ IntKind.i64.wrap (x1 - 1) < ((32 : Nat) : Int) ∧
        stO [] w_3 g54 (o54 + (IntKind.i64.wrap (x1 - 1)).toNat * 4 + 3) [.bool true] fun w_5 =>
        K (.int .i64 0) w_5
      )
    )
  )
def rclose_notes : Notes := ⟨[], [(6, ⟨[(5, .lf (.int .i64))], [], [18, 19, 22, 23, 24, 25, 26, 27, 28, 29, 30, 31, 32, 33, 34, 35, 36, 37, 38, 39, 40, 41, 42, 43, 44, 45, 46, 47, 48, 49, 50, 4, 20, 21, 5], []⟩)], []⟩
theorem rclose_calls (p0 : Option Addr) (x1 : Int) (w : World) (K : Value → World → Prop) (h : rclose_vc p0 x1 w K) : Calls Try.prog 99 #[.pointer p0, .int .i64 x1] w fun e w' => ∃ v, e = .returned v ∧ K v w' :=
  calls_of_fvc envOk Try.func99 rclose_notes [] [.pointer p0, .int .i64 x1] w K (use_vc h (by as_aux_lemma => kernel_rfl))
/-- (*purser/purserref13.Tree).DocLimit -/
def rlim_vc (p0 : Option Addr) (x1 : Int) (x2 : Int) (w : World) (K : Value → World → Prop) : Prop :=
  Calls Try.prog 56 #[.pointer p0, .int .i64 x1] w fun e w_2 => KeepG [] w w_2 ∧
  ∃ (b9 : Bool),
  e = .returned (.bool b9) ∧
  br (!b9) (
    K (.int .i64 7) w_2
  ) (
    Calls Try.prog 119 #[.int .i64 x2] w_2 fun e_2 w_3 => KeepG [] w_2 w_3 ∧
    ∃ (b12 : Bool),
    e_2 = .returned (.bool b12) ∧
    br (!b12) (
      K (.int .i64 1) w_3
    ) (
      withP p0 fun g17 o17 =>
      (0 : Int) ≤ IntKind.i64.wrap (x1 - 1) ∧ IntKind.i64.wrap (x1 - 1) < ((32 : Nat) : Int) ∧
      ∃ (b21 : Bool), w_3.cell? ⟨g17, o17 + (IntKind.i64.wrap (x1 - 1)).toNat * 4 + 3, none⟩ = some (.bool b21) ∧
      br b21 (
        K (.int .i64 16) w_3
      ) (
        withP p0 fun g26 o26 =>
        (0 : Int) ≤ IntKind.i64.wrap (x1 - 1) ∧ IntKind.i64.wrap (x1 - 1) < ((32 : Nat) : Int) ∧
        stO [] w_3 g26 (o26 + (IntKind.i64.wrap (x1 - 1)).toNat * 4 + 2) [.int .i64 x2] fun w_4 =>
        K (.int .i64 0) w_4
      )
    )
  )
def rlim_notes : Notes := ⟨[], [], []⟩
theorem rlim_calls (p0 : Option Addr) (x1 : Int) (x2 : Int) (w : World) (K : Value → World → Prop) (h : rlim_vc p0 x1 x2 w K) : Calls Try.prog 100 #[.pointer p0, .int .i64 x1, .int .i64 x2] w fun e w' => ∃ v, e = .returned v ∧ K v w' :=
  calls_of_fvc envOk Try.func100 rlim_notes [] [.pointer p0, .int .i64 x1, .int .i64 x2] w K (use_vc h (by as_aux_lemma => kernel_rfl))
/-- (*purser/purserref13.Tree).Path -/
def rpath_vc (p0 : Option Addr) (x1 : Int) (w : World) (K : Value → World → Prop) : Prop :=
  Calls Try.prog 56 #[.pointer p0, .int .i64 x1] w fun e w_2 => KeepG [] w w_2 ∧
  ∃ (b7 : Bool),
  e = .returned (.bool b7) ∧
  br (!b7) (
    K (.slice none 0 0) w_2
  ) (
    withP p0 fun g13 o13 =>
    (0 : Int) ≤ IntKind.i64.wrap (x1 - 1) ∧ IntKind.i64.wrap (x1 - 1) < ((32 : Nat) : Int) ∧
    ∃ (x17 : Int), w_2.cell? ⟨g13, o13 + (IntKind.i64.wrap (x1 - 1)).toNat * 4, none⟩ = some (.int .i64 x17) ∧
    Calls Try.prog 57 #[.pointer p0, .int .i64 x17] w_2 fun e_2 w_3 => KeepG [] w_2 w_3 ∧
    ∃ (a18 : Option Addr) (n18 : Nat) (c18 : Nat),
    e_2 = .returned (.slice a18 n18 c18) ∧
    newO w_3 (.cells #[.int .i64 x1] 3) fun g w_4 =>
    appO Try.prog [] w_4 3 1 8 23 a18 n18 c18 (.slice (some ⟨g, 0, none⟩) 1 1) fun m21 a21 c21 w_5 =>
    K (.slice a21 (n18 + m21) c21) w_5
  )
def rpath_notes : Notes := ⟨[], [], []⟩
theorem rpath_calls (p0 : Option Addr) (x1 : Int) (w : World) (K : Value → World → Prop) (h : rpath_vc p0 x1 w K) : Calls Try.prog 57 #[.pointer p0, .int .i64 x1] w fun e w' => ∃ v, e = .returned v ∧ K v w' :=
  calls_of_fvc envOk Try.func57 rpath_notes [] [.pointer p0, .int .i64 x1] w K (use_vc h (by as_aux_lemma => kernel_rfl))
/-- (*purser/purserref13.Tree).Below -/
def rbelow_vc (p0 : Option Addr) (x1 : Int) (w : World) (K : Value → World → Prop) : Prop :=
  ∃ (I : Option Addr → Nat → Nat → Int → World → Prop) (μ : Option Addr → Nat → Nat → Int → World → Nat),
  I none 0 0 1 w ∧
  ∀ (a5 : Option Addr) (n5 : Nat) (c5 : Nat) (x6 : Int) (w_2 : World), I a5 n5 c5 x6 w_2 →
  br (decide (x6 ≤ 32)) (
    Calls Try.prog 57 #[.pointer p0, .int .i64 x6] w_2 fun e w_3 => KeepG [] w_2 w_3 ∧
    ∃ (a15 : Option Addr) (n15 : Nat) (c15 : Nat),
    e = .returned (.slice a15 n15 c15) ∧
    ∃ (I_2 : Option Addr → Nat → Nat → Int → World → Prop) (μ_2 : Option Addr → Nat → Nat → Int → World → Nat),
    I_2 a5 n5 c5 0 w_3 ∧
    ∀ (a5_2 : Option Addr) (n5_2 : Nat) (c5_2 : Nat) (x8 : Int) (w_4 : World), I_2 a5_2 n5_2 c5_2 x8 w_4 →
    br (decide (x8 < ((n15 : Nat) : Int))) (
      withP a15 fun g24 o24 =>
      (0 : Int) ≤ x8 ∧ x8 < (((n15 : Nat) : Int) : Int) ∧
      ∃ (x25 : Int), w_4.cell? ⟨g24, o24 + x8.toNat * 1, none⟩ = some (.int .i64 x25) ∧
      br (decide (x25 = x1)) (
        newO w_4 (.cells #[.int .i64 x6] 3) fun g w_5 =>
        appO Try.prog [] w_5 3 1 8 23 a5_2 n5_2 c5_2 (.slice (some ⟨g, 0, none⟩) 1 1) fun m31 a31 c31 w_6 =>
        I_2 a31 (n5_2 + m31) c31 (IntKind.i64.wrap (x8 + 1)) w_6 ∧ μ_2 a31 (n5_2 + m31) c31 (IntKind.i64.wrap (x8 + 1)) w_6 < μ_2 a5_2 n5_2 c5_2 x8 w_4
      ) (
        I_2 a5_2 n5_2 c5_2 (IntKind.i64.wrap (x8 + 1)) w_4 ∧ μ_2 a5_2 n5_2 c5_2 (IntKind.i64.wrap (x8 + 1)) w_4 < μ_2 a5_2 n5_2 c5_2 x8 w_4
      )
    ) (
      I a5_2 n5_2 c5_2 (IntKind.i64.wrap (x6 + 1)) w_4 ∧ μ a5_2 n5_2 c5_2 (IntKind.i64.wrap (x6 + 1)) w_4 < μ a5 n5 c5 x6 w_2
    )
  ) (
    K (.slice a5 n5 c5) w_2
  )
def rbelow_notes : Notes := ⟨[], [(3, ⟨[(5, .lf (.slice)), (6, .lf (.int .i64))], [], [9, 10, 13, 14, 15, 7, 8, 16, 17, 18, 19, 22, 23, 24, 25, 26, 27, 28, 29, 30, 31, 5, 20, 21, 11, 12, 6], []⟩), (7, ⟨[(5, .lf (.slice)), (8, .lf (.int .i64))], [], [16, 17, 18, 19, 22, 23, 24, 25, 26, 27, 28, 29, 30, 31, 5, 20, 21, 8], []⟩)], []⟩
theorem rbelow_calls (p0 : Option Addr) (x1 : Int) (w : World) (K : Value → World → Prop) (h : rbelow_vc p0 x1 w K) : Calls Try.prog 58 #[.pointer p0, .int .i64 x1] w fun e w' => ∃ v, e = .returned v ∧ K v w' :=
  calls_of_fvc envOk Try.func58 rbelow_notes [] [.pointer p0, .int .i64 x1] w K (use_vc h (by as_aux_lemma => kernel_rfl))
/-- purser/purserlaw13.trees -/
def ltrees_vc  (w : World) (K : Value → World → Prop) : Prop :=
  Calls Try.prog 43 #[] w fun e w_2 => KeepG [] w w_2 ∧
  ∃ (p7 : Option Addr),
  e = .returned (.pointer p7) ∧
  Calls Try.prog 45 #[.pointer p7, .int .i64 1, .int .i64 0, .int .i64 1, .int .i64 (-1)] w_2 fun e_2 w_3 => KeepG [] w_2 w_3 ∧
  ∃ (x9 : Int),
  e_2 = .returned (.int .i64 x9) ∧
  Calls Try.prog 45 #[.pointer p7, .int .i64 2, .int .i64 1, .int .i64 2, .int .i64 5] w_3 fun e_3 w_4 => KeepG [] w_3 w_4 ∧
  ∃ (x11 : Int),
  e_3 = .returned (.int .i64 x11) ∧
  Calls Try.prog 45 #[.pointer p7, .int .i64 3, .int .i64 2, .int .i64 3, .int .i64 (-1)] w_4 fun e_4 w_5 => KeepG [] w_4 w_5 ∧
  ∃ (x13 : Int),
  e_4 = .returned (.int .i64 x13) ∧
  Calls Try.prog 52 #[.pointer p7, .int .i64 3] w_5 fun e_5 w_6 => KeepG [] w_5 w_6 ∧
  ∃ (a16_0 : Option Addr) (n16_0 : Nat) (c16_0 : Nat) (x16_1 : Int),
  e_5 = .returned (.tuple #[.slice a16_0 n16_0 c16_0, .int .i64 x16_1]) ∧
  br (decide (x9 = 0)) (
    br (decide (x11 = 0)) (
      br (decide (x13 = 0)) (
        br (decide (x16_1 = 0)) (
          newO w_6 (.cells #[.int .i64 1, .int .i64 2, .int .i64 3] 3) fun g w_7 =>
          Calls Try.prog 39 #[.slice a16_0 n16_0 c16_0, .slice (some ⟨g, 0, none⟩) 3 3] w_7 fun e_6 w_8 => KeepG [] w_7 w_8 ∧
          ∃ (b36 : Bool),
          e_6 = .returned (.bool b36) ∧
          br b36 (
            Calls Try.prog 47 #[.pointer p7, .int .i64 2] w_8 fun e_7 w_9 => KeepG [] w_8 w_9 ∧
            ∃ (x40 : Int),
            e_7 = .returned (.int .i64 x40) ∧
            K (.bool (decide (x40 = 17))) w_9
          ) (
            K (.bool false) w_8
          )
        ) (
          K (.bool false) w_6
        )
      ) (
        K (.bool false) w_6
      )
    ) (
      K (.bool false) w_6
    )
  ) (
    K (.bool false) w_6
  )
def ltrees_notes : Notes := ⟨[], [], []⟩
theorem ltrees_calls  (w : World) (K : Value → World → Prop) (h : ltrees_vc  w K) : Calls Try.prog 44 #[] w fun e w' => ∃ v, e = .returned v ∧ K v w' :=
  calls_of_fvc envOk Try.func44 ltrees_notes [] [] w K (use_vc h (by as_aux_lemma => kernel_rfl))
/-- purser/purserlaw13.none -/
def lnone_vc  (w : World) (K : Value → World → Prop) : Prop :=
  K (.pointer none) w
def lnone_notes : Notes := ⟨[], [], []⟩
theorem lnone_calls  (w : World) (K : Value → World → Prop) (h : lnone_vc  w K) : Calls Try.prog 51 #[] w fun e w' => ∃ v, e = .returned v ∧ K v w' :=
  calls_of_fvc envOk Try.func51 lnone_notes [] [] w K (use_vc h (by as_aux_lemma => kernel_rfl))
/-- (purser/purserlaw13.Act).do -/
def ldo_vc (x0_0 : Int) (x0_1 : Int) (x0_2 : Int) (x0_3 : Int) (x0_4 : Int) (p1 : Option Addr) (p2 : Option Addr) (w : World) (K : Value → World → Prop) : Prop :=
  newO w (.cells #[.int .i64 x0_0, .int .i64 x0_1, .int .i64 x0_2, .int .i64 x0_3, .int .i64 x0_4] 102) fun g w_2 =>
  (5 : Int) ≠ 0 ∧
  br (decide ((IntKind.i64.wrap (Int.tmod (IntKind.u64.wrap x0_0) 5)) = 0)) (
    drewO w_2 fun w_3 =>
    Calls Try.prog 45 #[.pointer p1, .int .i64 x0_1, .int .i64 x0_2, .int .i64 x0_3, .int .i64 x0_4] w_3 fun e w_4 => KeepG [g] w_3 w_4 ∧
    ∃ (x23 : Int),
    e = .returned (.int .i64 x23) ∧
    Calls Try.prog 97 #[.pointer p2, .int .i64 x0_1, .int .i64 x0_2, .int .i64 x0_3, .int .i64 x0_4, .bool false] w_4 fun e_2 w_5 => KeepG [g] w_4 w_5 ∧
    ∃ (x33 : Int),
    e_2 = .returned (.int .i64 x33) ∧
    K (.bool (decide (x23 = x33))) w_5
  ) (
    br (decide ((IntKind.i64.wrap (Int.tmod (IntKind.u64.wrap x0_0) 5)) = 1)) (
      drewO w_2 fun w_6 =>
      Calls Try.prog 46 #[.pointer p1, .int .i64 x0_1, .int .i64 x0_2] w_6 fun e_3 w_7 => KeepG [g] w_6 w_7 ∧
      ∃ (x42 : Int),
      e_3 = .returned (.int .i64 x42) ∧
      Calls Try.prog 98 #[.pointer p2, .int .i64 x0_1, .int .i64 x0_2] w_7 fun e_4 w_8 => KeepG [g] w_7 w_8 ∧
      ∃ (x48 : Int),
      e_4 = .returned (.int .i64 x48) ∧
      K (.bool (decide (x42 = x48))) w_8
    ) (
      br (decide ((IntKind.i64.wrap (Int.tmod (IntKind.u64.wrap x0_0) 5)) = 2)) (
        drewO w_2 fun w_9 =>
        Calls Try.prog 47 #[.pointer p1, .int .i64 x0_1] w_9 fun e_5 w_10 => KeepG [g] w_9 w_10 ∧
        ∃ (x55 : Int),
        e_5 = .returned (.int .i64 x55) ∧
        Calls Try.prog 99 #[.pointer p2, .int .i64 x0_1] w_10 fun e_6 w_11 => KeepG [g] w_10 w_11 ∧
        ∃ (x59 : Int),
        e_6 = .returned (.int .i64 x59) ∧
        K (.bool (decide (x55 = x59))) w_11
      ) (
        br (decide ((IntKind.i64.wrap (Int.tmod (IntKind.u64.wrap x0_0) 5)) = 3)) (
          drewO w_2 fun w_12 =>
          Calls Try.prog 54 #[.pointer p1, .int .i64 x0_1, .int .i64 x0_4] w_12 fun e_7 w_13 => KeepG [g] w_12 w_13 ∧
          ∃ (x68 : Int),
          e_7 = .returned (.int .i64 x68) ∧
          Calls Try.prog 100 #[.pointer p2, .int .i64 x0_1, .int .i64 x0_4] w_13 fun e_8 w_14 => KeepG [g] w_13 w_14 ∧
          ∃ (x74 : Int),
          e_8 = .returned (.int .i64 x74) ∧
          K (.bool (decide (x68 = x74))) w_14
        ) (
          drewO w_2 fun w_15 =>
          Calls Try.prog 50 #[.pointer p1, .agg #[.int .i64 x0_1, .int .i64 x0_2, .int .i64 x0_3, .int .i64 x0_4, .bool true]] w_15 fun e_9 w_16 => KeepG [g] w_15 w_16 ∧
          ∃ (x86 : Int),
          e_9 = .returned (.int .i64 x86) ∧
          Calls Try.prog 97 #[.pointer p2, .int .i64 x0_1, .int .i64 x0_2, .int .i64 x0_3, .int .i64 x0_4, .bool true] w_16 fun e_10 w_17 => KeepG [g] w_16 w_17 ∧
          ∃ (x96 : Int),
          e_10 = .returned (.int .i64 x96) ∧
          K (.bool (decide (x86 = x96))) w_17
        )
      )
    )
  )
def ldo_notes : Notes := ⟨[(3, ⟨[0, 0, 2, 0, 8, 0, 32, 0, 128, 511, 0, 0, 2048, 0, 8192, 0, 32768, 0, 131072, 524287, 1048575, 2097151], [9, 19], [0, 1, 2, 3, 4, 5, 6, 7, 8, 10, 11, 12, 13, 14, 15, 16, 17, 18, 20, 21]⟩), (5, ⟨[0, 0, 2, 0, 8, 31, 0, 0, 128, 0, 512, 2047, 4095, 8191], [5, 11], [0, 1, 2, 3, 4, 6, 7, 8, 9, 10, 12, 13]⟩), (7, ⟨[0, 0, 2, 7, 0, 0, 32, 127, 255, 511], [3, 7], [0, 1, 2, 4, 5, 6, 8, 9]⟩), (9, ⟨[0, 0, 2, 0, 8, 31, 0, 0, 128, 0, 512, 2047, 4095, 8191], [5, 11], [0, 1, 2, 3, 4, 6, 7, 8, 9, 10, 12, 13]⟩), (10, ⟨[0, 0, 2, 0, 8, 0, 32, 0, 128, 510, 1023, 0, 0, 4096, 0, 16384, 0, 65536, 0, 262144, 1048575, 2097151, 4194303], [10, 20], [0, 1, 2, 3, 4, 5, 6, 7, 8, 9, 11, 12, 13, 14, 15, 16, 17, 18, 19, 21, 22]⟩)], [], []⟩
theorem ldo_calls (x0_0 : Int) (x0_1 : Int) (x0_2 : Int) (x0_3 : Int) (x0_4 : Int) (p1 : Option Addr) (p2 : Option Addr) (w : World) (K : Value → World → Prop) (h : ldo_vc x0_0 x0_1 x0_2 x0_3 x0_4 p1 p2 w K) : Calls Try.prog 55 #[.agg #[.int .i64 x0_0, .int .i64 x0_1, .int .i64 x0_2, .int .i64 x0_3, .int .i64 x0_4], .pointer p1, .pointer p2] w fun e w' => ∃ v, e = .returned v ∧ K v w' :=
  calls_of_fvc envOk Try.func55 ldo_notes [3] [.agg #[.int .i64 x0_0, .int .i64 x0_1, .int .i64 x0_2, .int .i64 x0_3, .int .i64 x0_4], .pointer p1, .pointer p2] w K (use_vc h (by as_aux_lemma => kernel_rfl))
/-- purser/purserlaw13.TreeActs -/
def lacts_k1 (K : Value → World → Prop) (I_3 : Int → World → Prop) (μ_3 : Int → World → Nat) (g : Nat) (p86 : Option Addr) (g_2 : Nat) (x16 : Int) (w_35 : World) (x17 : Int) (w_36 : World) : Prop :=
  Calls Try.prog 49 #[.pointer p86, .int .i64 x17] w_36 fun e_25 w_37 => KeepG [g] w_36 w_37 ∧
  ∃ (x134_0_0 : Int) (x134_0_1 : Int) (x134_0_2 : Int) (x134_0_3 : Int) (b134_0_4 : Bool) (x134_1 : Int),
  e_25 = .returned (.tuple #[.agg #[.int .i64 x134_0_0, .int .i64 x134_0_1, .int .i64 x134_0_2, .int .i64 x134_0_3, .bool b134_0_4], .int .i64 x134_1]) ∧
  newO w_37 (.cells #[.int .i64 0, .int .i64 0, .int .i64 0, .int .i64 0, .bool false] 88) fun g_4 w_38 =>
  ∀ w_39 : World, BoxSt g_4 w_38 w_39 →
  Calls Try.prog 52 #[.pointer p86, .int .i64 x17] w_39 fun e_26 w_40 => KeepG [g_4, g] w_39 w_40 ∧
  ∃ (a140_0 : Option Addr) (n140_0 : Nat) (c140_0 : Nat) (x140_1 : Int),
  e_26 = .returned (.tuple #[.slice a140_0 n140_0 c140_0, .int .i64 x140_1]) ∧
  Calls Try.prog 53 #[.pointer p86, .int .i64 x17] w_40 fun e_27 w_41 => KeepG [g_4, g] w_40 w_41 ∧
  ∃ (a146_0 : Option Addr) (n146_0 : Nat) (c146_0 : Nat) (x146_1 : Int),
  e_27 = .returned (.tuple #[.slice a146_0 n146_0 c146_0, .int .i64 x146_1]) ∧
  Calls Try.prog 56 #[.pointer (some ⟨g_2, 0, none⟩), .int .i64 x17] w_41 fun e_28 w_42 => KeepG [g_4, g] w_41 w_42 ∧
  ∃ (b151 : Bool),
  e_28 = .returned (.bool b151) ∧
  br (!b151) (
    br (decide (x134_1 ≠ 7)) (
      K (.bool false) w_42
    ) (
      br (decide (x140_1 ≠ 7)) (
        K (.bool false) w_42
      ) (
        br (decide (x146_1 ≠ 7)) (
          K (.bool false) w_42
        ) (
          br (!((decide (x134_0_0 = 0)) && ((decide (x134_0_1 = 0)) && ((decide (x134_0_2 = 0)) && ((decide (x134_0_3 = 0)) && ((decide (b134_0_4 = false)) && true)))))) (
            K (.bool false) w_42
          ) (
            br (decide (((n140_0 : Nat) : Int) ≠ 0)) (
              K (.bool false) w_42
            ) (
              br (decide (((n146_0 : Nat) : Int) ≠ 0)) (
                K (.bool false) w_42
              ) (
                I_3 (IntKind.i64.wrap (x16 + 1)) w_42 ∧ μ_3 (IntKind.i64.wrap (x16 + 1)) w_42 < μ_3 x16 w_35
              )
            )
          )
        )
      )
    )
  ) (
    (0 : Int) ≤ IntKind.i64.wrap (x17 - 1) ∧ IntKind.i64.wrap (x17 - 1) < ((32 : Nat) : Int) ∧
    ∃ (x184_0 : Int) (x184_1 : Int) (x184_2 : Int) (b184_3 : Bool),
    cellsAt w_42 g_2 (0 + (IntKind.i64.wrap (x17 - 1)).toNat * 4) [.int .i64 x184_0, .int .i64 x184_1, .int .i64 x184_2, .bool b184_3] ∧
    newO w_42 (.cells #[.int .i64 0, .int .i64 0, .int .i64 0, .bool false] 97) fun g_5 w_43 =>
    ∀ w_44 : World, BoxSt g_5 w_43 w_44 →
    br (decide (x134_1 ≠ 0)) (
      K (.bool false) w_44
    ) (
      br (decide (x140_1 ≠ 0)) (
        K (.bool false) w_44
      ) (
        br (decide (x146_1 ≠ 0)) (
          K (.bool false) w_44
        ) (
          br (!((decide (x134_0_0 = x17)) && ((decide (x134_0_1 = x184_0)) && ((decide (x134_0_2 = x184_1)) && ((decide (x134_0_3 = x184_2)) && ((decide (b134_0_4 = b184_3)) && true)))))) (
            K (.bool false) w_44
          ) (
            Calls Try.prog 57 #[.pointer (some ⟨g_2, 0, none⟩), .int .i64 x17] w_44 fun e_29 w_45 => KeepG [g_5, g_4, g] w_44 w_45 ∧
            ∃ (a213 : Option Addr) (n213 : Nat) (c213 : Nat),
            e_29 = .returned (.slice a213 n213 c213) ∧
            Calls Try.prog 39 #[.slice a140_0 n140_0 c140_0, .slice a213 n213 c213] w_45 fun e_30 w_46 => KeepG [g_5, g_4, g] w_45 w_46 ∧
            ∃ (b214 : Bool),
            e_30 = .returned (.bool b214) ∧
            br (!b214) (
              K (.bool false) w_46
            ) (
              Calls Try.prog 58 #[.pointer (some ⟨g_2, 0, none⟩), .int .i64 x17] w_46 fun e_31 w_47 => KeepG [g_5, g_4, g] w_46 w_47 ∧
              ∃ (a221 : Option Addr) (n221 : Nat) (c221 : Nat),
              e_31 = .returned (.slice a221 n221 c221) ∧
              Calls Try.prog 39 #[.slice a146_0 n146_0 c146_0, .slice a221 n221 c221] w_47 fun e_32 w_48 => KeepG [g_5, g_4, g] w_47 w_48 ∧
              ∃ (b222 : Bool),
              e_32 = .returned (.bool b222) ∧
              br (!b222) (
                K (.bool false) w_48
              ) (
                I_3 (IntKind.i64.wrap (x16 + 1)) w_48 ∧ μ_3 (IntKind.i64.wrap (x16 + 1)) w_48 < μ_3 x16 w_35
              )
            )
          )
        )
      )
    )
  )
def lacts_k2 (K : Value → World → Prop) (x1 : Int) (g : Nat) (p86 : Option Addr) (g_2 : Nat) (w_27 : World) : Prop :=
  ∃ (I_2 : Option Addr → Nat → Nat → Int → World → Prop) (μ_2 : Option Addr → Nat → Nat → Int → World → Nat),
  I_2 none 0 0 1 w_27 ∧
  ∀ (a14 : Option Addr) (n14 : Nat) (c14 : Nat) (x15 : Int) (w_28 : World), I_2 a14 n14 c14 x15 w_28 →
  br (decide (x15 ≤ 32)) (
    Calls Try.prog 56 #[.pointer (some ⟨g_2, 0, none⟩), .int .i64 x15] w_28 fun e_22 w_29 => KeepG [g] w_28 w_29 ∧
    ∃ (b113 : Bool),
    e_22 = .returned (.bool b113) ∧
    br b113 (
      newO w_29 (.cells #[.int .i64 x15] 3) fun g_3 w_30 =>
      appO Try.prog [g] w_30 3 1 8 23 a14 n14 c14 (.slice (some ⟨g_3, 0, none⟩) 1 1) fun m117 a117 c117 w_31 =>
      I_2 a117 (n14 + m117) c117 (IntKind.i64.wrap (x15 + 1)) w_31 ∧ μ_2 a117 (n14 + m117) c117 (IntKind.i64.wrap (x15 + 1)) w_31 < μ_2 a14 n14 c14 x15 w_28
    ) (
      I_2 a14 n14 c14 (IntKind.i64.wrap (x15 + 1)) w_29 ∧ μ_2 a14 n14 c14 (IntKind.i64.wrap (x15 + 1)) w_29 < μ_2 a14 n14 c14 x15 w_28
    )
  ) (
    Calls Try.prog 48 #[.pointer p86] w_28 fun e_23 w_33 => KeepG [g] w_28 w_33 ∧
    ∃ (a119 : Option Addr) (n119 : Nat) (c119 : Nat),
    e_23 = .returned (.slice a119 n119 c119) ∧
    Calls Try.prog 39 #[.slice a119 n119 c119, .slice a14 n14 c14] w_33 fun e_24 w_34 => KeepG [g] w_33 w_34 ∧
    ∃ (b121 : Bool),
    e_24 = .returned (.bool b121) ∧
    br (!b121) (
      K (.bool false) w_34
    ) (
      ∃ (I_3 : Int → World → Prop) (μ_3 : Int → World → Nat),
      I_3 0 w_34 ∧
      ∀ (x16 : Int) (w_35 : World), I_3 x16 w_35 →
      br (decide (x16 ≤ 34)) (
        br (decide (x16 = 34)) (
          lacts_k1 K I_3 μ_3 g p86 g_2 x16 w_35 x1 w_35
        ) (
          lacts_k1 K I_3 μ_3 g p86 g_2 x16 w_35 x16 w_35
        )
      ) (
        K (.bool true) w_35
      )
    )
  )
def lacts_vc (a0 : Option Addr) (n0 : Nat) (c0 : Nat) (x1 : Int) (w : World) (K : Value → World → Prop) : Prop :=
  Calls Try.prog 51 #[] w fun e w_2 => KeepG [] w w_2 ∧
  ∃ (p26 : Option Addr),
  e = .returned (.pointer p26) ∧
  Calls Try.prog 49 #[.pointer p26, .int .i64 1] w_2 fun e_2 w_3 => KeepG [] w_2 w_3 ∧
  ∃ (x27_0_0 : Int) (x27_0_1 : Int) (x27_0_2 : Int) (x27_0_3 : Int) (b27_0_4 : Bool) (x27_1 : Int),
  e_2 = .returned (.tuple #[.agg #[.int .i64 x27_0_0, .int .i64 x27_0_1, .int .i64 x27_0_2, .int .i64 x27_0_3, .bool b27_0_4], .int .i64 x27_1]) ∧
  newO w_3 (.cells #[.int .i64 0, .int .i64 0, .int .i64 0, .int .i64 0, .bool false] 88) fun g w_4 =>
  ∀ w_5 : World, BoxSt g w_4 w_5 →
  Calls Try.prog 51 #[] w_5 fun e_3 w_6 => KeepG [g] w_5 w_6 ∧
  ∃ (p31 : Option Addr),
  e_3 = .returned (.pointer p31) ∧
  Calls Try.prog 52 #[.pointer p31, .int .i64 1] w_6 fun e_4 w_7 => KeepG [g] w_6 w_7 ∧
  ∃ (a32_0 : Option Addr) (n32_0 : Nat) (c32_0 : Nat) (x32_1 : Int),
  e_4 = .returned (.tuple #[.slice a32_0 n32_0 c32_0, .int .i64 x32_1]) ∧
  Calls Try.prog 51 #[] w_7 fun e_5 w_8 => KeepG [g] w_7 w_8 ∧
  ∃ (p36 : Option Addr),
  e_5 = .returned (.pointer p36) ∧
  Calls Try.prog 53 #[.pointer p36, .int .i64 1] w_8 fun e_6 w_9 => KeepG [g] w_8 w_9 ∧
  ∃ (a37_0 : Option Addr) (n37_0 : Nat) (c37_0 : Nat) (x37_1 : Int),
  e_6 = .returned (.tuple #[.slice a37_0 n37_0 c37_0, .int .i64 x37_1]) ∧
  Calls Try.prog 44 #[] w_9 fun e_7 w_10 => KeepG [g] w_9 w_10 ∧
  ∃ (b40 : Bool),
  e_7 = .returned (.bool b40) ∧
  br (!b40) (
    K (.bool false) w_10
  ) (
    Calls Try.prog 51 #[] w_10 fun e_8 w_11 => KeepG [g] w_10 w_11 ∧
    ∃ (p43 : Option Addr),
    e_8 = .returned (.pointer p43) ∧
    Calls Try.prog 45 #[.pointer p43, .int .i64 1, .int .i64 0, .int .i64 1, .int .i64 0] w_11 fun e_9 w_12 => KeepG [g] w_11 w_12 ∧
    ∃ (x44 : Int),
    e_9 = .returned (.int .i64 x44) ∧
    br (decide (x44 ≠ 1)) (
      K (.bool false) w_12
    ) (
      Calls Try.prog 51 #[] w_12 fun e_10 w_13 => KeepG [g] w_12 w_13 ∧
      ∃ (p48 : Option Addr),
      e_10 = .returned (.pointer p48) ∧
      Calls Try.prog 46 #[.pointer p48, .int .i64 1, .int .i64 2] w_13 fun e_11 w_14 => KeepG [g] w_13 w_14 ∧
      ∃ (x49 : Int),
      e_11 = .returned (.int .i64 x49) ∧
      br (decide (x49 ≠ 1)) (
        K (.bool false) w_14
      ) (
        Calls Try.prog 51 #[] w_14 fun e_12 w_15 => KeepG [g] w_14 w_15 ∧
        ∃ (p53 : Option Addr),
        e_12 = .returned (.pointer p53) ∧
        Calls Try.prog 47 #[.pointer p53, .int .i64 1] w_15 fun e_13 w_16 => KeepG [g] w_15 w_16 ∧
        ∃ (x54 : Int),
        e_13 = .returned (.int .i64 x54) ∧
        br (decide (x54 ≠ 1)) (
          K (.bool false) w_16
        ) (
          Calls Try.prog 51 #[] w_16 fun e_14 w_17 => KeepG [g] w_16 w_17 ∧
          ∃ (p58 : Option Addr),
          e_14 = .returned (.pointer p58) ∧
          Calls Try.prog 54 #[.pointer p58, .int .i64 1, .int .i64 1] w_17 fun e_15 w_18 => KeepG [g] w_17 w_18 ∧
          ∃ (x59 : Int),
          e_15 = .returned (.int .i64 x59) ∧
          br (decide (x59 ≠ 1)) (
            K (.bool false) w_18
          ) (
            Calls Try.prog 51 #[] w_18 fun e_16 w_19 => KeepG [g] w_18 w_19 ∧
            ∃ (p63 : Option Addr),
            e_16 = .returned (.pointer p63) ∧
            Calls Try.prog 50 #[.pointer p63, .agg #[.int .i64 0, .int .i64 0, .int .i64 0, .int .i64 0, .bool false]] w_19 fun e_17 w_20 => KeepG [g] w_19 w_20 ∧
            ∃ (x65 : Int),
            e_17 = .returned (.int .i64 x65) ∧
            br (decide (x65 ≠ 1)) (
              K (.bool false) w_20
            ) (
              br (decide (x27_1 ≠ 1)) (
                K (.bool false) w_20
              ) (
                br (decide (x32_1 ≠ 1)) (
                  K (.bool false) w_20
                ) (
                  br (decide (x37_1 ≠ 1)) (
                    K (.bool false) w_20
                  ) (
                    Calls Try.prog 51 #[] w_20 fun e_18 w_21 => KeepG [g] w_20 w_21 ∧
                    ∃ (p81 : Option Addr),
                    e_18 = .returned (.pointer p81) ∧
                    Calls Try.prog 48 #[.pointer p81] w_21 fun e_19 w_22 => KeepG [g] w_21 w_22 ∧
                    ∃ (a82 : Option Addr) (n82 : Nat) (c82 : Nat),
                    e_19 = .returned (.slice a82 n82 c82) ∧
                    br (decide (((n82 : Nat) : Int) ≠ 0)) (
                      K (.bool false) w_22
                    ) (
                      Calls Try.prog 43 #[] w_22 fun e_20 w_23 => KeepG [g] w_22 w_23 ∧
                      ∃ (p86 : Option Addr),
                      e_20 = .returned (.pointer p86) ∧
                      newO w_23 (.cells #[.int .i64 0, .int .i64 0, .int .i64 0, .bool false, .int .i64 0, .int .i64 0, .int .i64 0, .bool false, .int .i64 0, .int .i64 0, .int .i64 0, .bool false, .int .i64 0, .int .i64 0, .int .i64 0, .bool false, .int .i64 0, .int .i64 0, .int .i64 0, .bool false, .int .i64 0, .int .i64 0, .int .i64 0, .bool false, .int .i64 0, .int .i64 0, .int .i64 0, .bool false, .int .i64 0, .int .i64 0, .int .i64 0, .bool false, .int .i64 0, .int .i64 0, .int .i64 0, .bool false, .int .i64 0, .int .i64 0, .int .i64 0, .bool false, .int .i64 0, .int .i64 0, .int .i64 0, .bool false, .int .i64 0, .int .i64 0, .int .i64 0, .bool false, .int .i64 0, .int .i64 0, .int .i64 0, .bool false, .int .i64 0, .int .i64 0, .int .i64 0, .bool false, .int .i64 0, .int .i64 0, .int .i64 0, .bool false, .int .i64 0, .int .i64 0, .int .i64 0, .bool false, .int .i64 0, .int .i64 0, .int .i64 0, .bool false, .int .i64 0, .int .i64 0, .int .i64 0, .bool false, .int .i64 0, .int .i64 0, .int .i64 0, .bool false, .int .i64 0, .int .i64 0, .int .i64 0, .bool false, .int .i64 0, .int .i64 0, .int .i64 0, .bool false, .int .i64 0, .int .i64 0, .int .i64 0, .bool false, .int .i64 0, .int .i64 0, .int .i64 0, .bool false, .int .i64 0, .int .i64 0, .int .i64 0, .bool false, .int .i64 0, .int .i64 0, .int .i64 0, .bool false, .int .i64 0, .int .i64 0, .int .i64 0, .bool false, .int .i64 0, .int .i64 0, .int .i64 0, .bool false, .int .i64 0, .int .i64 0, .int .i64 0, .bool false, .int .i64 0, .int .i64 0, .int .i64 0, .bool false, .int .i64 0, .int .i64 0, .int .i64 0, .bool false, .int .i64 0, .int .i64 0, .int .i64 0, .bool false, .int .i64 0, .int .i64 0, .int .i64 0, .bool false] 100) fun g_2 w_24 =>
                      ∃ (I : Int → World → Prop) (μ : Int → World → Nat),
                      I 0 w_24 ∧
                      ∀ (x13 : Int) (w_25 : World), I x13 w_25 →
                      br (decide (x13 < ((n0 : Nat) : Int))) (
                        br (decide (x13 < 60)) (
                          withP a0 fun g101 o101 =>
                          (0 : Int) ≤ x13 ∧ x13 < (((n0 : Nat) : Int) : Int) ∧
                          ∃ (x102_0 : Int) (x102_1 : Int) (x102_2 : Int) (x102_3 : Int) (x102_4 : Int),
                          cellsAt w_25 g101 (o101 + x13.toNat * 5) [.int .i64 x102_0, .int .i64 x102_1, .int .i64 x102_2, .int .i64 x102_3, .int .i64 x102_4] ∧
                          Calls Try.prog 55 #[.agg #[.int .i64 x102_0, .int .i64 x102_1, .int .i64 x102_2, .int .i64 x102_3, .int .i64 x102_4], .pointer p86, .pointer (some ⟨g_2, 0, none⟩)] w_25 fun e_21 w_26 => KeepG [g] w_25 w_26 ∧
                          ∃ (b105 : Bool),
                          e_21 = .returned (.bool b105) ∧
                          br (!b105) (
                            K (.bool false) w_26
                          ) (
                            I (IntKind.i64.wrap (x13 + 1)) w_26 ∧ μ (IntKind.i64.wrap (x13 + 1)) w_26 < μ x13 w_25
                          )
                        ) (
                          lacts_k2 K x1 g p86 g_2 w_25
                        )
                      ) (
                        lacts_k2 K x1 g p86 g_2 w_25
                      )
                    )
                  )
                )
              )
            )
          )
        )
      )
    )
  )
def lacts_notes : Notes := ⟨[], [(8, ⟨[(13, .lf (.int .i64))], [], [89, 90, 91, 92, 93, 94, 95, 96, 99, 100, 101, 102, 103, 104, 105, 106, 4, 97, 98, 13], []⟩), (14, ⟨[(14, .lf (.slice)), (15, .lf (.int .i64))], [], [107, 108, 111, 112, 113, 114, 115, 116, 117, 14, 109, 110, 15], []⟩), (21, ⟨[(16, .lf (.int .i64))], [], [123, 124, 127, 17, 128, 129, 130, 132, 133, 134, 131, 135, 136, 18, 19, 138, 139, 140, 137, 141, 142, 20, 21, 144, 145, 146, 143, 147, 148, 22, 23, 149, 150, 151, 152, 153, 154, 155, 156, 157, 158, 159, 160, 161, 162, 163, 164, 165, 166, 167, 168, 169, 170, 171, 172, 173, 174, 175, 176, 177, 4, 178, 179, 180, 181, 182, 183, 184, 24, 185, 186, 187, 188, 189, 190, 191, 192, 193, 194, 195, 196, 197, 198, 199, 200, 201, 202, 203, 204, 205, 206, 207, 208, 209, 210, 211, 212, 213, 214, 215, 216, 217, 218, 219, 220, 221, 222, 223, 224, 125, 126, 16], [18, 24]⟩)], []⟩
theorem lacts_calls (a0 : Option Addr) (n0 : Nat) (c0 : Nat) (x1 : Int) (w : World) (K : Value → World → Prop) (h : lacts_vc a0 n0 c0 x1 w K) : Calls Try.prog 10 #[.slice a0 n0 c0, .int .i64 x1] w fun e w' => ∃ v, e = .returned v ∧ K v w' :=
  calls_of_fvc envOk Try.func10 lacts_notes [5, 18, 24] [.slice a0 n0 c0, .int .i64 x1] w K (use_vc h (by as_aux_lemma => kernel_rfl))
/-- purser/purserlaw13.TreePaths -/
def lpaths_k1 (K : Value → World → Prop) (p20 : Option Addr) (b4_3 : Bool) (w_13 : World) : Prop :=
  Calls Try.prog 48 #[.pointer p20] w_13 fun e_8 w_14 => KeepG [] w_13 w_14 ∧
  ∃ (a88 : Option Addr) (n88 : Nat) (c88 : Nat),
  e_8 = .returned (.slice a88 n88 c88) ∧
  ∃ (I_2 : Int → World → Prop) (μ_2 : Int → World → Nat),
  I_2 0 w_14 ∧
  ∀ (x8 : Int) (w_15 : World), I_2 x8 w_15 →
  br (decide (x8 < ((n88 : Nat) : Int))) (
    withP a88 fun g99 o99 =>
    (0 : Int) ≤ x8 ∧ x8 < (((n88 : Nat) : Int) : Int) ∧
    ∃ (x100 : Int), w_15.cell? ⟨g99, o99 + x8.toNat * 1, none⟩ = some (.int .i64 x100) ∧
    Calls Try.prog 49 #[.pointer p20, .int .i64 x100] w_15 fun e_9 w_16 => KeepG [] w_15 w_16 ∧
    ∃ (x101_0_0 : Int) (x101_0_1 : Int) (x101_0_2 : Int) (x101_0_3 : Int) (b101_0_4 : Bool) (x101_1 : Int),
    e_9 = .returned (.tuple #[.agg #[.int .i64 x101_0_0, .int .i64 x101_0_1, .int .i64 x101_0_2, .int .i64 x101_0_3, .bool b101_0_4], .int .i64 x101_1]) ∧
    newO w_16 (.cells #[.int .i64 0, .int .i64 0, .int .i64 0, .int .i64 0, .bool false] 88) fun g_3 w_17 =>
    ∀ w_18 : World, BoxSt g_3 w_17 w_18 →
    withP a88 fun g108 o108 =>
    (0 : Int) ≤ x8 ∧ x8 < (((n88 : Nat) : Int) : Int) ∧
    ∃ (x109 : Int), w_18.cell? ⟨g108, o108 + x8.toNat * 1, none⟩ = some (.int .i64 x109) ∧
    Calls Try.prog 52 #[.pointer p20, .int .i64 x109] w_18 fun e_10 w_19 => KeepG [g_3] w_18 w_19 ∧
    ∃ (a110_0 : Option Addr) (n110_0 : Nat) (c110_0 : Nat) (x110_1 : Int),
    e_10 = .returned (.tuple #[.slice a110_0 n110_0 c110_0, .int .i64 x110_1]) ∧
    drewO w_19 fun w_20 =>
    br (decide (x101_1 ≠ 0)) (
      K (.bool false) w_20
    ) (
      br (decide (x110_1 ≠ 0)) (
        K (.bool false) w_20
      ) (
        br (decide (((n110_0 : Nat) : Int) ≠ x101_0_2)) (
          K (.bool false) w_20
        ) (
          withP a110_0 fun g131 o131 =>
          (0 : Int) ≤ IntKind.i64.wrap (((n110_0 : Nat) : Int) - 1) ∧ IntKind.i64.wrap (((n110_0 : Nat) : Int) - 1) < (((n110_0 : Nat) : Int) : Int) ∧
          ∃ (x132 : Int), w_20.cell? ⟨g131, o131 + (IntKind.i64.wrap (((n110_0 : Nat) : Int) - 1)).toNat * 1, none⟩ = some (.int .i64 x132) ∧
          withP a88 fun g135 o135 =>
          (0 : Int) ≤ x8 ∧ x8 < (((n88 : Nat) : Int) : Int) ∧
          ∃ (x136 : Int), w_20.cell? ⟨g135, o135 + x8.toNat * 1, none⟩ = some (.int .i64 x136) ∧
          br (decide (x132 ≠ x136)) (
            K (.bool false) w_20
          ) (
            ∃ (I_3 : Int → World → Prop) (μ_3 : Int → World → Nat),
            I_3 0 w_20 ∧
            ∀ (x13 : Int) (w_22 : World), I_3 x13 w_22 →
            br (decide (x13 < ((n110_0 : Nat) : Int))) (
              withP a110_0 fun g149 o149 =>
              (0 : Int) ≤ x13 ∧ x13 < (((n110_0 : Nat) : Int) : Int) ∧
              ∃ (x150 : Int), w_22.cell? ⟨g149, o149 + x13.toNat * 1, none⟩ = some (.int .i64 x150) ∧
              Calls Try.prog 49 #[.pointer p20, .int .i64 x150] w_22 fun e_11 w_23 => KeepG [g_3] w_22 w_23 ∧
              ∃ (x151_0_0 : Int) (x151_0_1 : Int) (x151_0_2 : Int) (x151_0_3 : Int) (b151_0_4 : Bool) (x151_1 : Int),
              e_11 = .returned (.tuple #[.agg #[.int .i64 x151_0_0, .int .i64 x151_0_1, .int .i64 x151_0_2, .int .i64 x151_0_3, .bool b151_0_4], .int .i64 x151_1]) ∧
              newO w_23 (.cells #[.int .i64 0, .int .i64 0, .int .i64 0, .int .i64 0, .bool false] 88) fun g_4 w_24 =>
              ∀ w_25 : World, BoxSt g_4 w_24 w_25 →
              withP a110_0 fun g158 o158 =>
              (0 : Int) ≤ x13 ∧ x13 < (((n110_0 : Nat) : Int) : Int) ∧
              ∃ (x159 : Int), w_25.cell? ⟨g158, o158 + x13.toNat * 1, none⟩ = some (.int .i64 x159) ∧
              Calls Try.prog 53 #[.pointer p20, .int .i64 x159] w_25 fun e_12 w_26 => KeepG [g_4, g_3] w_25 w_26 ∧
              ∃ (a160_0 : Option Addr) (n160_0 : Nat) (c160_0 : Nat) (x160_1 : Int),
              e_12 = .returned (.tuple #[.slice a160_0 n160_0 c160_0, .int .i64 x160_1]) ∧
              ∃ (I_4 : Bool → Int → World → Prop) (μ_4 : Bool → Int → World → Nat),
              I_4 false 0 w_26 ∧
              ∀ (b18 : Bool) (x19 : Int) (w_27 : World), I_4 b18 x19 w_27 →
              br (decide (x19 < ((n160_0 : Nat) : Int))) (
                drewO w_27 fun w_28 =>
                br b18 (
                  I_4 true (IntKind.i64.wrap (x19 + 1)) w_28 ∧ μ_4 true (IntKind.i64.wrap (x19 + 1)) w_28 < μ_4 b18 x19 w_27
                ) (
                  withP a160_0 fun g173 o173 =>
                  (0 : Int) ≤ x19 ∧ x19 < (((n160_0 : Nat) : Int) : Int) ∧
                  ∃ (x174 : Int), w_28.cell? ⟨g173, o173 + x19.toNat * 1, none⟩ = some (.int .i64 x174) ∧
                  withP a88 fun g177 o177 =>
                  (0 : Int) ≤ x8 ∧ x8 < (((n88 : Nat) : Int) : Int) ∧
                  ∃ (x178 : Int), w_28.cell? ⟨g177, o177 + x8.toNat * 1, none⟩ = some (.int .i64 x178) ∧
                  I_4 (decide (x174 = x178)) (IntKind.i64.wrap (x19 + 1)) w_28 ∧ μ_4 (decide (x174 = x178)) (IntKind.i64.wrap (x19 + 1)) w_28 < μ_4 b18 x19 w_27
                )
              ) (
                br (decide (x151_1 ≠ 0)) (
                  K (.bool false) w_27
                ) (
                  br (decide (x160_1 ≠ 0)) (
                    K (.bool false) w_27
                  ) (
                    br (decide (x151_0_2 ≠ (IntKind.i64.wrap (x13 + 1)))) (
                      K (.bool false) w_27
                    ) (
                      br (!b18) (
                        K (.bool false) w_27
                      ) (
                        br (!b4_3) (
                          br b151_0_4 (
                            br (!b101_0_4) (
                              K (.bool false) w_27
                            ) (
                              I_3 (IntKind.i64.wrap (x13 + 1)) w_27 ∧ μ_3 (IntKind.i64.wrap (x13 + 1)) w_27 < μ_3 x13 w_22
                            )
                          ) (
                            I_3 (IntKind.i64.wrap (x13 + 1)) w_27 ∧ μ_3 (IntKind.i64.wrap (x13 + 1)) w_27 < μ_3 x13 w_22
                          )
                        ) (
                          I_3 (IntKind.i64.wrap (x13 + 1)) w_27 ∧ μ_3 (IntKind.i64.wrap (x13 + 1)) w_27 < μ_3 x13 w_22
                        )
                      )
                    )
                  )
                )
              )
            ) (
              I_2 (IntKind.i64.wrap (x8 + 1)) w_22 ∧ μ_2 (IntKind.i64.wrap (x8 + 1)) w_22 < μ_2 x8 w_15
            )
          )
        )
      )
    )
  ) (
    K (.bool true) w_15
  )
def lpaths_vc (a0 : Option Addr) (n0 : Nat) (c0 : Nat) (w : World) (K : Value → World → Prop) : Prop :=
  Calls Try.prog 43 #[] w fun e w_2 => KeepG [] w w_2 ∧
  ∃ (p20 : Option Addr),
  e = .returned (.pointer p20) ∧
  Calls Try.prog 44 #[] w_2 fun e_2 w_3 => KeepG [] w_2 w_3 ∧
  ∃ (b21 : Bool),
  e_2 = .returned (.bool b21) ∧
  br (!b21) (
    K (.bool false) w_3
  ) (
    ∃ (I : Bool → Int → World → Prop) (μ : Bool → Int → World → Nat),
    I false 0 w_3 ∧
    ∀ (b4 : Bool) (x5 : Int) (w_4 : World), I b4 x5 w_4 →
    br (decide (x5 < ((n0 : Nat) : Int))) (
      br (decide (x5 < 60)) (
        withP a0 fun g35 o35 =>
        (0 : Int) ≤ x5 ∧ x5 < (((n0 : Nat) : Int) : Int) ∧
        ∃ (x36_0 : Int) (x36_1 : Int) (x36_2 : Int) (x36_3 : Int) (x36_4 : Int),
        cellsAt w_4 g35 (o35 + x5.toNat * 5) [.int .i64 x36_0, .int .i64 x36_1, .int .i64 x36_2, .int .i64 x36_3, .int .i64 x36_4] ∧
        newO w_4 (.cells #[.int .i64 0, .int .i64 0, .int .i64 0, .int .i64 0, .int .i64 0] 102) fun g w_5 =>
        ∀ w_6 : World, BoxSt g w_5 w_6 →
        (5 : Int) ≠ 0 ∧
        br (decide ((IntKind.i64.wrap (Int.tmod (IntKind.u64.wrap x36_0) 5)) = 0)) (
          Calls Try.prog 45 #[.pointer p20, .int .i64 x36_1, .int .i64 x36_2, .int .i64 x36_3, .int .i64 x36_4] w_6 fun e_3 w_7 => KeepG [g] w_6 w_7 ∧
          ∃ (x64 : Int),
          e_3 = .returned (.int .i64 x64) ∧
          I b4 (IntKind.i64.wrap (x5 + 1)) w_7 ∧ μ b4 (IntKind.i64.wrap (x5 + 1)) w_7 < μ b4 x5 w_4
        ) (
          br (decide ((IntKind.i64.wrap (Int.tmod (IntKind.u64.wrap x36_0) 5)) = 1)) (
            Calls Try.prog 46 #[.pointer p20, .int .i64 x36_1, .int .i64 x36_2] w_6 fun e_4 w_9 => KeepG [g] w_6 w_9 ∧
            ∃ (x72 : Int),
            e_4 = .returned (.int .i64 x72) ∧
            I b4 (IntKind.i64.wrap (x5 + 1)) w_9 ∧ μ b4 (IntKind.i64.wrap (x5 + 1)) w_9 < μ b4 x5 w_4
          ) (
            br (decide ((IntKind.i64.wrap (Int.tmod (IntKind.u64.wrap x36_0) 5)) = 2)) (
              Calls Try.prog 47 #[.pointer p20, .int .i64 x36_1] w_6 fun e_5 w_10 => KeepG [g] w_6 w_10 ∧
              ∃ (x78 : Int),
              e_5 = .returned (.int .i64 x78) ∧
              I b4 (IntKind.i64.wrap (x5 + 1)) w_10 ∧ μ b4 (IntKind.i64.wrap (x5 + 1)) w_10 < μ b4 x5 w_4
            ) (
              br (decide ((IntKind.i64.wrap (Int.tmod (IntKind.u64.wrap x36_0) 5)) = 3)) (
                Calls Try.prog 54 #[.pointer p20, .int .i64 x36_1, .int .i64 x36_4] w_6 fun e_6 w_11 => KeepG [g] w_6 w_11 ∧
                ∃ (x86 : Int),
                e_6 = .returned (.int .i64 x86) ∧
                I b4 (IntKind.i64.wrap (x5 + 1)) w_11 ∧ μ b4 (IntKind.i64.wrap (x5 + 1)) w_11 < μ b4 x5 w_4
              ) (
                Calls Try.prog 50 #[.pointer p20, .agg #[.int .i64 x36_1, .int .i64 x36_2, .int .i64 x36_3, .int .i64 x36_4, .bool true]] w_6 fun e_7 w_12 => KeepG [g] w_6 w_12 ∧
                ∃ (x52 : Int),
                e_7 = .returned (.int .i64 x52) ∧
                I true (IntKind.i64.wrap (x5 + 1)) w_12 ∧ μ true (IntKind.i64.wrap (x5 + 1)) w_12 < μ b4 x5 w_4
              )
            )
          )
        )
      ) (
        lpaths_k1 K p20 b4 w_4
      )
    ) (
      lpaths_k1 K p20 b4 w_4
    )
  )
def lpaths_notes : Notes := ⟨[(26, ⟨[0, 1, 3, 7, 15, 31, 63, 127, 255, 127, 639, 2047, 4095, 8191, 16383, 16383, 49151, 114687, 262143, 524287, 16383, 16383, 3162111, 7356415, 16777215, 33554431], [], [0, 1, 2, 3, 4, 5, 6, 7, 8, 9, 10, 11, 12, 13, 14, 15, 16, 17, 18, 19, 20, 21, 22, 23, 24, 25]⟩), (37, ⟨[0, 1, 3, 3, 15, 31, 3, 3, 195, 451, 1023, 2047, 4095], [], [0, 1, 2, 3, 4, 5, 6, 7, 8, 9, 10, 11, 12]⟩)], [(6, ⟨[(4, .lf (.bool)), (5, .lf (.int .i64))], [], [23, 24, 25, 26, 27, 28, 29, 30, 33, 34, 35, 36, 6, 37, 38, 39, 40, 41, 54, 53, 55, 56, 57, 58, 59, 60, 61, 62, 63, 64, 66, 65, 67, 68, 69, 70, 71, 72, 74, 73, 75, 76, 77, 78, 80, 79, 81, 82, 83, 84, 85, 86, 4, 42, 43, 44, 45, 46, 47, 48, 49, 50, 51, 52, 31, 32, 5], [6]⟩), (22, ⟨[(8, .lf (.int .i64))], [], [89, 90, 91, 92, 96, 97, 98, 99, 100, 101, 95, 102, 103, 9, 10, 105, 106, 107, 108, 109, 110, 104, 111, 112, 11, 12, 113, 114, 115, 116, 117, 118, 119, 120, 121, 122, 123, 124, 125, 126, 127, 128, 129, 130, 131, 132, 133, 134, 135, 136, 137, 138, 2, 13, 139, 140, 141, 142, 146, 147, 148, 149, 150, 151, 145, 152, 153, 14, 15, 155, 156, 157, 158, 159, 160, 154, 161, 162, 16, 17, 18, 19, 163, 164, 165, 166, 169, 170, 171, 172, 173, 174, 175, 176, 177, 178, 179, 180, 167, 168, 181, 182, 183, 184, 185, 186, 187, 188, 189, 190, 191, 192, 193, 194, 195, 196, 197, 198, 199, 200, 201, 202, 203, 204, 205, 206, 207, 208, 209, 210, 143, 144, 93, 94, 8], [9, 14]⟩), (29, ⟨[(13, .lf (.int .i64))], [], [139, 140, 141, 142, 146, 147, 148, 149, 150, 151, 145, 152, 153, 14, 15, 155, 156, 157, 158, 159, 160, 154, 161, 162, 16, 17, 18, 19, 163, 164, 165, 166, 169, 170, 171, 172, 173, 174, 175, 176, 177, 178, 179, 180, 167, 168, 181, 182, 183, 184, 185, 186, 187, 188, 189, 190, 191, 192, 193, 194, 195, 196, 197, 198, 199, 200, 201, 202, 203, 204, 205, 206, 207, 208, 209, 210, 2, 143, 144, 13], [14]⟩), (35, ⟨[(18, .lf (.bool)), (19, .lf (.int .i64))], [], [163, 164, 165, 166, 169, 170, 171, 172, 173, 174, 175, 176, 177, 178, 179, 180, 18, 167, 168, 19], []⟩)], []⟩
theorem lpaths_calls (a0 : Option Addr) (n0 : Nat) (c0 : Nat) (w : World) (K : Value → World → Prop) (h : lpaths_vc a0 n0 c0 w K) : Calls Try.prog 11 #[.slice a0 n0 c0] w fun e w' => ∃ v, e = .returned v ∧ K v w' :=
  calls_of_fvc envOk Try.func11 lpaths_notes [6, 9, 14] [.slice a0 n0 c0] w K (use_vc h (by as_aux_lemma => kernel_rfl))
/-- purser/purserlaw13.TreeFull -/
def lfull_k1 (K : Value → World → Prop) (I : Int → World → Prop) (μ : Int → World → Nat) (p23 : Option Addr) (x7 : Int) (w_5 : World) (x9 : Int) (w_6 : World) : Prop :=
  Calls Try.prog 45 #[.pointer p23, .int .i64 x7, .int .i64 x9, .int .i64 (IntKind.i64.wrap (1 + (Int.tmod (IntKind.i64.wrap (x7 - 1)) 3))), .int .i64 x7] w_6 fun e_4 w_7 => KeepG [] w_6 w_7 ∧
  ∃ (x44 : Int),
  e_4 = .returned (.int .i64 x44) ∧
  br (decide ((decide (x44 = 0)) ≠ (decide (x7 ≤ 32)))) (
    K (.bool false) w_7
  ) (
    I (IntKind.i64.wrap (x7 + 1)) w_7 ∧ μ (IntKind.i64.wrap (x7 + 1)) w_7 < μ x7 w_5
  )
def lfull_k2 (K : Value → World → Prop) (p23 : Option Addr) (p24 : Option Addr) (w_14 : World) : Prop :=
  Calls Try.prog 48 #[.pointer p23] w_14 fun e_7 w_15 => KeepG [] w_14 w_15 ∧
  ∃ (a100 : Option Addr) (n100 : Nat) (c100 : Nat),
  e_7 = .returned (.slice a100 n100 c100) ∧
  ∃ (I_4 : Int → World → Prop) (μ_4 : Int → World → Nat),
  I_4 1 w_15 ∧
  ∀ (x14 : Int) (w_16 : World), I_4 x14 w_16 →
  br (decide (x14 ≤ 3)) (
    ∃ (I_5 : Int → World → Prop) (μ_5 : Int → World → Nat),
    I_5 0 w_16 ∧
    ∀ (x15 : Int) (w_17 : World), I_5 x15 w_17 →
    br (decide (x15 < ((n100 : Nat) : Int))) (
      withP a100 fun g115 o115 =>
      (0 : Int) ≤ x15 ∧ x15 < (((n100 : Nat) : Int) : Int) ∧
      ∃ (x116 : Int), w_17.cell? ⟨g115, o115 + x15.toNat * 1, none⟩ = some (.int .i64 x116) ∧
      Calls Try.prog 49 #[.pointer p23, .int .i64 x116] w_17 fun e_8 w_18 => KeepG [] w_17 w_18 ∧
      ∃ (x117_0_0 : Int) (x117_0_1 : Int) (x117_0_2 : Int) (x117_0_3 : Int) (b117_0_4 : Bool) (x117_1 : Int),
      e_8 = .returned (.tuple #[.agg #[.int .i64 x117_0_0, .int .i64 x117_0_1, .int .i64 x117_0_2, .int .i64 x117_0_3, .bool b117_0_4], .int .i64 x117_1]) ∧
      newO w_18 (.cells #[.int .i64 0, .int .i64 0, .int .i64 0, .int .i64 0, .bool false] 88) fun g w_19 =>
      ∀ w_20 : World, BoxSt g w_19 w_20 →
      br (decide (x117_1 ≠ 0)) (
        K (.bool false) w_20
      ) (
        br (decide (x117_0_2 = x14)) (
          Calls Try.prog 50 #[.pointer p24, .agg #[.int .i64 x117_0_0, .int .i64 x117_0_1, .int .i64 x117_0_2, .int .i64 x117_0_3, .bool b117_0_4]] w_20 fun e_9 w_21 => KeepG [g] w_20 w_21 ∧
          ∃ (x130 : Int),
          e_9 = .returned (.int .i64 x130) ∧
          br (decide (x130 ≠ 0)) (
            K (.bool false) w_21
          ) (
            I_5 (IntKind.i64.wrap (x15 + 1)) w_21 ∧ μ_5 (IntKind.i64.wrap (x15 + 1)) w_21 < μ_5 x15 w_17
          )
        ) (
          I_5 (IntKind.i64.wrap (x15 + 1)) w_20 ∧ μ_5 (IntKind.i64.wrap (x15 + 1)) w_20 < μ_5 x15 w_17
        )
      )
    ) (
      I_4 (IntKind.i64.wrap (x14 + 1)) w_17 ∧ μ_4 (IntKind.i64.wrap (x14 + 1)) w_17 < μ_4 x14 w_16
    )
  ) (
    ∃ (I_6 : Int → World → Prop) (μ_6 : Int → World → Nat),
    I_6 0 w_16 ∧
    ∀ (x18 : Int) (w_23 : World), I_6 x18 w_23 →
    br (decide (x18 < ((n100 : Nat) : Int))) (
      withP a100 fun g144 o144 =>
      (0 : Int) ≤ x18 ∧ x18 < (((n100 : Nat) : Int) : Int) ∧
      ∃ (x145 : Int), w_23.cell? ⟨g144, o144 + x18.toNat * 1, none⟩ = some (.int .i64 x145) ∧
      Calls Try.prog 49 #[.pointer p23, .int .i64 x145] w_23 fun e_10 w_24 => KeepG [] w_23 w_24 ∧
      ∃ (x146_0_0 : Int) (x146_0_1 : Int) (x146_0_2 : Int) (x146_0_3 : Int) (b146_0_4 : Bool) (x146_1 : Int),
      e_10 = .returned (.tuple #[.agg #[.int .i64 x146_0_0, .int .i64 x146_0_1, .int .i64 x146_0_2, .int .i64 x146_0_3, .bool b146_0_4], .int .i64 x146_1]) ∧
      newO w_24 (.cells #[.int .i64 0, .int .i64 0, .int .i64 0, .int .i64 0, .bool false] 88) fun g_3 w_25 =>
      ∀ w_26 : World, BoxSt g_3 w_25 w_26 →
      withP a100 fun g153 o153 =>
      (0 : Int) ≤ x18 ∧ x18 < (((n100 : Nat) : Int) : Int) ∧
      ∃ (x154 : Int), w_26.cell? ⟨g153, o153 + x18.toNat * 1, none⟩ = some (.int .i64 x154) ∧
      Calls Try.prog 49 #[.pointer p24, .int .i64 x154] w_26 fun e_11 w_27 => KeepG [g_3] w_26 w_27 ∧
      ∃ (x155_0_0 : Int) (x155_0_1 : Int) (x155_0_2 : Int) (x155_0_3 : Int) (b155_0_4 : Bool) (x155_1 : Int),
      e_11 = .returned (.tuple #[.agg #[.int .i64 x155_0_0, .int .i64 x155_0_1, .int .i64 x155_0_2, .int .i64 x155_0_3, .bool b155_0_4], .int .i64 x155_1]) ∧
      newO w_27 (.cells #[.int .i64 0, .int .i64 0, .int .i64 0, .int .i64 0, .bool false] 88) fun g_4 w_28 =>
      ∀ w_29 : World, BoxSt g_4 w_28 w_29 →
      br (decide (x146_1 ≠ 0)) (
        K (.bool false) w_29
      ) (
        br (decide (x155_1 ≠ 0)) (
          K (.bool false) w_29
        ) (
          br (!((decide (x146_0_0 = x155_0_0)) && ((decide (x146_0_1 = x155_0_1)) && ((decide (x146_0_2 = x155_0_2)) && ((decide (x146_0_3 = x155_0_3)) && ((decide (b146_0_4 = b155_0_4)) && true)))))) (
            K (.bool false) w_29
          ) (
            I_6 (IntKind.i64.wrap (x18 + 1)) w_29 ∧ μ_6 (IntKind.i64.wrap (x18 + 1)) w_29 < μ_6 x18 w_23
          )
        )
      )
    ) (
      K (.bool (decide (((n100 : Nat) : Int) = 32))) w_23
    )
  )
def lfull_k3 (K : Value → World → Prop) (a1 : Option Addr) (n1 : Nat) (p23 : Option Addr) (p24 : Option Addr) (w_11 : World) : Prop :=
  ∃ (I_3 : Int → World → Prop) (μ_3 : Int → World → Nat),
  I_3 0 w_11 ∧
  ∀ (x12 : Int) (w_12 : World), I_3 x12 w_12 →
  br (decide (x12 < ((n1 : Nat) : Int))) (
    br (decide (x12 < 20)) (
      withP a1 fun g92 o92 =>
      (0 : Int) ≤ x12 ∧ x12 < (((n1 : Nat) : Int) : Int) ∧
      ∃ (x93 : Int), w_12.cell? ⟨g92, o92 + x12.toNat * 1, none⟩ = some (.int .i64 x93) ∧
      (32 : Int) ≠ 0 ∧
      Calls Try.prog 47 #[.pointer p23, .int .i64 (IntKind.i64.wrap (1 + (IntKind.i64.wrap (Int.tmod (IntKind.u64.wrap x93) 32))))] w_12 fun e_6 w_13 => KeepG [] w_12 w_13 ∧
      ∃ (x98 : Int),
      e_6 = .returned (.int .i64 x98) ∧
      I_3 (IntKind.i64.wrap (x12 + 1)) w_13 ∧ μ_3 (IntKind.i64.wrap (x12 + 1)) w_13 < μ_3 x12 w_12
    ) (
      lfull_k2 K p23 p24 w_12
    )
  ) (
    lfull_k2 K p23 p24 w_12
  )
def lfull_vc (a0 : Option Addr) (n0 : Nat) (c0 : Nat) (a1 : Option Addr) (n1 : Nat) (c1 : Nat) (w : World) (K : Value → World → Prop) : Prop :=
  Calls Try.prog 43 #[] w fun e w_2 => KeepG [] w w_2 ∧
  ∃ (p23 : Option Addr),
  e = .returned (.pointer p23) ∧
  Calls Try.prog 43 #[] w_2 fun e_2 w_3 => KeepG [] w_2 w_3 ∧
  ∃ (p24 : Option Addr),
  e_2 = .returned (.pointer p24) ∧
  Calls Try.prog 44 #[] w_3 fun e_3 w_4 => KeepG [] w_3 w_4 ∧
  ∃ (b25 : Bool),
  e_3 = .returned (.bool b25) ∧
  br (!b25) (
    K (.bool false) w_4
  ) (
    ∃ (I : Int → World → Prop) (μ : Int → World → Nat),
    I 1 w_4 ∧
    ∀ (x7 : Int) (w_5 : World), I x7 w_5 →
    br (decide (x7 ≤ 33)) (
      (3 : Int) ≠ 0 ∧
      br (decide ((IntKind.i64.wrap (1 + (Int.tmod (IntKind.i64.wrap (x7 - 1)) 3))) > 1)) (
        lfull_k1 K I μ p23 x7 w_5 (IntKind.i64.wrap (x7 - 1)) w_5
      ) (
        lfull_k1 K I μ p23 x7 w_5 0 w_5
      )
    ) (
      ∃ (I_2 : Int → World → Prop) (μ_2 : Int → World → Nat),
      I_2 0 w_5 ∧
      ∀ (x11 : Int) (w_8 : World), I_2 x11 w_8 →
      br (decide (x11 < ((n0 : Nat) : Int))) (
        br (decide (x11 < 20)) (
          drewO w_8 fun w_9 =>
          withP a0 fun g63 o63 =>
          (0 : Int) ≤ x11 ∧ x11 < (((n0 : Nat) : Int) : Int) ∧
          ∃ (x64 : Int), w_9.cell? ⟨g63, o63 + x11.toNat * 1, none⟩ = some (.int .i64 x64) ∧
          (32 : Int) ≠ 0 ∧
          withP a0 fun g71 o71 =>
          (0 : Int) ≤ x11 ∧ x11 < (((n0 : Nat) : Int) : Int) ∧
          ∃ (x72 : Int), w_9.cell? ⟨g71, o71 + x11.toNat * 1, none⟩ = some (.int .i64 x72) ∧
          (32 : Int) ≠ 0 ∧
          (32 : Int) ≠ 0 ∧
          Calls Try.prog 46 #[.pointer p23, .int .i64 (IntKind.i64.wrap (1 + (IntKind.i64.wrap (Int.tmod (IntKind.u64.wrap x64) 32)))), .int .i64 (IntKind.i64.wrap (1 + (IntKind.i64.wrap (Int.tmod (IntKind.u64.wrap (Int.tdiv (IntKind.u64.wrap x72) 32)) 32))))] w_9 fun e_5 w_10 => KeepG [] w_9 w_10 ∧
          ∃ (x78 : Int),
          e_5 = .returned (.int .i64 x78) ∧
          I_2 (IntKind.i64.wrap (x11 + 1)) w_10 ∧ μ_2 (IntKind.i64.wrap (x11 + 1)) w_10 < μ_2 x11 w_8
        ) (
          lfull_k3 K a1 n1 p23 p24 w_8
        )
      ) (
        lfull_k3 K a1 n1 p23 p24 w_8
      )
    )
  )
def lfull_notes : Notes := ⟨[(17, ⟨[0, 0, 0, 6, 14, 30, 62, 126, 254, 0, 0, 1536, 3584, 7680, 15872, 32256, 65024, 130560, 262143], [18], [0, 1, 2, 3, 4, 5, 6, 7, 8, 9, 10, 11, 12, 13, 14, 15, 16, 17]⟩)], [(5, ⟨[(7, .lf (.int .i64))], [], [27, 28, 31, 32, 33, 34, 8, 9, 35, 36, 37, 38, 39, 40, 41, 42, 43, 44, 10, 45, 46, 47, 48, 49, 4, 29, 30, 7], []⟩), (15, ⟨[(11, .lf (.int .i64))], [], [50, 51, 52, 53, 54, 55, 56, 57, 60, 61, 62, 63, 64, 65, 66, 67, 68, 69, 70, 71, 72, 73, 74, 75, 76, 77, 78, 58, 59, 11], []⟩), (19, ⟨[(12, .lf (.int .i64))], [], [79, 80, 81, 82, 83, 84, 85, 86, 89, 90, 91, 92, 93, 94, 95, 96, 97, 98, 87, 88, 12], []⟩), (24, ⟨[(14, .lf (.int .i64))], [], [101, 102, 15, 105, 106, 107, 108, 112, 113, 114, 115, 116, 117, 111, 118, 119, 16, 17, 120, 121, 122, 123, 124, 125, 126, 127, 128, 129, 130, 131, 132, 133, 4, 109, 110, 103, 104, 14], [16]⟩), (27, ⟨[(15, .lf (.int .i64))], [], [105, 106, 107, 108, 112, 113, 114, 115, 116, 117, 111, 118, 119, 16, 17, 120, 121, 122, 123, 124, 125, 126, 127, 128, 129, 130, 131, 132, 133, 4, 109, 110, 15], [16]⟩), (33, ⟨[(18, .lf (.int .i64))], [], [134, 135, 136, 137, 141, 142, 143, 144, 145, 146, 140, 147, 148, 19, 20, 150, 151, 152, 153, 154, 155, 149, 156, 157, 21, 22, 158, 159, 160, 161, 162, 163, 164, 165, 166, 167, 168, 4, 138, 139, 18], [19, 21]⟩)], []⟩
theorem lfull_calls (a0 : Option Addr) (n0 : Nat) (c0 : Nat) (a1 : Option Addr) (n1 : Nat) (c1 : Nat) (w : World) (K : Value → World → Prop) (h : lfull_vc a0 n0 c0 a1 n1 c1 w K) : Calls Try.prog 9 #[.slice a0 n0 c0, .slice a1 n1 c1] w fun e w' => ∃ v, e = .returned v ∧ K v w' :=
  calls_of_fvc envOk Try.func9 lfull_notes [16, 19, 21] [.slice a0 n0 c0, .slice a1 n1 c1] w K (use_vc h (by as_aux_lemma => kernel_rfl))
/-- purser/purserlaw13.TreeMoves -/
def lmoves_k1 (K : Value → World → Prop) (x1 : Int) (x2 : Int) (p23 : Option Addr) (w_6 : World) : Prop :=
  Calls Try.prog 49 #[.pointer p23, .int .i64 x1] w_6 fun e_3 w_7 => KeepG [] w_6 w_7 ∧
  ∃ (x47_0_0 : Int) (x47_0_1 : Int) (x47_0_2 : Int) (x47_0_3 : Int) (b47_0_4 : Bool) (x47_1 : Int),
  e_3 = .returned (.tuple #[.agg #[.int .i64 x47_0_0, .int .i64 x47_0_1, .int .i64 x47_0_2, .int .i64 x47_0_3, .bool b47_0_4], .int .i64 x47_1]) ∧
  newO w_7 (.cells #[.int .i64 0, .int .i64 0, .int .i64 0, .int .i64 0, .bool false] 88) fun g_2 w_8 =>
  ∀ w_9 : World, BoxSt g_2 w_8 w_9 →
  Calls Try.prog 53 #[.pointer p23, .int .i64 x1] w_9 fun e_4 w_10 => KeepG [g_2] w_9 w_10 ∧
  ∃ (a53_0 : Option Addr) (n53_0 : Nat) (c53_0 : Nat) (x53_1 : Int),
  e_4 = .returned (.tuple #[.slice a53_0 n53_0 c53_0, .int .i64 x53_1]) ∧
  Calls Try.prog 44 #[] w_10 fun e_5 w_11 => KeepG [g_2] w_10 w_11 ∧
  ∃ (b56 : Bool),
  e_5 = .returned (.bool b56) ∧
  br (!b56) (
    K (.bool false) w_11
  ) (
    br (decide (x47_1 ≠ x53_1)) (
      K (.bool false) w_11
    ) (
      Calls Try.prog 46 #[.pointer p23, .int .i64 x1, .int .i64 x2] w_11 fun e_6 w_12 => KeepG [g_2] w_11 w_12 ∧
      ∃ (x66 : Int),
      e_6 = .returned (.int .i64 x66) ∧
      br (decide (x66 ≠ 0)) (
        K (.bool true) w_12
      ) (
        Calls Try.prog 53 #[.pointer p23, .int .i64 x1] w_12 fun e_7 w_13 => KeepG [g_2] w_12 w_13 ∧
        ∃ (a71_0 : Option Addr) (n71_0 : Nat) (c71_0 : Nat) (x71_1 : Int),
        e_7 = .returned (.tuple #[.slice a71_0 n71_0 c71_0, .int .i64 x71_1]) ∧
        Calls Try.prog 52 #[.pointer p23, .int .i64 x1] w_13 fun e_8 w_14 => KeepG [g_2] w_13 w_14 ∧
        ∃ (a77_0 : Option Addr) (n77_0 : Nat) (c77_0 : Nat) (x77_1 : Int),
        e_8 = .returned (.tuple #[.slice a77_0 n77_0 c77_0, .int .i64 x77_1]) ∧
        br (decide (x47_1 ≠ 0)) (
          K (.bool false) w_14
        ) (
          br (decide (x71_1 ≠ 0)) (
            K (.bool false) w_14
          ) (
            br (decide (x77_1 ≠ 0)) (
              K (.bool false) w_14
            ) (
              Calls Try.prog 39 #[.slice a53_0 n53_0 c53_0, .slice a71_0 n71_0 c71_0] w_14 fun e_9 w_15 => KeepG [g_2] w_14 w_15 ∧
              ∃ (b93 : Bool),
              e_9 = .returned (.bool b93) ∧
              br (!b93) (
                K (.bool false) w_15
              ) (
                br (decide (((n77_0 : Nat) : Int) ≠ x47_0_2)) (
                  K (.bool false) w_15
                ) (
                  br (decide (((n77_0 : Nat) : Int) < 2)) (
                    K (.bool false) w_15
                  ) (
                    withP a77_0 fun g113 o113 =>
                    (0 : Int) ≤ IntKind.i64.wrap (((n77_0 : Nat) : Int) - 2) ∧ IntKind.i64.wrap (((n77_0 : Nat) : Int) - 2) < (((n77_0 : Nat) : Int) : Int) ∧
                    ∃ (x114 : Int), w_15.cell? ⟨g113, o113 + (IntKind.i64.wrap (((n77_0 : Nat) : Int) - 2)).toNat * 1, none⟩ = some (.int .i64 x114) ∧
                    br (decide (x114 ≠ x2)) (
                      K (.bool false) w_15
                    ) (
                      br (decide (x47_0_1 = x2)) (
                        K (.bool false) w_15
                      ) (
                        Calls Try.prog 49 #[.pointer p23, .int .i64 x47_0_1] w_15 fun e_10 w_16 => KeepG [g_2] w_15 w_16 ∧
                        ∃ (x128_0_0 : Int) (x128_0_1 : Int) (x128_0_2 : Int) (x128_0_3 : Int) (b128_0_4 : Bool) (x128_1 : Int),
                        e_10 = .returned (.tuple #[.agg #[.int .i64 x128_0_0, .int .i64 x128_0_1, .int .i64 x128_0_2, .int .i64 x128_0_3, .bool b128_0_4], .int .i64 x128_1]) ∧
                        newO w_16 (.cells #[.int .i64 0, .int .i64 0, .int .i64 0, .int .i64 0, .bool false] 88) fun g_3 w_17 =>
                        ∀ w_18 : World, BoxSt g_3 w_17 w_18 →
                        br (decide (x128_1 ≠ 0)) (
                          K (.bool (decide (x128_1 = 0))) w_18
                        ) (
                          br b128_0_4 (
                            K (.bool (decide (x128_1 = 0))) w_18
                          ) (
                            Calls Try.prog 46 #[.pointer p23, .int .i64 x1, .int .i64 x47_0_1] w_18 fun e_11 w_19 => KeepG [g_3, g_2] w_18 w_19 ∧
                            ∃ (x143 : Int),
                            e_11 = .returned (.int .i64 x143) ∧
                            Calls Try.prog 49 #[.pointer p23, .int .i64 x1] w_19 fun e_12 w_20 => KeepG [g_3, g_2] w_19 w_20 ∧
                            ∃ (x147_0_0 : Int) (x147_0_1 : Int) (x147_0_2 : Int) (x147_0_3 : Int) (b147_0_4 : Bool) (x147_1 : Int),
                            e_12 = .returned (.tuple #[.agg #[.int .i64 x147_0_0, .int .i64 x147_0_1, .int .i64 x147_0_2, .int .i64 x147_0_3, .bool b147_0_4], .int .i64 x147_1]) ∧
                            newO w_20 (.cells #[.int .i64 0, .int .i64 0, .int .i64 0, .int .i64 0, .bool false] 88) fun g_4 w_21 =>
                            ∀ w_22 : World, BoxSt g_4 w_21 w_22 →
                            br (decide (x143 = 0)) (
                              br (decide (x147_1 = 0)) (
                                K (.bool ((decide (x147_0_0 = x47_0_0)) && ((decide (x147_0_1 = x47_0_1)) && ((decide (x147_0_2 = x47_0_2)) && ((decide (x147_0_3 = x47_0_3)) && ((decide (b147_0_4 = b47_0_4)) && true)))))) w_22
                              ) (
                                K (.bool false) w_22
                              )
                            ) (
                              K (.bool false) w_22
                            )
                          )
                        )
                      )
                    )
                  )
                )
              )
            )
          )
        )
      )
    )
  )
def lmoves_vc (a0 : Option Addr) (n0 : Nat) (c0 : Nat) (x1 : Int) (x2 : Int) (w : World) (K : Value → World → Prop) : Prop :=
  Calls Try.prog 43 #[] w fun e w_2 => KeepG [] w w_2 ∧
  ∃ (p23 : Option Addr),
  e = .returned (.pointer p23) ∧
  newO w_2 (.cells #[.int .i64 0, .int .i64 0, .int .i64 0, .bool false, .int .i64 0, .int .i64 0, .int .i64 0, .bool false, .int .i64 0, .int .i64 0, .int .i64 0, .bool false, .int .i64 0, .int .i64 0, .int .i64 0, .bool false, .int .i64 0, .int .i64 0, .int .i64 0, .bool false, .int .i64 0, .int .i64 0, .int .i64 0, .bool false, .int .i64 0, .int .i64 0, .int .i64 0, .bool false, .int .i64 0, .int .i64 0, .int .i64 0, .bool false, .int .i64 0, .int .i64 0, .int .i64 0, .bool false, .int .i64 0, .int .i64 0, .int .i64 0, .bool false, .int .i64 0, .int .i64 0, .int .i64 0, .bool false, .int .i64 0, .int .i64 0, .int .i64 0, .bool false, .int .i64 0, .int .i64 0, .int .i64 0, .bool false, .int .i64 0, .int .i64 0, .int .i64 0, .bool false, .int .i64 0, .int .i64 0, .int .i64 0, .bool false, .int .i64 0, .int .i64 0, .int .i64 0, .bool false, .int .i64 0, .int .i64 0, .int .i64 0, .bool false, .int .i64 0, .int .i64 0, .int .i64 0, .bool false, .int .i64 0, .int .i64 0, .int .i64 0, .bool false, .int .i64 0, .int .i64 0, .int .i64 0, .bool false, .int .i64 0, .int .i64 0, .int .i64 0, .bool false, .int .i64 0, .int .i64 0, .int .i64 0, .bool false, .int .i64 0, .int .i64 0, .int .i64 0, .bool false, .int .i64 0, .int .i64 0, .int .i64 0, .bool false, .int .i64 0, .int .i64 0, .int .i64 0, .bool false, .int .i64 0, .int .i64 0, .int .i64 0, .bool false, .int .i64 0, .int .i64 0, .int .i64 0, .bool false, .int .i64 0, .int .i64 0, .int .i64 0, .bool false, .int .i64 0, .int .i64 0, .int .i64 0, .bool false, .int .i64 0, .int .i64 0, .int .i64 0, .bool false, .int .i64 0, .int .i64 0, .int .i64 0, .bool false, .int .i64 0, .int .i64 0, .int .i64 0, .bool false] 100) fun g w_3 =>
  ∃ (I : Int → World → Prop) (μ : Int → World → Nat),
  I 0 w_3 ∧
  ∀ (x9 : Int) (w_4 : World), I x9 w_4 →
  br (decide (x9 < ((n0 : Nat) : Int))) (
    br (decide (x9 < 60)) (
      withP a0 fun g38 o38 =>
      (0 : Int) ≤ x9 ∧ x9 < (((n0 : Nat) : Int) : Int) ∧
      ∃ (x39_0 : Int) (x39_1 : Int) (x39_2 : Int) (x39_3 : Int) (x39_4 : Int),
      cellsAt w_4 g38 (o38 + x9.toNat * 5) [.int .i64 x39_0, .int .i64 x39_1, .int .i64 x39_2, .int .i64 x39_3, .int .i64 x39_4] ∧
      Calls Try.prog 55 #[.agg #[.int .i64 x39_0, .int .i64 x39_1, .int .i64 x39_2, .int .i64 x39_3, .int .i64 x39_4], .pointer p23, .pointer (some ⟨g, 0, none⟩)] w_4 fun e_2 w_5 => KeepG [] w_4 w_5 ∧
      ∃ (b42 : Bool),
      e_2 = .returned (.bool b42) ∧
      br (!b42) (
        K (.bool false) w_5
      ) (
        I (IntKind.i64.wrap (x9 + 1)) w_5 ∧ μ (IntKind.i64.wrap (x9 + 1)) w_5 < μ x9 w_4
      )
    ) (
      lmoves_k1 K x1 x2 p23 w_4
    )
  ) (
    lmoves_k1 K x1 x2 p23 w_4
  )
def lmoves_notes : Notes := ⟨[], [(3, ⟨[(9, .lf (.int .i64))], [], [26, 27, 28, 29, 30, 31, 32, 33, 36, 37, 38, 39, 40, 41, 42, 43, 6, 34, 35, 9], []⟩)], []⟩
theorem lmoves_calls (a0 : Option Addr) (n0 : Nat) (c0 : Nat) (x1 : Int) (x2 : Int) (w : World) (K : Value → World → Prop) (h : lmoves_vc a0 n0 c0 x1 x2 w K) : Calls Try.prog 12 #[.slice a0 n0 c0, .int .i64 x1, .int .i64 x2] w fun e w' => ∃ v, e = .returned v ∧ K v w' :=
  calls_of_fvc envOk Try.func12 lmoves_notes [10, 18, 21] [.slice a0 n0 c0, .int .i64 x1, .int .i64 x2] w K (use_vc h (by as_aux_lemma => kernel_rfl))
/-- purser/purserref01.Same -/
def lsame_vc (a0 : Option Addr) (n0 : Nat) (c0 : Nat) (a1 : Option Addr) (n1 : Nat) (c1 : Nat) (w : World) (K : Value → World → Prop) : Prop :=
  br (decide (((n0 : Nat) : Int) ≠ ((n1 : Nat) : Int))) (
    K (.bool false) w
  ) (
    ∃ (I : Int → World → Prop) (μ : Int → World → Nat),
    I 0 w ∧
    ∀ (x5 : Int) (w_2 : World), I x5 w_2 →
    br (decide (x5 < ((n0 : Nat) : Int))) (
      drewO w_2 fun w_3 =>
      withP a0 fun g19 o19 =>
      (0 : Int) ≤ x5 ∧ x5 < (((n0 : Nat) : Int) : Int) ∧
      ∃ (x20 : Int), w_3.cell? ⟨g19, o19 + x5.toNat * 1, none⟩ = some (.int .i64 x20) ∧
      withP a1 fun g23 o23 =>
      (0 : Int) ≤ x5 ∧ x5 < (((n1 : Nat) : Int) : Int) ∧
      ∃ (x24 : Int), w_3.cell? ⟨g23, o23 + x5.toNat * 1, none⟩ = some (.int .i64 x24) ∧
      br (decide (x20 ≠ x24)) (
        K (.bool false) w_3
      ) (
        I (IntKind.i64.wrap (x5 + 1)) w_3 ∧ μ (IntKind.i64.wrap (x5 + 1)) w_3 < μ x5 w_2
      )
    ) (
      K (.bool true) w_2
    )
  )
def lsame_notes : Notes := ⟨[(6, ⟨[0, 0, 3, 7, 0, 0, 48, 112, 255], [], [0, 1, 2, 3, 4, 5, 6, 7, 8]⟩)], [(4, ⟨[(5, .lf (.int .i64))], [], [11, 12, 13, 14, 17, 18, 19, 20, 21, 22, 23, 24, 25, 4, 15, 16, 5], []⟩)], []⟩
theorem lsame_calls (a0 : Option Addr) (n0 : Nat) (c0 : Nat) (a1 : Option Addr) (n1 : Nat) (c1 : Nat) (w : World) (K : Value → World → Prop) (h : lsame_vc a0 n0 c0 a1 n1 c1 w K) : Calls Try.prog 39 #[.slice a0 n0 c0, .slice a1 n1 c1] w fun e w' => ∃ v, e = .returned v ∧ K v w' :=
  calls_of_fvc envOk Try.func39 lsame_notes [] [.slice a0 n0 c0, .slice a1 n1 c1] w K (use_vc h (by as_aux_lemma => kernel_rfl))
end GTreeR
end Go.Proofs.Ytjcabccolkmlmaa
end
section
/- Conditions of functions, printed by a program of this claim's own (vcgen.py) out of the loaded code; each is proved to be enough. -/
set_option maxRecDepth 100000
namespace Go.Proofs.Ytjcabccolkmlmaa
open Go.RowKit
namespace GTree
def env : Env := ⟨[(3, ⟨.int .i64, 1, .int .i64 0, 8, [.int .i64]⟩), (4, ⟨.bool, 1, .bool false, 1, [.bool]⟩), (23, ⟨.slice 3, 1, .slice none 0 0, 24, [.slice]⟩), (82, ⟨.ptr, 1, .pointer none, 8, [.ptr]⟩), (88, ⟨.struct [(0, 3), (1, 3), (2, 3), (3, 3), (4, 4)], 5, .agg #[.int .i64 0, .int .i64 0, .int .i64 0, .int .i64 0, .bool false], 40, [.int .i64, .int .i64, .int .i64, .int .i64, .bool]⟩), (138, ⟨.map 3 88, 1, .map none, 8, [.map]⟩), (140, ⟨.struct [(0, 138)], 1, .agg #[.map none], 8, [.map]⟩)], [(48, [.lf (.slice)]), (49, [.agg [.int .i64, .int .i64, .int .i64, .int .i64, .bool], .lf (.int .i64)]), (50, [.lf (.int .i64)]), (52, [.lf (.slice), .lf (.int .i64)]), (87, [.lf (.slice)]), (91, [.agg [.int .i64, .int .i64, .int .i64, .int .i64, .bool], .lf (.int .i64)]), (92, [.lf (.int .i64)]), (93, [.lf (.any)]), (94, [.lf (.bool)]), (95, []), (96, [.lf (.bool)])], []⟩
theorem ty3 : TyOk Try.prog 3 ⟨.int .i64, 1, .int .i64 0, 8, [.int .i64]⟩ := tyok (by kernel_rfl) (by kernel_rfl)
theorem ty4 : TyOk Try.prog 4 ⟨.bool, 1, .bool false, 1, [.bool]⟩ := tyok (by kernel_rfl) (by kernel_rfl)
theorem ty23 : TyOk Try.prog 23 ⟨.slice 3, 1, .slice none 0 0, 24, [.slice]⟩ := tyok (by kernel_rfl) (by kernel_rfl)
theorem ty82 : TyOk Try.prog 82 ⟨.ptr, 1, .pointer none, 8, [.ptr]⟩ := tyok (by kernel_rfl) (by kernel_rfl)
theorem ty88 : TyOk Try.prog 88 ⟨.struct [(0, 3), (1, 3), (2, 3), (3, 3), (4, 4)], 5, .agg #[.int .i64 0, .int .i64 0, .int .i64 0, .int .i64 0, .bool false], 40, [.int .i64, .int .i64, .int .i64, .int .i64, .bool]⟩ := tyok (by kernel_rfl) (by kernel_rfl)
theorem ty138 : TyOk Try.prog 138 ⟨.map 3 88, 1, .map none, 8, [.map]⟩ := tyok (by kernel_rfl) (by kernel_rfl)
theorem ty140 : TyOk Try.prog 140 ⟨.struct [(0, 138)], 1, .agg #[.map none], 8, [.map]⟩ := tyok (by kernel_rfl) (by kernel_rfl)
theorem fn48 : FnOk Try.prog 48 := fnok Try.func48 (by kernel_rfl) (by kernel_rfl)
theorem fn49 : FnOk Try.prog 49 := fnok Try.func49 (by kernel_rfl) (by kernel_rfl)
theorem fn50 : FnOk Try.prog 50 := fnok Try.func50 (by kernel_rfl) (by kernel_rfl)
theorem fn52 : FnOk Try.prog 52 := fnok Try.func52 (by kernel_rfl) (by kernel_rfl)
theorem fn87 : FnOk Try.prog 87 := fnok Try.func87 (by kernel_rfl) (by kernel_rfl)
theorem fn91 : FnOk Try.prog 91 := fnok Try.func91 (by kernel_rfl) (by kernel_rfl)
theorem fn92 : FnOk Try.prog 92 := fnok Try.func92 (by kernel_rfl) (by kernel_rfl)
theorem fn93 : FnOk Try.prog 93 := fnok Try.func93 (by kernel_rfl) (by kernel_rfl)
theorem fn94 : FnOk Try.prog 94 := fnok Try.func94 (by kernel_rfl) (by kernel_rfl)
theorem fn95 : FnOk Try.prog 95 := fnok Try.func95 (by kernel_rfl) (by kernel_rfl)
theorem fn96 : FnOk Try.prog 96 := fnok Try.func96 (by kernel_rfl) (by kernel_rfl)
theorem envOk : EOk Try.prog env := ⟨(by simp only [env, List.forall_mem_cons, List.not_mem_nil, false_implies, implies_true, and_true]; exact ⟨ty3, ty4, ty23, ty82, ty88, ty138, ty140⟩), (by simp only [env, List.forall_mem_cons, List.not_mem_nil, false_implies, implies_true, and_true]; exact ⟨fn48, fn49, fn50, fn52, fn87, fn91, fn92, fn93, fn94, fn95, fn96⟩), by kernel_rfl, (fun _ h => by cases h)⟩
/-- purser/tree.New -/
def tnew_vc  (w : World) (K : Value → World → Prop) : Prop :=
  newO w (.map #[] 0) fun g w_2 =>
  newO w_2 (.cells #[.map (some g)] 140) fun g_2 w_3 =>
  K (.pointer (some ⟨g_2, 0, none⟩)) w_3
def tnew_notes : Notes := ⟨[], [], []⟩
theorem tnew_calls  (w : World) (K : Value → World → Prop) (h : tnew_vc  w K) : Calls Try.prog 43 #[] w fun e w' => ∃ v, e = .returned v ∧ K v w' :=
  calls_of_fvc envOk Try.func43 tnew_notes [] [] w K (use_vc h (by as_aux_lemma => kernel_rfl))
/-- purser/tree.limit -/
def tlimit_vc (x0 : Int) (w : World) (K : Value → World → Prop) : Prop :=
  br (decide (x0 ≥ (-1))) (
    K (.bool (decide (x0 ≤ 9007199254740992))) w
  ) (
    K (.bool false) w
  )
def tlimit_notes : Notes := ⟨[], [], []⟩
theorem tlimit_calls (x0 : Int) (w : World) (K : Value → World → Prop) (h : tlimit_vc x0 w K) : Calls Try.prog 94 #[.int .i64 x0] w fun e w' => ∃ v, e = .returned v ∧ K v w' :=
  calls_of_fvc envOk Try.func94 tlimit_notes [] [.int .i64 x0] w K (use_vc h (by as_aux_lemma => kernel_rfl))
/-- (*purser/tree.Tree).under -/
def tunder_vc (p0 : Option Addr) (x1 : Int) (x2 : Int) (w : World) (K : Value → World → Prop) : Prop :=
  withP p0 fun g11 o11 =>
  ∃ (mb13 : Option Nat), w.cell? ⟨g11, o11, none⟩ = some (.map mb13) ∧
  ∃ (x15_0 : Int) (x15_1 : Int) (x15_2 : Int) (x15_3 : Int) (b15_4 : Bool),
  ∃ b15_ok : Bool,
  (∃ r, MLk w mb13 x2 r ∧ r.getD (.agg #[.int .i64 0, .int .i64 0, .int .i64 0, .int .i64 0, .bool false]) = (.agg #[.int .i64 x15_0, .int .i64 x15_1, .int .i64 x15_2, .int .i64 x15_3, .bool b15_4]) ∧ r.isSome = b15_ok) ∧
  newO w (.cells #[.int .i64 0, .int .i64 0, .int .i64 0, .int .i64 0, .bool false] 88) fun g w_2 =>
  ∀ w_3 : World, BoxSt g w_2 w_3 →
  br (!b15_ok) (
    K (.int .i64 7) w_3
  ) (
    br (decide (x15_2 ≠ (IntKind.i64.wrap (x1 - 1)))) (
      K (.int .i64 21) w_3
    ) (
      K (.int .i64 0) w_3
    )
  )
def tunder_notes : Notes := ⟨[], [], []⟩
theorem tunder_calls (p0 : Option Addr) (x1 : Int) (x2 : Int) (w : World) (K : Value → World → Prop) (h : tunder_vc p0 x1 x2 w K) : Calls Try.prog 92 #[.pointer p0, .int .i64 x1, .int .i64 x2] w fun e w' => ∃ v, e = .returned v ∧ K v w' :=
  calls_of_fvc envOk Try.func92 tunder_notes [7] [.pointer p0, .int .i64 x1, .int .i64 x2] w K (use_vc h (by as_aux_lemma => kernel_rfl))
/-- (*purser/tree.Tree).Put -/
def tput_k1 (K : Value → World → Prop) (p0 : Option Addr) (x1_0 : Int) (x1_1 : Int) (x1_2 : Int) (x1_3 : Int) (b1_4 : Bool) (w_9 : World) : Prop :=
  drewO w_9 fun w_10 =>
  withP p0 fun g80 o80 =>
  ∃ (mb82 : Option Nat), w_10.cell? ⟨g80, o80, none⟩ = some (.map mb82) ∧
  mapO w_10 mb82 (fun m => putM m x1_0 (.agg #[.int .i64 x1_0, .int .i64 x1_1, .int .i64 x1_2, .int .i64 x1_3, .bool b1_4])) fun w_11 =>
  K (.int .i64 0) w_11
def tput_vc (p0 : Option Addr) (x1_0 : Int) (x1_1 : Int) (x1_2 : Int) (x1_3 : Int) (b1_4 : Bool) (w : World) (K : Value → World → Prop) : Prop :=
  newO w (.cells #[.int .i64 x1_0, .int .i64 x1_1, .int .i64 x1_2, .int .i64 x1_3, .bool b1_4] 88) fun g w_2 =>
  br (Option.isNone p0) (
    K (.int .i64 1) w_2
  ) (
    br (decide (x1_0 < 1)) (
      K (.int .i64 1) w_2
    ) (
      br (decide (x1_0 > 32)) (
        K (.int .i64 1) w_2
      ) (
        Calls Try.prog 94 #[.int .i64 x1_3] w_2 fun e w_3 => KeepG [g] w_2 w_3 ∧
        ∃ (b23 : Bool),
        e = .returned (.bool b23) ∧
        br (!b23) (
          K (.int .i64 1) w_3
        ) (
          br (decide (x1_2 < 1)) (
            K (.int .i64 21) w_3
          ) (
            br (decide (x1_2 > 3)) (
              K (.int .i64 21) w_3
            ) (
              br (decide ((decide (x1_1 = 0)) ≠ (decide (x1_2 = 1)))) (
                K (.int .i64 21) w_3
              ) (
                drewO w_3 fun w_4 =>
                withP p0 fun g45 o45 =>
                ∃ (mb47 : Option Nat), w_4.cell? ⟨g45, o45, none⟩ = some (.map mb47) ∧
                ∃ (x50_0 : Int) (x50_1 : Int) (x50_2 : Int) (x50_3 : Int) (b50_4 : Bool),
                ∃ b50_ok : Bool,
                (∃ r, MLk w_4 mb47 x1_0 r ∧ r.getD (.agg #[.int .i64 0, .int .i64 0, .int .i64 0, .int .i64 0, .bool false]) = (.agg #[.int .i64 x50_0, .int .i64 x50_1, .int .i64 x50_2, .int .i64 x50_3, .bool b50_4]) ∧ r.isSome = b50_ok) ∧
                newO w_4 (.cells #[.int .i64 0, .int .i64 0, .int .i64 0, .int .i64 0, .bool false] 88) fun g_2 w_5 =>
                w_5.cell? ⟨g45, o45, none⟩ = some (.map mb47) ∧
                (∃ r, MLk w_5 mb47 x1_0 r ∧ r.getD (.agg #[.int .i64 0, .int .i64 0, .int .i64 0, .int .i64 0, .bool false]) = (.agg #[.int .i64 x50_0, .int .i64 x50_1, .int .i64 x50_2, .int .i64 x50_3, .bool b50_4]) ∧ r.isSome = b50_ok) ∧
                ∀ w_6 : World, BoxSt g_2 w_5 w_6 →
                br b50_ok (
                  K (.int .i64 8) w_6
                ) (
                  br (decide (x1_2 ≠ 1)) (
                    Calls Try.prog 92 #[.pointer p0, .int .i64 x1_2, .int .i64 x1_1] w_6 fun e_2 w_7 => KeepG [g_2, g] w_6 w_7 ∧
                    ∃ (x62 : Int),
                    e_2 = .returned (.int .i64 x62) ∧
                    br (decide (x62 ≠ 0)) (
                      K (.int .i64 x62) w_7
                    ) (
                      drewO w_7 fun w_8 =>
                      withP p0 fun g67 o67 =>
                      ∃ (mb69 : Option Nat), w_8.cell? ⟨g67, o67, none⟩ = some (.map mb69) ∧
                      ∃ (x72_0 : Int) (x72_1 : Int) (x72_2 : Int) (x72_3 : Int) (b72_4 : Bool),
                      (∃ r, MLk w_8 mb69 x1_1 r ∧ r.getD (.agg #[.int .i64 0, .int .i64 0, .int .i64 0, .int .i64 0, .bool false]) = (.agg #[.int .i64 x72_0, .int .i64 x72_1, .int .i64 x72_2, .int .i64 x72_3, .bool b72_4])) ∧
                      br b72_4 (
                        br (!b1_4) (
                          K (.int .i64 16) w_8
                        ) (
                          tput_k1 K p0 x1_0 x1_1 x1_2 x1_3 b1_4 w_8
                        )
                      ) (
                        tput_k1 K p0 x1_0 x1_1 x1_2 x1_3 b1_4 w_8
                      )
                    )
                  ) (
                    tput_k1 K p0 x1_0 x1_1 x1_2 x1_3 b1_4 w_6
                  )
                )
              )
            )
          )
        )
      )
    )
  )
def tput_notes : Notes := ⟨[(5, ⟨[0, 1, 3, 7, 0, 16, 63, 127, 255, 255, 0, 1535, 4095], [10, 11], [0, 1, 2, 3, 4, 5, 6, 7, 8, 9, 12]⟩), (12, ⟨[0, 1, 3, 7, 0, 16, 63, 127, 255, 511, 1023, 2047, 4095], [], [0, 1, 2, 3, 4, 5, 6, 7, 8, 9, 10, 11, 12]⟩), (14, ⟨[0, 1, 3, 7, 0, 16, 0, 127], [7], [0, 1, 2, 3, 4, 5, 6]⟩)], [], []⟩
theorem tput_calls (p0 : Option Addr) (x1_0 : Int) (x1_1 : Int) (x1_2 : Int) (x1_3 : Int) (b1_4 : Bool) (w : World) (K : Value → World → Prop) (h : tput_vc p0 x1_0 x1_1 x1_2 x1_3 b1_4 w K) : Calls Try.prog 50 #[.pointer p0, .agg #[.int .i64 x1_0, .int .i64 x1_1, .int .i64 x1_2, .int .i64 x1_3, .bool b1_4]] w fun e w' => ∃ v, e = .returned v ∧ K v w' :=
  calls_of_fvc envOk Try.func50 tput_notes [3, 5] [.pointer p0, .agg #[.int .i64 x1_0, .int .i64 x1_1, .int .i64 x1_2, .int .i64 x1_3, .bool b1_4]] w K (use_vc h (by as_aux_lemma => kernel_rfl))
/-- (*purser/tree.Tree).Create -/
def tcreate_vc (p0 : Option Addr) (x1 : Int) (x2 : Int) (x3 : Int) (x4 : Int) (w : World) (K : Value → World → Prop) : Prop :=
  Calls Try.prog 50 #[.pointer p0, .agg #[.int .i64 x1, .int .i64 x2, .int .i64 x3, .int .i64 x4, .bool false]] w fun e w_2 => KeepG [] w w_2 ∧
  ∃ (x17 : Int),
  e = .returned (.int .i64 x17) ∧
  K (.int .i64 x17) w_2
def tcreate_notes : Notes := ⟨[], [], []⟩
theorem tcreate_calls (p0 : Option Addr) (x1 : Int) (x2 : Int) (x3 : Int) (x4 : Int) (w : World) (K : Value → World → Prop) (h : tcreate_vc p0 x1 x2 x3 x4 w K) : Calls Try.prog 45 #[.pointer p0, .int .i64 x1, .int .i64 x2, .int .i64 x3, .int .i64 x4] w fun e w' => ∃ v, e = .returned v ∧ K v w' :=
  calls_of_fvc envOk Try.func45 tcreate_notes [] [.pointer p0, .int .i64 x1, .int .i64 x2, .int .i64 x3, .int .i64 x4] w K (use_vc h (by as_aux_lemma => kernel_rfl))
/-- (*purser/tree.Tree).open -/
def topen_vc (p0 : Option Addr) (x1 : Int) (w : World) (K : Value → World → Prop) : Prop :=
  newO w (.cells #[.int .i64 0, .int .i64 0, .int .i64 0, .int .i64 0, .bool false] 88) fun g w_2 =>
  Calls Try.prog 49 #[.pointer p0, .int .i64 x1] w_2 fun e w_3 => KeepG [g] w_2 w_3 ∧
  ∃ (x11_0_0 : Int) (x11_0_1 : Int) (x11_0_2 : Int) (x11_0_3 : Int) (b11_0_4 : Bool) (x11_1 : Int),
  e = .returned (.tuple #[.agg #[.int .i64 x11_0_0, .int .i64 x11_0_1, .int .i64 x11_0_2, .int .i64 x11_0_3, .bool b11_0_4], .int .i64 x11_1]) ∧
  newO w_3 (.cells #[.int .i64 0, .int .i64 0, .int .i64 0, .int .i64 0, .bool false] 88) fun g_2 w_4 =>
  ∀ w_5 : World, BoxSt g_2 w_4 w_5 →
  br (decide (x11_1 = 0)) (
    br b11_0_4 (
      ∀ w_8 : World, BoxSt g w_5 w_8 →
      K (.tuple #[.agg #[.int .i64 x11_0_0, .int .i64 x11_0_1, .int .i64 x11_0_2, .int .i64 x11_0_3, .bool b11_0_4], .int .i64 16]) w_8
    ) (
      ∀ w_9 : World, BoxSt g w_5 w_9 →
      K (.tuple #[.agg #[.int .i64 x11_0_0, .int .i64 x11_0_1, .int .i64 x11_0_2, .int .i64 x11_0_3, .bool b11_0_4], .int .i64 x11_1]) w_9
    )
  ) (
    ∀ w_10 : World, BoxSt g w_5 w_10 →
    K (.tuple #[.agg #[.int .i64 x11_0_0, .int .i64 x11_0_1, .int .i64 x11_0_2, .int .i64 x11_0_3, .bool b11_0_4], .int .i64 x11_1]) w_10
  )
def topen_notes : Notes := ⟨[], [], []⟩
theorem topen_calls (p0 : Option Addr) (x1 : Int) (w : World) (K : Value → World → Prop) (h : topen_vc p0 x1 w K) : Calls Try.prog 91 #[.pointer p0, .int .i64 x1] w fun e w' => ∃ v, e = .returned v ∧ K v w' :=
  calls_of_fvc envOk Try.func91 topen_notes [4, 6] [.pointer p0, .int .i64 x1] w K (use_vc h (by as_aux_lemma => kernel_rfl))
/-- (*purser/tree.Tree).Move -/
def tmove_vc (p0 : Option Addr) (x1 : Int) (x2 : Int) (w : World) (K : Value → World → Prop) : Prop :=
  Calls Try.prog 91 #[.pointer p0, .int .i64 x1] w fun e w_2 => KeepG [] w w_2 ∧
  ∃ (x13_0_0 : Int) (x13_0_1 : Int) (x13_0_2 : Int) (x13_0_3 : Int) (b13_0_4 : Bool) (x13_1 : Int),
  e = .returned (.tuple #[.agg #[.int .i64 x13_0_0, .int .i64 x13_0_1, .int .i64 x13_0_2, .int .i64 x13_0_3, .bool b13_0_4], .int .i64 x13_1]) ∧
  newO w_2 (.cells #[.int .i64 0, .int .i64 0, .int .i64 0, .int .i64 0, .bool false] 88) fun g w_3 =>
  ∀ w_4 : World, BoxSt g w_3 w_4 →
  br (decide (x13_1 ≠ 0)) (
    K (.int .i64 x13_1) w_4
  ) (
    br (decide (x13_0_2 = 1)) (
      K (.int .i64 21) w_4
    ) (
      Calls Try.prog 92 #[.pointer p0, .int .i64 x13_0_2, .int .i64 x2] w_4 fun e_2 w_5 => KeepG [g] w_4 w_5 ∧
      ∃ (x28 : Int),
      e_2 = .returned (.int .i64 x28) ∧
      br (decide (x28 ≠ 0)) (
        K (.int .i64 x28) w_5
      ) (
        withP p0 fun g34 o34 =>
        ∃ (mb36 : Option Nat), w_5.cell? ⟨g34, o34, none⟩ = some (.map mb36) ∧
        ∃ (x38_0 : Int) (x38_1 : Int) (x38_2 : Int) (x38_3 : Int) (b38_4 : Bool),
        (∃ r, MLk w_5 mb36 x2 r ∧ r.getD (.agg #[.int .i64 0, .int .i64 0, .int .i64 0, .int .i64 0, .bool false]) = (.agg #[.int .i64 x38_0, .int .i64 x38_1, .int .i64 x38_2, .int .i64 x38_3, .bool b38_4])) ∧
        br b38_4 (
          K (.int .i64 16) w_5
        ) (
          br (decide (x13_0_1 = x2)) (
            K (.int .i64 8) w_5
          ) (
            ∀ w_6 : World, BoxSt g w_5 w_6 →
            drewO w_6 fun w_7 =>
            withP p0 fun g48 o48 =>
            ∃ (mb50 : Option Nat), w_7.cell? ⟨g48, o48, none⟩ = some (.map mb50) ∧
            mapO w_7 mb50 (fun m => putM m x1 (.agg #[.int .i64 x13_0_0, .int .i64 x2, .int .i64 x13_0_2, .int .i64 x13_0_3, .bool b13_0_4])) fun w_8 =>
            K (.int .i64 0) w_8
          )
        )
      )
    )
  )
def tmove_notes : Notes := ⟨[(14, ⟨[0, 1, 3, 7, 0, 0, 63], [6], [0, 1, 2, 3, 4, 5]⟩)], [], []⟩
theorem tmove_calls (p0 : Option Addr) (x1 : Int) (x2 : Int) (w : World) (K : Value → World → Prop) (h : tmove_vc p0 x1 x2 w K) : Calls Try.prog 46 #[.pointer p0, .int .i64 x1, .int .i64 x2] w fun e w' => ∃ v, e = .returned v ∧ K v w' :=
  calls_of_fvc envOk Try.func46 tmove_notes [7] [.pointer p0, .int .i64 x1, .int .i64 x2] w K (use_vc h (by as_aux_lemma => kernel_rfl))
/-- (*purser/tree.Tree).Close -/
def tclose_vc (p0 : Option Addr) (x1 : Int) (w : World) (K : Value → World → Prop) : Prop :=
  Calls Try.prog 91 #[.pointer p0, .int .i64 x1] w fun e w_2 => KeepG [] w w_2 ∧
  ∃ (x12_0_0 : Int) (x12_0_1 : Int) (x12_0_2 : Int) (x12_0_3 : Int) (b12_0_4 : Bool) (x12_1 : Int),
  e = .returned (.tuple #[.agg #[.int .i64 x12_0_0, .int .i64 x12_0_1, .int .i64 x12_0_2, .int .i64 x12_0_3, .bool b12_0_4], .int .i64 x12_1]) ∧
  newO w_2 (.cells #[.int .i64 0, .int .i64 0, .int .i64 0, .int .i64 0, .bool false] 88) fun g w_3 =>
  ∀ w_4 : World, BoxSt g w_3 w_4 →
  br (decide (x12_1 ≠ 0)) (
    K (.int .i64 x12_1) w_4
  ) (
    withP p0 fun g19 o19 =>
    ∃ (mb21 : Option Nat), w_4.cell? ⟨g19, o19, none⟩ = some (.map mb21) ∧
    rngO w_4 mb21 fun g_2 w_5 =>
    ∃ (I : World → Prop) (μ : World → Nat),
    I w_5 ∧
    ∀ (w_6 : World), I w_6 →
    nxtO w_6 g_2 (fun w_7 =>
      ∀ w_8 : World, BoxSt g w_7 w_8 →
      drewO w_8 fun w_9 =>
      withP p0 fun g38 o38 =>
      ∃ (mb40 : Option Nat), w_9.cell? ⟨g38, o38, none⟩ = some (.map mb40) ∧
      mapO w_9 mb40 (fun m => putM m x1 (.agg #[.int .i64 x12_0_0, .int .i64 x12_0_1, .int .i64 x12_0_2, .int .i64 x12_0_3, .bool true])) fun w_10 =>
      K (.int .i64 0) w_10
    ) fun x23_k v23 w_11 =>
    ∃ (x25_0 : Int) (x25_1 : Int) (x25_2 : Int) (x25_3 : Int) (b25_4 : Bool),
    ∃ x25_k : Int,
    IterLast w_11 g_2 x25_k (.agg #[.int .i64 x25_0, .int .i64 x25_1, .int .i64 x25_2, .int .i64 x25_3, .bool b25_4]) ∧
    newO w_11 (.cells #[.int .i64 0, .int .i64 0, .int .i64 0, .int .i64 0, .bool false] 88) fun g_3 w_12 =>
    ∀ w_13 : World, BoxSt g_3 w_12 w_13 →
    br (decide (x25_1 = x1)) (
      br (!b25_4) (
        K (.int .i64 17) w_13
      ) (
        I w_13 ∧ μ w_13 < μ w_6
      )
    ) (
      I w_13 ∧ μ w_13 < μ w_6
    )
  )
def tclose_notes : Notes := ⟨[(10, ⟨[0, 1, 3, 7, 0, 0, 63], [6], [0, 1, 2, 3, 4, 5]⟩)], [(5, ⟨[], [], [23, 24, 25, 26, 8, 27, 28, 29, 30, 31, 32, 33, 34, 35, 4], [8]⟩)], []⟩
theorem tclose_calls (p0 : Option Addr) (x1 : Int) (w : World) (K : Value → World → Prop) (h : tclose_vc p0 x1 w K) : Calls Try.prog 47 #[.pointer p0, .int .i64 x1] w fun e w' => ∃ v, e = .returned v ∧ K v w' :=
  calls_of_fvc envOk Try.func47 tclose_notes [5, 8] [.pointer p0, .int .i64 x1] w K (use_vc h (by as_aux_lemma => kernel_rfl))
/-- (*purser/tree.Tree).SetLimit -/
def tsetl_vc (p0 : Option Addr) (x1 : Int) (x2 : Int) (w : World) (K : Value → World → Prop) : Prop :=
  Calls Try.prog 49 #[.pointer p0, .int .i64 x1] w fun e w_2 => KeepG [] w w_2 ∧
  ∃ (x12_0_0 : Int) (x12_0_1 : Int) (x12_0_2 : Int) (x12_0_3 : Int) (b12_0_4 : Bool) (x12_1 : Int),
  e = .returned (.tuple #[.agg #[.int .i64 x12_0_0, .int .i64 x12_0_1, .int .i64 x12_0_2, .int .i64 x12_0_3, .bool b12_0_4], .int .i64 x12_1]) ∧
  newO w_2 (.cells #[.int .i64 0, .int .i64 0, .int .i64 0, .int .i64 0, .bool false] 88) fun g w_3 =>
  ∀ w_4 : World, BoxSt g w_3 w_4 →
  br (decide (x12_1 ≠ 0)) (
    K (.int .i64 x12_1) w_4
  ) (
    Calls Try.prog 94 #[.int .i64 x2] w_4 fun e_2 w_5 => KeepG [g] w_4 w_5 ∧
    ∃ (b21 : Bool),
    e_2 = .returned (.bool b21) ∧
    br (!b21) (
      K (.int .i64 1) w_5
    ) (
      br b12_0_4 (
        K (.int .i64 16) w_5
      ) (
        ∀ w_6 : World, BoxSt g w_5 w_6 →
        drewO w_6 fun w_7 =>
        withP p0 fun g29 o29 =>
        ∃ (mb31 : Option Nat), w_7.cell? ⟨g29, o29, none⟩ = some (.map mb31) ∧
        mapO w_7 mb31 (fun m => putM m x1 (.agg #[.int .i64 x12_0_0, .int .i64 x12_0_1, .int .i64 x12_0_2, .int .i64 x2, .bool b12_0_4])) fun w_8 =>
        K (.int .i64 0) w_8
      )
    )
  )
def tsetl_notes : Notes := ⟨[(9, ⟨[0, 1, 3, 7, 0, 0, 63], [6], [0, 1, 2, 3, 4, 5]⟩)], [], []⟩
theorem tsetl_calls (p0 : Option Addr) (x1 : Int) (x2 : Int) (w : World) (K : Value → World → Prop) (h : tsetl_vc p0 x1 x2 w K) : Calls Try.prog 54 #[.pointer p0, .int .i64 x1, .int .i64 x2] w fun e w' => ∃ v, e = .returned v ∧ K v w' :=
  calls_of_fvc envOk Try.func54 tsetl_notes [7] [.pointer p0, .int .i64 x1, .int .i64 x2] w K (use_vc h (by as_aux_lemma => kernel_rfl))
/-- (*purser/tree.Tree).Get -/
def tget_vc (p0 : Option Addr) (x1 : Int) (w : World) (K : Value → World → Prop) : Prop :=
  newO w (.cells #[.int .i64 0, .int .i64 0, .int .i64 0, .int .i64 0, .bool false] 88) fun g w_2 =>
  br (Option.isNone p0) (
    ∀ w_3 : World, BoxSt g w_2 w_3 →
    K (.tuple #[.agg #[.int .i64 0, .int .i64 0, .int .i64 0, .int .i64 0, .bool false], .int .i64 1]) w_3
  ) (
    withP p0 fun g13 o13 =>
    ∃ (mb15 : Option Nat), w_2.cell? ⟨g13, o13, none⟩ = some (.map mb15) ∧
    ∃ (x17_0 : Int) (x17_1 : Int) (x17_2 : Int) (x17_3 : Int) (b17_4 : Bool),
    ∃ b17_ok : Bool,
    (∃ r, MLk w_2 mb15 x1 r ∧ r.getD (.agg #[.int .i64 0, .int .i64 0, .int .i64 0, .int .i64 0, .bool false]) = (.agg #[.int .i64 x17_0, .int .i64 x17_1, .int .i64 x17_2, .int .i64 x17_3, .bool b17_4]) ∧ r.isSome = b17_ok) ∧
    newO w_2 (.cells #[.int .i64 0, .int .i64 0, .int .i64 0, .int .i64 0, .bool false] 88) fun g_2 w_4 =>
    ∀ w_5 : World, BoxSt g_2 w_4 w_5 →
    br (!b17_ok) (
      ∀ w_6 : World, BoxSt g w_5 w_6 →
      K (.tuple #[.agg #[.int .i64 0, .int .i64 0, .int .i64 0, .int .i64 0, .bool false], .int .i64 7]) w_6
    ) (
      ∀ w_7 : World, BoxSt g w_5 w_7 →
      K (.tuple #[.agg #[.int .i64 x17_0, .int .i64 x17_1, .int .i64 x17_2, .int .i64 x17_3, .bool b17_4], .int .i64 0]) w_7
    )
  )
def tget_notes : Notes := ⟨[], [], []⟩
theorem tget_calls (p0 : Option Addr) (x1 : Int) (w : World) (K : Value → World → Prop) (h : tget_vc p0 x1 w K) : Calls Try.prog 49 #[.pointer p0, .int .i64 x1] w fun e w' => ∃ v, e = .returned v ∧ K v w' :=
  calls_of_fvc envOk Try.func49 tget_notes [4, 6] [.pointer p0, .int .i64 x1] w K (use_vc h (by as_aux_lemma => kernel_rfl))
/-- (*purser/tree.Tree).Path -/
def tpath_vc (p0 : Option Addr) (x1 : Int) (w : World) (K : Value → World → Prop) : Prop :=
  Calls Try.prog 49 #[.pointer p0, .int .i64 x1] w fun e w_2 => KeepG [] w w_2 ∧
  ∃ (x12_0_0 : Int) (x12_0_1 : Int) (x12_0_2 : Int) (x12_0_3 : Int) (b12_0_4 : Bool) (x12_1 : Int),
  e = .returned (.tuple #[.agg #[.int .i64 x12_0_0, .int .i64 x12_0_1, .int .i64 x12_0_2, .int .i64 x12_0_3, .bool b12_0_4], .int .i64 x12_1]) ∧
  newO w_2 (.cells #[.int .i64 0, .int .i64 0, .int .i64 0, .int .i64 0, .bool false] 88) fun g w_3 =>
  ∀ w_4 : World, BoxSt g w_3 w_4 →
  br (decide (x12_1 ≠ 0)) (
    K (.tuple #[.slice none 0 0, .int .i64 x12_1]) w_4
  ) (
    ∃ (I : Int → Option Addr → Nat → Nat → World → Prop) (μ : Int → Option Addr → Nat → Nat → World → Nat),
    I x1 none 0 0 w_4 ∧
    ∀ (x1_2 : Int) (a8 : Option Addr) (n8 : Nat) (c8 : Nat) (w_5 : World), I x1_2 a8 n8 c8 w_5 →
    br (decide (x1_2 ≠ 0)) (
      newO w_5 (.cells #[.int .i64 x1_2] 3) fun g_2 w_6 =>
      appO Try.prog [g] w_6 3 1 8 23 a8 n8 c8 (.slice (some ⟨g_2, 0, none⟩) 1 1) fun m23 a23 c23 w_7 =>
      withP p0 fun g25 o25 =>
      ∃ (mb27 : Option Nat), w_7.cell? ⟨g25, o25, none⟩ = some (.map mb27) ∧
      ∃ (x29_0 : Int) (x29_1 : Int) (x29_2 : Int) (x29_3 : Int) (b29_4 : Bool),
      (∃ r, MLk w_7 mb27 x1_2 r ∧ r.getD (.agg #[.int .i64 0, .int .i64 0, .int .i64 0, .int .i64 0, .bool false]) = (.agg #[.int .i64 x29_0, .int .i64 x29_1, .int .i64 x29_2, .int .i64 x29_3, .bool b29_4])) ∧
      I x29_1 a23 (n8 + m23) c23 w_7 ∧ μ x29_1 a23 (n8 + m23) c23 w_7 < μ x1_2 a8 n8 c8 w_5
    ) (
      Calls Try.prog 95 #[.slice a8 n8 c8] w_5 fun e_2 w_8 => KeepG [g] w_5 w_8 ∧
      e_2 = .returned (.tuple #[]) ∧
      K (.tuple #[.slice a8 n8 c8, .int .i64 0]) w_8
    )
  )
def tpath_notes : Notes := ⟨[], [(5, ⟨[(1, .lf (.int .i64)), (8, .lf (.slice))], [], [18, 19, 20, 21, 22, 23, 8, 24, 25, 26, 27, 28, 29, 30, 1], []⟩)], []⟩
theorem tpath_calls (p0 : Option Addr) (x1 : Int) (w : World) (K : Value → World → Prop) (h : tpath_vc p0 x1 w K) : Calls Try.prog 52 #[.pointer p0, .int .i64 x1] w fun e w' => ∃ v, e = .returned v ∧ K v w' :=
  calls_of_fvc envOk Try.func52 tpath_notes [6] [.pointer p0, .int .i64 x1] w K (use_vc h (by as_aux_lemma => kernel_rfl))
/-- (*purser/tree.Tree).Below -/
def tbelow_vc (p0 : Option Addr) (x1 : Int) (w : World) (K : Value → World → Prop) : Prop :=
  Calls Try.prog 49 #[.pointer p0, .int .i64 x1] w fun e w_2 => KeepG [] w w_2 ∧
  ∃ (x16_0_0 : Int) (x16_0_1 : Int) (x16_0_2 : Int) (x16_0_3 : Int) (b16_0_4 : Bool) (x16_1 : Int),
  e = .returned (.tuple #[.agg #[.int .i64 x16_0_0, .int .i64 x16_0_1, .int .i64 x16_0_2, .int .i64 x16_0_3, .bool b16_0_4], .int .i64 x16_1]) ∧
  newO w_2 (.cells #[.int .i64 0, .int .i64 0, .int .i64 0, .int .i64 0, .bool false] 88) fun g w_3 =>
  ∀ w_4 : World, BoxSt g w_3 w_4 →
  br (decide (x16_1 ≠ 0)) (
    K (.tuple #[.slice none 0 0, .int .i64 x16_1]) w_4
  ) (
    Calls Try.prog 48 #[.pointer p0] w_4 fun e_2 w_5 => KeepG [g] w_4 w_5 ∧
    ∃ (a23 : Option Addr) (n23 : Nat) (c23 : Nat),
    e_2 = .returned (.slice a23 n23 c23) ∧
    ∃ (I : Option Addr → Nat → Nat → Int → World → Prop) (μ : Option Addr → Nat → Nat → Int → World → Nat),
    I none 0 0 0 w_5 ∧
    ∀ (a8 : Option Addr) (n8 : Nat) (c8 : Nat) (x25 : Int) (w_6 : World), I a8 n8 c8 x25 w_6 →
    br (decide (x25 < ((n23 : Nat) : Int))) (
      withP a23 fun g27 o27 =>
      (0 : Int) ≤ x25 ∧ x25 < (((n23 : Nat) : Int) : Int) ∧
      ∃ (x28 : Int), w_6.cell? ⟨g27, o27 + x25.toNat * 1, none⟩ = some (.int .i64 x28) ∧
      Calls Try.prog 52 #[.pointer p0, .int .i64 x28] w_6 fun e_3 w_7 => KeepG [g] w_6 w_7 ∧
      ∃ (a32_0 : Option Addr) (n32_0 : Nat) (c32_0 : Nat) (x32_1 : Int),
      e_3 = .returned (.tuple #[.slice a32_0 n32_0 c32_0, .int .i64 x32_1]) ∧
      br (decide (x32_1 = 0)) (
        Calls Try.prog 96 #[.slice a32_0 n32_0 c32_0, .int .i64 x1] w_7 fun e_4 w_8 => KeepG [g] w_7 w_8 ∧
        ∃ (b40 : Bool),
        e_4 = .returned (.bool b40) ∧
        br b40 (
          newO w_8 (.cells #[.int .i64 x28] 3) fun g_2 w_9 =>
          appO Try.prog [g] w_9 3 1 8 23 a8 n8 c8 (.slice (some ⟨g_2, 0, none⟩) 1 1) fun m45 a45 c45 w_10 =>
          I a45 (n8 + m45) c45 (IntKind.i64.wrap (x25 + 1)) w_10 ∧ μ a45 (n8 + m45) c45 (IntKind.i64.wrap (x25 + 1)) w_10 < μ a8 n8 c8 x25 w_6
        ) (
          I a8 n8 c8 (IntKind.i64.wrap (x25 + 1)) w_8 ∧ μ a8 n8 c8 (IntKind.i64.wrap (x25 + 1)) w_8 < μ a8 n8 c8 x25 w_6
        )
      ) (
        I a8 n8 c8 (IntKind.i64.wrap (x25 + 1)) w_7 ∧ μ a8 n8 c8 (IntKind.i64.wrap (x25 + 1)) w_7 < μ a8 n8 c8 x25 w_6
      )
    ) (
      K (.tuple #[.slice a8 n8 c8, .int .i64 0]) w_6
    )
  )
def tbelow_notes : Notes := ⟨[], [(6, ⟨[(8, .lf (.slice)), (25, .lf (.int .i64))], [], [26, 27, 28, 10, 30, 31, 32, 29, 33, 34, 11, 12, 35, 36, 37, 38, 39, 40, 41, 42, 43, 44, 45, 8, 46, 25], []⟩)], []⟩
theorem tbelow_calls (p0 : Option Addr) (x1 : Int) (w : World) (K : Value → World → Prop) (h : tbelow_vc p0 x1 w K) : Calls Try.prog 53 #[.pointer p0, .int .i64 x1] w fun e w' => ∃ v, e = .returned v ∧ K v w' :=
  calls_of_fvc envOk Try.func53 tbelow_notes [6] [.pointer p0, .int .i64 x1] w K (use_vc h (by as_aux_lemma => kernel_rfl))
/-- (*purser/tree.Tree).Ids -/
def tids_vc (p0 : Option Addr) (w : World) (K : Value → World → Prop) : Prop :=
  br (Option.isNone p0) (
    K (.slice none 0 0) w
  ) (
    withP p0 fun g6 o6 =>
    ∃ (mb8 : Option Nat), w.cell? ⟨g6, o6, none⟩ = some (.map mb8) ∧
    Calls Try.prog 93 #[.map mb8] w fun e w_2 => KeepG [] w w_2 ∧
    ∃ (v9 : Value),
    e = .returned (v9) ∧
    Calls Try.prog 87 #[v9] w_2 fun e_2 w_3 => KeepG [] w_2 w_3 ∧
    ∃ (a10 : Option Addr) (n10 : Nat) (c10 : Nat),
    e_2 = .returned (.slice a10 n10 c10) ∧
    K (.slice a10 n10 c10) w_3
  )
def tids_notes : Notes := ⟨[], [], []⟩
theorem tids_calls (p0 : Option Addr) (w : World) (K : Value → World → Prop) (h : tids_vc p0 w K) : Calls Try.prog 48 #[.pointer p0] w fun e w' => ∃ v, e = .returned v ∧ K v w' :=
  calls_of_fvc envOk Try.func48 tids_notes [] [.pointer p0] w K (use_vc h (by as_aux_lemma => kernel_rfl))
end GTree
end Go.Proofs.Ytjcabccolkmlmaa
end
section
/- Arguments as the walks want them: bytes, rows of bytes. No program in sight. -/
namespace Go.Proofs.Ytjcabccolkmlmaa
open Go.RowKit Go.ChangeShapes
variable {H : Type} {enc : TypeId × Value → H} {P : Program} {W : World}
theorem addr_plain {w : World} {a : Addr} {v : Value} (h : w.cell? (a.add 0) = some v) : a = ⟨a.block, a.off, none⟩ := by
  have h0 : a.add 0 = a := by unfold Addr.add; rfl
  rw [h0] at h
  unfold World.cell? at h
  split at h
  · split at h
    · cases h
    · rename_i hs
      obtain ⟨b, o, s⟩ := a
      cases s with
      | none => rfl
      | some x => simp at hs
  · cases h
def ofI (zs : List Int) : List UInt8 := zs.map fun z => UInt8.ofNat z.toNat
theorem bV_ofI {z : Int} (h : (Lit.int .u8 z).wf = true) : bV (UInt8.ofNat z.toNat) = .int .u8 z := by
  have hz : 0 ≤ z ∧ z < 256 := by
    have e1 : IntKind.u8.min = 0 := rfl
    have e2 : IntKind.u8.max = 255 := rfl
    simp [Lit.wf] at h
    omega
  unfold bV
  rw [UInt8.toNat_ofNat', Nat.mod_eq_of_lt (by omega)]
  congr 1
  omega
theorem row_of_cells {a : Addr} {zs : List Int} {len : Nat} (hl : len ≤ zs.length) (hc : ∀ i, i < zs.length → W.cell? (a.add i) = some (.int .u8 (zs.getD i 0))) (hw : ∀ n ∈ zs, (Lit.int .u8 n).wf = true) : (ofI (zs.take len)).length = len ∧ RowAt W (some a) ((ofI (zs.take len)).map bV) := by
  refine ⟨by simp [ofI]; omega, ?_⟩
  cases hz : zs with
  | nil => exact .inl (by simp [ofI])
  | cons z0 r =>
    rw [← hz]
    have h0 := hc 0 (by rw [hz]; simp)
    have ha := addr_plain h0
    refine .inr ⟨a.block, a.off, by rw [← ha], fun i v hv => ?_⟩
    rw [List.getElem?_map, ofI, List.getElem?_map, List.getElem?_take] at hv
    split at hv
    · rcases hq : zs[i]? with _ | z
      · rw [hq] at hv; cases hv
      · rw [hq] at hv
        simp only [Option.map_some, Option.some.injEq] at hv
        have hi : i < zs.length := (List.getElem?_eq_some_iff.1 hq).1
        have h1 := hc i hi
        rw [ha, Addr.add_lit, List.getD_eq_getElem?_getD, hq] at h1
        rw [← hv, bV_ofI (hw z (List.mem_of_getElem? hq))]
        exact h1
    · cases hv
theorem open_bytes {t e : TypeId} {v : Value} {d : DataW H} {p : List MemPlace} (ht : P.underlying t = some (.slice e)) (he : P.underlying e = some (.int .u8)) (hc : P.cellsOf e = 1)
    (hv : ∃ a l c, v = .slice a l c) (h : DataW.Trod enc P W 0 (fun _ => true) true t v d p) : ∃ (bs : List UInt8) (a : Option Addr) (c : Nat), v = .slice a bs.length c ∧ bs.length ≤ c ∧ c ≤ maxLen ∧ RowAt W a (bs.map bV) := by
  obtain ⟨a, l, c, rfl⟩ := hv
  obtain ⟨fuel, hf⟩ := h
  rcases open_ints ht he hc hf with ⟨hcs, _⟩ | ⟨x, l', c', zs, hcs, _, hl, hm, hz, _, hcell, hwz⟩
  · simp [Value.cells] at hcs
    obtain ⟨rfl, rfl, rfl⟩ := hcs
    exact ⟨[], none, 0, rfl, Nat.le_refl _, by decide, .inl rfl⟩
  · simp [Value.cells] at hcs
    obtain ⟨rfl, rfl, rfl⟩ := hcs
    simp only [if_true] at hz
    obtain ⟨h1, h2⟩ := row_of_cells (len := l) (by omega) hcell hwz
    exact ⟨ofI (zs.take l), some x, c, by rw [h1], by rw [h1]; exact hl, hm, h2⟩
theorem open_parts {t e q : TypeId} {v : Value} {d : DataW H} {p : List MemPlace} (ht : P.underlying t = some (.slice e)) (he : P.underlying e = some (.slice q)) (hq : P.underlying q = some (.int .u8)) (ce : P.cellsOf e = 1) (cq : P.cellsOf q = 1)
    (hv : ∃ a l c, v = .slice a l c) (h : DataW.Trod enc P W 0 (fun _ => true) true t v d p) : ∃ (ps : List (List UInt8)) (a : Option Addr) (c : Nat), v = .slice a ps.length c ∧ ps.length ≤ c ∧ c ≤ maxLen ∧ PartsAt W a ps := by
  obtain ⟨a, l, c, rfl⟩ := hv
  obtain ⟨fuel, hf⟩ := h
  rcases Deep.open_int_rows ht he hq ce cq hf with ⟨hcs, _⟩ | ⟨x, l', c', A, L, C, Z, hcs, _, hl, hm, _, hrow⟩
  · simp [Value.cells] at hcs
    obtain ⟨rfl, rfl, rfl⟩ := hcs
    exact ⟨[], none, 0, rfl, Nat.le_refl _, by decide, .nil⟩
  · simp [Value.cells] at hcs
    obtain ⟨rfl, rfl, rfl⟩ := hcs
    have each : ∀ r, r < c → (ofI ((Z r).take (L r))).length = L r ∧ RowAt W (A r) ((ofI ((Z r).take (L r))).map bV) := fun r hr => by
      obtain ⟨_, h2, _, h4, h5, h6, h7⟩ := hrow r hr
      cases hA : A r with
      | none =>
        have hC := h6 hA
        have hL : L r = 0 := by omega
        rw [hL]
        exact ⟨by simp [ofI], .inl (by simp [ofI])⟩
      | some a' => exact row_of_cells (by omega) (fun i hi => (h7 a' hA).2 i (by omega)) h5
    let ps : List (List UInt8) := (List.range l).map fun r => ofI ((Z r).take (L r))
    let vs : List (Option Addr × Nat) := (List.range l).map fun r => (A r, C r)
    have hps : ps.length = l := by simp [ps]
    refine ⟨ps, some x, c, by rw [hps], by rw [hps]; exact hl, hm, vs, ?_, by simp [ps, vs], ?_⟩
    · by_cases h0 : l = 0
      · exact .inl (by rw [List.map_eq_nil_iff]; simp [ps, vs, h0])
      · have ha := addr_plain (hrow 0 (by omega)).1
        refine .inr ⟨x.block, x.off, by rw [← ha], fun i v hv => ?_⟩
        rw [List.getElem?_map] at hv
        rcases hz : (vs.zip ps)[i]? with _ | ⟨v1, p1⟩
        · rw [hz] at hv; cases hv
        · rw [hz] at hv
          simp only [Option.map_some, Option.some.injEq] at hv
          rw [List.getElem?_zip_eq_some] at hz
          obtain ⟨z1, z2⟩ := hz
          have hi : i < l := by
            have := (List.getElem?_eq_some_iff.1 z2).1
            omega
          simp only [vs, ps, List.getElem?_map, List.getElem?_range hi, Option.map_some, Option.some.injEq] at z1 z2
          rw [← hv, ← z1, ← z2, (each i (by omega)).1]
          have h1 := (hrow i (by omega)).1
          rw [ha, Addr.add_lit] at h1
          exact h1
    · intro v1 p1 hm1
      obtain ⟨i, hi⟩ := List.getElem?_of_mem hm1
      rw [List.getElem?_zip_eq_some] at hi
      obtain ⟨z1, z2⟩ := hi
      have hi : i < l := by
        have := (List.getElem?_eq_some_iff.1 z2).1
        omega
      simp only [vs, ps, List.getElem?_map, List.getElem?_range hi, Option.map_some, Option.some.injEq] at z1 z2
      obtain ⟨_, h2, h3, _⟩ := hrow i (by omega)
      rw [← z1, ← z2, (each i (by omega)).1]
      exact ⟨(each i (by omega)).2, h2, Nat.le_trans h2 h3⟩
theorem int_nat {z : Int} (h : 0 ≤ z) : ∃ n : Nat, z = (n : Int) := ⟨z.toNat, by omega⟩
theorem u32_nat {z : Int} (h : (Lit.int .u32 z).wf = true) : ∃ n : Nat, z = (n : Int) ∧ n < 4294967296 := by
  have hz : 0 ≤ z ∧ z < 4294967296 := by
    have e1 : IntKind.u32.min = 0 := rfl
    have e2 : IntKind.u32.max = 4294967295 := rfl
    simp [Lit.wf] at h
    omega
  exact ⟨z.toNat, by omega, by omega⟩
theorem i64_range {z : Int} (h : (Lit.int .i64 z).wf = true) : -9223372036854775808 ≤ z ∧ z ≤ 9223372036854775807 := by
  have e1 : IntKind.i64.min = -9223372036854775808 := rfl
  have e2 : IntKind.i64.max = 9223372036854775807 := rfl
  simp [Lit.wf] at h
  omega
end Go.Proofs.Ytjcabccolkmlmaa
end
section
/- Data that came in, opened by their shape. No program in sight. -/
namespace Go.Proofs.Ytjcabccolkmlmaa
open Go.RowKit Go.WideShapes Go.ChangeShapes
/-- What a type looks like; a struct's fields one behind the other: offset, cells, shape. -/
inductive Sh where
  | int (k : IntKind)
  | bool
  | str
  | slice (e : Sh) (n : Nat)
  | arr (len : Nat) (e : Sh) (n : Nat)
  | agg (fs : Sh)
  | fnil
  | fcons (off n : Nat) (f r : Sh)
mutual
def fitsB (P : Program) : Sh → TypeId → Bool
  | .int k, t => match P.underlying t with | some (.int k') => k == k' | _ => false
  | .bool, t => match P.underlying t with | some .bool => true | _ => false
  | .str, t => match P.underlying t with | some .string => true | _ => false
  | .slice e n, t => match P.underlying t with | some (.slice et) => P.cellsOf et == n && fitsB P e et | _ => false
  | .arr len e n, t => match P.underlying t with | some (.array l et) => l == len && P.cellsOf et == n && fitsB P e et | _ => false
  | .agg fs, t => match P.underlying t with | some (.struct fl) => fitsF P fs fl 0 | _ => false
  | .fnil, _ => false
  | .fcons _ _ _ _, _ => false
def fitsF (P : Program) : Sh → Array Field → Nat → Bool
  | .fnil, _, _ => true
  | .fcons off n f r, fl, i => (match fl[i]? with | some fd => fd.offset == off && P.cellsOf fd.type == n && fitsB P f fd.type | none => false) && fitsF P r fl (i + 1)
  | _, _, _ => false
end
/-- What the cells of a shape hold, in a world. -/
def Sh.Has (w : World) : Sh → List Value → Prop
  | .int k, cs => ∃ z, cs = [.int k z] ∧ (Lit.int k z).wf = true
  | .bool, cs => ∃ b, cs = [.bool b]
  | .str, cs => ∃ s : ByteArray, cs = [.string s] ∧ s.size ≤ maxLen
  | .slice e n, cs => cs = [.slice none 0 0] ∨ ∃ a len cap, cs = [.slice (some a) len cap] ∧ len ≤ cap ∧ cap ≤ maxLen ∧ ∀ i, i < len → ∃ cs', (cs'.length = n ∧ ∀ j, j < n → w.cell? (a.add (i * n + j)) = cs'[j]?) ∧ e.Has w cs'
  | .arr len e n, cs => ∀ i, i < len → e.Has w ((cs.drop (i * n)).take n)
  | .agg fs, cs => fs.Has w cs
  | .fnil, _ => True
  | .fcons off n f r, cs => f.Has w ((cs.drop off).take n) ∧ r.Has w cs
section
variable {H : Type} {enc : TypeId × Value → H} {P : Program} {W : World}
mutual
theorem has_of (sh : Sh) : ∀ (t : TypeId) (fuel : Nat) (cs : List Value) (x : DataW H × List MemPlace), fitsB P sh t = true → DataW.trod enc P W 0 (fun _ => true) true fuel t cs = some x → sh.Has W cs := by
  intro t fuel cs x hf h
  cases sh with
  | int k =>
    simp only [fitsB] at hf
    split at hf
    · rename_i k' hu
      have : k = k' := eq_of_beq hf
      subst this
      obtain ⟨n, h1, _, h2⟩ := DataW.trod_int hu h
      exact ⟨n, h1, h2⟩
    · cases hf
  | bool =>
    simp only [fitsB] at hf
    split at hf
    · rename_i hu
      obtain ⟨b, h1, _⟩ := DataW.trod_bool hu h
      exact ⟨b, h1⟩
    · cases hf
  | str =>
    simp only [fitsB] at hf
    split at hf
    · rename_i hu
      obtain ⟨s, h1, _, h2⟩ := DataW.trod_string hu h
      exact ⟨s, h1, h2⟩
    · cases hf
  | slice e n =>
    simp only [fitsB] at hf
    split at hf
    · rename_i et hu
      rw [Bool.and_eq_true] at hf
      have hn : P.cellsOf et = n := eq_of_beq hf.1
      rcases Deep.open_slice hu h with ⟨h1, _⟩ | ⟨a, len, cap, m, nf, D, Pl, h1, _, hl, hm, hmm, _, hall⟩
      · exact .inl h1
      · refine .inr ⟨a, len, cap, h1, hl, hm, fun i hi => ?_⟩
        simp only [if_true] at hmm
        obtain ⟨cs', hc, ht⟩ := hall i (by omega)
        rw [hn] at hc
        obtain ⟨_, c1, c2⟩ := World.cells?_some hc
        refine ⟨cs', ⟨c1, fun j hj => ?_⟩, has_of e et _ _ _ hf.2 ht⟩
        rw [← c2 j hj, Addr.add_add]
    · cases hf
  | arr len e n =>
    simp only [fitsB] at hf
    split at hf
    · rename_i l et hu
      rw [Bool.and_eq_true, Bool.and_eq_true] at hf
      have hl : l = len := eq_of_beq hf.1.1
      have hn : P.cellsOf et = n := eq_of_beq hf.1.2
      subst hl
      obtain ⟨xs, m, _, _, _, hxl, hall⟩ := DataW.trod_array hu h
      intro i hi
      have := hall i hi
      rw [hn] at this
      rw [List.getElem?_eq_getElem (by omega)] at this
      exact has_of e et _ _ _ hf.2 this
    · cases hf
  | agg fs =>
    simp only [fitsB] at hf
    split at hf
    · rename_i fl hu
      obtain ⟨xs, n, _, _, _, hxl, hall⟩ := DataW.trod_struct hu h
      exact hasF_of fs fl 0 n cs xs hf hxl hall
    · cases hf
  | fnil => simp [fitsB] at hf
  | fcons off n f r => simp [fitsB] at hf
theorem hasF_of (sh : Sh) : ∀ (fl : Array Field) (i n : Nat) (cs : List Value) (xs : List (DataW H × List MemPlace)), fitsF P sh fl i = true → xs.length = fl.size →
    (∀ (i : Nat) (f : Field), fl[i]? = some f → DataW.trod enc P W 0 (fun _ => true) true n f.type ((cs.drop f.offset).take (P.cellsOf f.type)) = xs[i]?) → sh.Has W cs := by
  intro fl i n cs xs hf hl hall
  cases sh with
  | fnil => trivial
  | fcons off m f r =>
    simp only [fitsF, Bool.and_eq_true] at hf
    obtain ⟨h1, h2⟩ := hf
    refine ⟨?_, hasF_of r fl (i + 1) n cs xs h2 hl hall⟩
    split at h1
    · rename_i fd hfd
      rw [Bool.and_eq_true, Bool.and_eq_true] at h1
      have ho : fd.offset = off := eq_of_beq h1.1.1
      have hm : P.cellsOf fd.type = m := eq_of_beq h1.1.2
      have ht := hall i fd hfd
      have hi : i < xs.length := by rw [hl]; exact (Array.getElem?_eq_some_iff.1 hfd).1
      rw [List.getElem?_eq_getElem hi, ho, hm] at ht
      exact has_of f fd.type _ _ _ h1.2 ht
    · cases h1
  | int k => simp [fitsF] at hf
  | bool => simp [fitsF] at hf
  | str => simp [fitsF] at hf
  | slice e n => simp [fitsF] at hf
  | arr l e n => simp [fitsF] at hf
  | agg fs => simp [fitsF] at hf
end
theorem open_sh {sh : Sh} {t : TypeId} {v : Value} {d : DataW H} {p : List MemPlace} (hf : fitsB P sh t = true) (h : DataW.Trod enc P W 0 (fun _ => true) true t v d p) : sh.Has W v.cells.toList := by
  obtain ⟨fuel, hf'⟩ := h
  exact has_of sh t fuel _ _ hf hf'
end
theorem exists_list {α : Type} {p : Nat → α → Prop} : ∀ (n : Nat), (∀ i, i < n → ∃ x, p i x) → ∃ l : List α, l.length = n ∧ ∀ i x, l[i]? = some x → p i x := by
  intro n
  induction n with
  | zero => intro _; exact ⟨[], rfl, fun i x h => by cases h⟩
  | succ n ih =>
    intro h
    obtain ⟨l, hl, hp⟩ := ih fun i hi => h i (by omega)
    obtain ⟨x, hx⟩ := h n (by omega)
    refine ⟨l ++ [x], by simp [hl], fun i y hy => ?_⟩
    by_cases hi : i < l.length
    · rw [List.getElem?_append_left hi] at hy; exact hp i y hy
    · rw [List.getElem?_append_right (by omega)] at hy
      have h0 : i - l.length = 0 := by
        have := (List.getElem?_eq_some_iff.1 hy).1; simp at this; omega
      rw [h0] at hy
      simp at hy
      subst hy
      rw [show i = n by omega]; exact hx
/-- Where a slice's elements lie. -/
theorem slice_addr {w : World} {a : Addr} {v : Value} (h : w.cell? (a.add 0) = some v) : a = ⟨a.block, a.off, none⟩ := addr_plain h
def shBytes : Sh := .slice (.int .u8) 1
theorem has_bytes {w : World} {cs : List Value} (h : shBytes.Has w cs) : ∃ (bs : List UInt8) (a : Option Addr) (c : Nat), cs = [.slice a bs.length c] ∧ bs.length ≤ c ∧ c ≤ maxLen ∧ RowAt w a (bs.map bV) := by
  rcases h with rfl | ⟨a, len, cap, rfl, hl, hm, hall⟩
  · exact ⟨[], none, 0, rfl, Nat.le_refl _, by decide, .inl rfl⟩
  · obtain ⟨zs, hz, hp⟩ := exists_list (p := fun i z => w.cell? (a.add i) = some (.int .u8 z) ∧ (Lit.int .u8 z).wf = true) len (fun i hi => by
      obtain ⟨cs', ⟨h1, h2⟩, z, rfl, hw⟩ := hall i hi
      have := h2 0 (by omega)
      simp at this
      exact ⟨z, this, hw⟩)
    obtain ⟨h1, h2⟩ := row_of_cells (W := w) (a := a) (zs := zs) (len := len) (by omega) (fun i hi => by
      have := (hp i zs[i] (List.getElem?_eq_getElem hi)).1
      rw [this]; congr 2; simp [List.getD, List.getElem?_eq_getElem hi]) (fun n hn => by
      obtain ⟨i, hi⟩ := List.getElem?_of_mem hn
      exact (hp i n hi).2)
    exact ⟨ofI (zs.take len), some a, cap, by rw [h1], by rw [h1]; exact hl, hm, h2⟩
theorem has_int {w : World} {k : IntKind} {cs : List Value} (h : (Sh.int k).Has w cs) : ∃ z, cs = [.int k z] ∧ (Lit.int k z).wf = true := h
end Go.Proofs.Ytjcabccolkmlmaa
end
section
/- Small words for using printed conditions. No program in sight. -/
namespace Go.Proofs.Ytjcabccolkmlmaa
open Go.RowKit
theorem keepG_nil (w w1 : World) : KeepG [] w w1 := fun _ g hg => by cases hg
theorem keepG_below {gs : List Nat} {w w1 : World} (h : Below w.heap.size w w1) : KeepG gs w w1 := fun hu g hg => h.block g (hu g hg)
theorem keepG_fr {gs L : List Nat} {w w1 : World} (h : Fr L w w1) (ha : ∀ g ∈ gs, g ∉ L) : KeepG gs w w1 := fun hu g hg => h.block g (hu g hg) (ha g hg)
/-- A call whose contract tells one value. -/
theorem wr64 {z : Int} (h1 : -9223372036854775808 ≤ z) (h2 : z ≤ 9223372036854775807) : IntKind.i64.wrap z = z := IntWalk.i64_in z ⟨h1, h2⟩
theorem wru64 {z : Int} (h1 : 0 ≤ z) (h2 : z ≤ 18446744073709551615) : IntKind.u64.wrap z = z := by rw [IntKind.wrap_u64]; omega
theorem wru8 {z : Int} (h1 : 0 ≤ z) (h2 : z ≤ 255) : IntKind.u8.wrap z = z := by rw [IntKind.wrap_u8]; omega
theorem u64_mod (z : Int) (k : Nat) (hk : 0 < k) : ∃ m : Nat, m < k ∧ Int.tmod (IntKind.u64.wrap z) (k : Int) = (m : Int) := by
  have h0 : 0 ≤ IntKind.u64.wrap z := by rw [IntKind.wrap_u64]; omega
  have h1 := Int.emod_nonneg (IntKind.u64.wrap z) (show (k : Int) ≠ 0 by omega)
  have h2 := Int.emod_lt_of_pos (IntKind.u64.wrap z) (show (0 : Int) < (k : Int) by omega)
  exact ⟨(IntKind.u64.wrap z % (k : Int)).toNat, by omega, by rw [Int.tmod_eq_emod_of_nonneg h0]; omega⟩
theorem br_t {b : Bool} {A B : Prop} (hb : b = true) (h : A) : br b A B := by rw [br_true hb]; exact h
theorem br_f {b : Bool} {A B : Prop} (hb : b = false) (h : B) : br b A B := by rw [br_false hb]; exact h
theorem br_y {p : Prop} [Decidable p] {A B : Prop} (hp : p) (h : A) : br (decide p) A B := br_t (decide_eq_true hp) h
theorem br_n {p : Prop} [Decidable p] {A B : Prop} (hp : ¬ p) (h : B) : br (decide p) A B := br_f (decide_eq_false hp) h
theorem br_not {b : Bool} {A B : Prop} (h : br b B A) : br (!b) A B := by cases b <;> exact h
/-- A new block. -/
theorem newO_mk {w : World} {o : Obj} {K : Nat → World → Prop} (h : K w.heap.size (w.alloc o)) : newO w o K := by rintro g w1 rfl rfl; exact h
theorem newO_in {w : World} {o : Obj} {K : Nat → World → Prop} (h : ∀ w1, w1.heap[w.heap.size]? = some o → Below w.heap.size w w1 → w1.heap.size = w.heap.size + 1 → K w.heap.size w1) : newO w o K := by
  rintro g w1 rfl rfl; exact h _ (al_new rfl) (Below_one o) (by simp)
theorem drewO_in {w : World} {K : World → Prop} (h : ∀ w1, Below w.heap.size w w1 → w1.heap = w.heap → K w1) : drewO w K := fun w1 h1 h2 => h w1 h2 h1
theorem cellsAt_row {w : World} {g : Nat} {cs : Array Value} {t : TypeId} {fr : Nat × Nat} (h : w.heap[g]? = some (.cells cs t fr)) {off : Nat} {vs : List Value} (hv : (cs.toList.drop off).take vs.length = vs) : cellsAt w g off vs :=
  cellsAt_of fun j v hj => by
    rw [cell_of_row _ _ _ _ _ _ h]
    rw [← hv, List.getElem?_take] at hj
    split at hj
    · rw [List.getElem?_drop] at hj; simpa using hj
    · cases hj
theorem row_of_block {w : World} {g : Nat} {bs : List UInt8} {t : TypeId} {fr : Nat × Nat} (h : w.heap[g]? = some (.cells (bs.map bV).toArray t fr)) : RowAt w (some ⟨g, 0, none⟩) (bs.map bV) := RowAt.ofWhole h
/-- A block's cells, as what is appended. -/
theorem src_block {P : Program} {W : World} {tx e' : TypeId} (hk : P.underlying tx = some (.slice e')) {g n c size : Nat} {cs : List Value} {t : TypeId} {fr : Nat × Nat} (h : W.heap[g]? = some (.cells cs.toArray t fr)) (hl : cs.length = n * size) (h1 : allOne cs = true) :
    Src P size tx (.slice (some ⟨g, 0, none⟩) n c) n cs W :=
  Src.ofSlice _ hk _ n c _ hl (fun j u hj => by
    rw [Addr.add_lit, Nat.zero_add, cell_of_row _ _ _ _ _ _ h]
    simpa using hj) (allOne_spec h1)
theorem own_cell {w : World} {b : Nat} {e : TypeId} {a : Option Addr} {n c : Nat} {xs : List Value} (h : Own w b e 1 (.slice a n c) n xs) {i : Nat} {v : Value} (hi : xs[i]? = some v) : ∃ g off, a = some ⟨g, off, none⟩ ∧ w.cell? ⟨g, off + i * 1, none⟩ = some v := by
  have hlt : i < xs.length := (List.getElem?_eq_some_iff.1 hi).1
  have hl := h.1
  rcases h.2 with ⟨h0, h1⟩ | ⟨g, off, cap, cur, hv, _⟩
  · omega
  · injection hv with h1 h2 h3
    subst h1
    exact ⟨g, off, rfl, by rw [Nat.mul_one]; exact h.cells g off _ rfl i v hi⟩
theorem Bk.there {w : World} {g : Nat} {cs : Array Value} {t : TypeId} (h : Bk w g cs t) {i n : Nat} (hi : i + n ≤ cs.size) : w.there g i n := fun j hj => by
  refine ⟨?_, h.frozen _⟩
  rw [h.cell]
  rw [Array.getElem?_eq_getElem (by omega)]
  rfl
theorem stO_bk {gs : List Nat} {w : World} {g i : Nat} {cs : Array Value} {t : TypeId} {v : Value} {K : World → Prop} (h : Bk w g cs t) (hi : i < cs.size) (hg : ∀ x ∈ gs, x ≠ g) (hk : ∀ w1, Bk w1 g (cs.setIfInBounds i v) t → Fr [g] w w1 → w1.heap.size = w.heap.size → K w1) : stO gs w g i [v] K :=
  ⟨hg, h.there (by simp; omega), fun w1 e => by
    subst e
    exact hk _ (h.setCell i v) ((Fr.refl [g] w).setCell (p := ⟨g, i, none⟩) (.inl (by simp)) v) (by simp [World.setCells, World.setCell])⟩
theorem stO_set {gs : List Nat} {w : World} {g i : Nat} {cs : Array Value} {t : TypeId} {v : Value} {K : World → Prop} (h : Bk w g cs t) (hi : i < cs.size) (hg : ∀ x ∈ gs, x ≠ g) (hk : K (w.setCell ⟨g, i, none⟩ v)) : stO gs w g i [v] K :=
  ⟨hg, h.there (by simp; omega), fun w1 e => by subst e; exact hk⟩
theorem sliceBase_cell {w : World} {b off c l s j : Nat} {v : Value} (hlt : l ≠ c) (h : w.cell? ⟨b, off + l * s + j, none⟩ = some v) : ∃ b' off', sliceBase (some ⟨b, off, none⟩) c l s = some ⟨b', off', none⟩ ∧ w.cell? ⟨b', off' + j, none⟩ = some v := by
  refine ⟨b, off + l * s, ?_, h⟩
  unfold sliceBase
  rw [if_neg (fun e => hlt e.symm)]
  simp [Addr.add_lit]
theorem own_empty {w : World} {g : Nat} {e : TypeId} (s : Nat) (h : w.heap[g]? = some (.cells #[] e (0, 0))) : Own w 0 e s (.slice (some ⟨g, 0, none⟩) 0 0) 0 [] :=
  ⟨by simp, .inr ⟨g, 0, 0, #[], rfl, Nat.zero_le _, h, Nat.le_refl _, Nat.zero_le _, by simp, by simp⟩⟩
theorem Own.store {w : World} {b : Nat} {e : TypeId} {a : Option Addr} {n c : Nat} {xs : List Value} (h : Own w b e 1 (.slice a n c) n xs) {i : Nat} (hi : i < n) {gs : List Nat} {v : Value} {K : World → Prop} (hgs : ∀ k, (Value.slice a n c).ownBlock = some k → ∀ x ∈ gs, x ≠ k)
    (hk : ∀ w1, Own w1 b e 1 (.slice a n c) n (xs.set i v) → Fr (Value.slice a n c).ownBlock.toList w w1 → w1.heap.size = w.heap.size → K w1) : ∃ g off, a = some ⟨g, off, none⟩ ∧ stO gs w g (off + i * 1) [v] K := by
  rcases h.2 with ⟨h0, h1⟩ | ⟨g, off, cap, cur, hv, hb, hg, hn, hm, hs, ht⟩
  · omega
  · injection hv with h1 h2 h3
    subst h1; subst h3
    have hB : Bk w g cur e := hg
    refine ⟨g, off, rfl, ?_⟩
    rw [Nat.mul_one]
    refine stO_bk hB (by omega) (fun x hx => hgs g rfl x hx) fun w1 hb1 hf hsz => ?_
    refine hk w1 ⟨by rw [List.length_set]; exact h.1, .inr ⟨g, off, c, _, rfl, hb, hb1, hn, hm, by simpa using hs, ?_⟩⟩ hf hsz
    rw [← ht, Array.toList_setIfInBounds, List.drop_set]
    rw [if_neg (by omega), show off + i - off = i by omega, List.take_set]
theorem Own.storeAt {w : World} {b : Nat} {e : TypeId} {g off n c : Nat} {xs : List Value} (h : Own w b e 1 (.slice (some ⟨g, off, none⟩) n c) n xs) {i : Nat} (hi : i < n) {gs : List Nat} {v : Value} {K : World → Prop} (hgs : ∀ x ∈ gs, x ≠ g)
    (hk : ∀ w1, Own w1 b e 1 (.slice (some ⟨g, off, none⟩) n c) n (xs.set i v) → Fr [g] w w1 → w1.heap.size = w.heap.size → K w1) : stO gs w g (off + i * 1) [v] K := by
  obtain ⟨g', off', he, hst⟩ := Own.store (K := K) (v := v) h hi (fun k hk x hx => by injection hk with hk; subst hk; exact hgs x hx) hk
  injection he with he
  injection he with e1 e2
  subst e1; subst e2
  exact hst
/-- One byte more or other. -/
theorem bits_byte (op : BinOp) (x y : Int) : ∃ b : UInt8, bitsV op .u8 x y = (b.toNat : Int) := by
  have key : ∀ z : Int, ∃ b : UInt8, IntKind.u8.wrap z = (b.toNat : Int) := fun z => by
    have h : 0 ≤ IntKind.u8.wrap z ∧ IntKind.u8.wrap z < 256 := by rw [IntKind.wrap_u8]; omega
    refine ⟨UInt8.ofNat (IntKind.u8.wrap z).toNat, ?_⟩
    rw [show (UInt8.ofNat (IntKind.u8.wrap z).toNat).toNat = (IntKind.u8.wrap z).toNat % 256 from rfl, Nat.mod_eq_of_lt (by omega)]
    omega
  unfold bitsV
  cases op <;> exact key _
theorem strOf_cat (xs ys : List UInt8) : strOf xs ++ strOf ys = strOf (xs ++ ys) := by
  apply ByteArray.ext
  simp [strOf, ByteArray.data_append]
theorem strOf_extract (xs : List UInt8) (i j : Nat) : (strOf xs).extract i j = strOf ((xs.drop i).take (j - i)) := by
  apply ByteArray.ext
  simp [strOf, ByteArray.data_extract, List.take_drop]
theorem byteAt_strOf (xs : List UInt8) (i : Nat) : byteAt (strOf xs) (i : Int) = ((xs.getD i 0).toNat : Int) := by unfold byteAt; rw [strOf_list]; rfl
end Go.Proofs.Ytjcabccolkmlmaa
end
section
/- Slices of structs that came in: their elements, one behind the other. No program in sight. -/
namespace Go.Proofs.Ytjcabccolkmlmaa
open Go.RowKit Go.WideShapes Go.ChangeShapes
/-- Elements of n cells each, of which R tells where they lie. -/
def RowsAt {α : Type} (R : World → Nat → Nat → α → Prop) (n : Nat) (w : World) (a : Option Addr) (xs : List α) : Prop := xs = [] ∨ ∃ b off, a = some ⟨b, off, none⟩ ∧ ∀ i x, xs[i]? = some x → R w b (off + i * n) x
theorem RowsAt.mono {α : Type} {R : World → Nat → Nat → α → Prop} {n : Nat} {w w' : World} {a : Option Addr} {xs : List α} (h : RowsAt R n w a xs) (hm : ∀ b off x, R w b off x → R w' b off x) : RowsAt R n w' a xs := by
  rcases h with h | ⟨b, off, ha, h⟩
  · exact .inl h
  · exact .inr ⟨b, off, ha, fun i x hx => hm _ _ _ (h i x hx)⟩
theorem RowsAt.get {α : Type} {R : World → Nat → Nat → α → Prop} {n : Nat} {w : World} {a : Option Addr} {xs : List α} (h : RowsAt R n w a xs) {i : Nat} (hi : i < xs.length) : ∃ b off, a = some ⟨b, off, none⟩ ∧ R w b (off + i * n) xs[i] := by
  rcases h with rfl | ⟨b, off, ha, h⟩
  · simp at hi
  · exact ⟨b, off, ha, h i _ (List.getElem?_eq_getElem hi)⟩
theorem has_rows {α : Type} {e : Sh} {n : Nat} (hn : 0 < n) {R : World → Nat → Nat → α → Prop} {w : World} (elem : ∀ (cs' : List Value) (b off : Nat), cs'.length = n → cellsAt w b off cs' → e.Has w cs' → ∃ x, R w b off x) {cs : List Value} (h : (Sh.slice e n).Has w cs) :
    ∃ (xs : List α) (a : Option Addr) (c : Nat), cs = [.slice a xs.length c] ∧ xs.length ≤ c ∧ c ≤ maxLen ∧ RowsAt R n w a xs := by
  rcases h with rfl | ⟨a, len, cap, rfl, hl, hm, hall⟩
  · exact ⟨[], none, 0, rfl, Nat.le_refl _, by decide, .inl rfl⟩
  · obtain ⟨xs, hz, hp⟩ := exists_list (p := fun i (x : α) => R w a.block (a.off + i * n) x ∧ a = ⟨a.block, a.off, none⟩) len (fun i hi => by
      obtain ⟨cs0, ⟨h01, h02⟩, _⟩ := hall 0 (by omega)
      have ha : a = ⟨a.block, a.off, none⟩ := by
        have := h02 0 (by omega)
        rw [List.getElem?_eq_getElem (by omega)] at this
        simp only [Nat.zero_mul, Nat.zero_add] at this
        exact addr_plain this
      obtain ⟨cs', ⟨h1, h2⟩, h3⟩ := hall i hi
      obtain ⟨x, hx⟩ := elem cs' a.block (a.off + i * n) h1 (cellsAt_of fun j v hj => by
        have hjn : j < n := by have := (List.getElem?_eq_some_iff.1 hj).1; omega
        have := h2 j hjn
        rw [ha, Addr.add_lit, ← Nat.add_assoc, hj] at this
        exact this) h3
      exact ⟨x, hx, ha⟩)
    refine ⟨xs, some a, cap, by rw [hz], by omega, hm, ?_⟩
    by_cases h0 : xs = []
    · exact .inl h0
    · have h1 : 0 < xs.length := List.length_pos_iff.2 h0
      have ha := (hp 0 _ (List.getElem?_eq_getElem h1)).2
      exact .inr ⟨a.block, a.off, by rw [← ha], fun i p hi => (hp i p hi).1⟩
theorem cellsAt_below {w w' : World} {b off : Nat} {vs : List Value} (h : cellsAt w b off vs) {B : Nat} (hb : Below B w w') (hB : w.heap.size ≤ B) : cellsAt w' b off vs :=
  cellsAt_of fun j v hj => by
    have h1 := cellsAt_get h j v hj
    exact (hb.cell (p := ⟨b, off + j, none⟩) (Nat.lt_of_lt_of_le (block_lt_of_cell h1) hB)).trans h1
theorem open_rows {P : Program} {α : Type} {e : Sh} {n : Nat} {R : World → Nat → Nat → α → Prop} {H : Type} {enc : TypeId × Value → H} {W : World} {t : TypeId} {v : Value} {d : DataW H} {p : List MemPlace} (hn : 0 < n) (elem : ∀ (cs' : List Value) (b off : Nat), cs'.length = n → cellsAt W b off cs' → e.Has W cs' → ∃ x, R W b off x)
    (hf : fitsB P (.slice e n) t = true) (hv : ∃ a l c, v = .slice a l c) (h : DataW.Trod enc P W 0 (fun _ => true) true t v d p) : ∃ (xs : List α) (a : Option Addr) (c : Nat), v = .slice a xs.length c ∧ RowsAt R n W a xs ∧ xs.length ≤ c ∧ c ≤ maxLen := by
  obtain ⟨a, l, c, rfl⟩ := hv
  obtain ⟨xs, a', c', h1, h2, h3, h4⟩ := has_rows hn elem (open_sh hf h)
  simp [Value.cells] at h1
  obtain ⟨rfl, rfl, rfl⟩ := h1
  exact ⟨xs, a, c, rfl, h4, h2, h3⟩
end Go.Proofs.Ytjcabccolkmlmaa
end
section
/- An object with a list of its own: each element so many cells, what an element refers to in blocks that the object owns. No program in sight. -/
namespace Go.Proofs.Ytjcabccolkmlmaa
open Go.RowKit
theorem cell_keep {w w' : World} {b : Nat} (hk : w'.heap[b]? = w.heap[b]?) (o : Nat) : w'.cell? ⟨b, o, none⟩ = w.cell? ⟨b, o, none⟩ := by unfold World.cell?; simp only [hk]
theorem cellsAt_keep {w w' : World} {b : Nat} (hk : w'.heap[b]? = w.heap[b]?) : ∀ {vs : List Value} {off : Nat}, cellsAt w b off vs → cellsAt w' b off vs
  | [], _, _ => trivial
  | _ :: _, _, h => ⟨(cell_keep hk _).trans h.1, cellsAt_keep hk h.2⟩
theorem cellsAt_list {w : World} {b : Nat} : ∀ {vs : List Value} {off : Nat}, (∀ j v, vs[j]? = some v → w.cell? ⟨b, off + j, none⟩ = some v) → cellsAt w b off vs
  | [], _, _ => trivial
  | v :: r, off, h => ⟨by simpa using h 0 v rfl, cellsAt_list fun j u hu => by have := h (j + 1) u (by simpa using hu); rwa [show off + (j + 1) = off + 1 + j by omega] at this⟩
structure RStable {α : Type} (R : World → List Nat → α → List Value → Prop) (k : Nat) : Prop where
  len : ∀ {w : World} {M : List Nat} {e : α} {cs : List Value}, R w M e cs → cs.length = k
  keep : ∀ {w w' : World} {M : List Nat} {e : α} {cs : List Value}, R w M e cs → (∀ b ∈ M, w'.heap[b]? = w.heap[b]?) → R w' M e cs
  mono : ∀ {w : World} {M K : List Nat} {e : α} {cs : List Value}, R w M e cs → (∀ b ∈ M, b ∈ K) → R w K e cs
def ElsOk {α : Type} (R : World → List Nat → α → List Value → Prop) (k : Nat) (w : World) (M : List Nat) (es : List α) (xs : List Value) : Prop :=
  xs.length = es.length * k ∧ ∀ (i : Nat) (e : α), es[i]? = some e → R w M e ((xs.drop (i * k)).take k)
section
variable {α : Type} {R : World → List Nat → α → List Value → Prop} {k : Nat} {w w' : World} {M K : List Nat} {es : List α} {xs : List Value}
theorem ElsOk.nil : ElsOk R k w M [] [] := ⟨by simp, fun i e h => by cases h⟩
theorem ElsOk.keep (hR : RStable R k) (h : ElsOk R k w M es xs) (hk : ∀ b ∈ M, w'.heap[b]? = w.heap[b]?) : ElsOk R k w' M es xs := ⟨h.1, fun i e he => hR.keep (h.2 i e he) hk⟩
theorem ElsOk.mono (hR : RStable R k) (h : ElsOk R k w M es xs) (hs : ∀ b ∈ M, b ∈ K) : ElsOk R k w K es xs := ⟨h.1, fun i e he => hR.mono (h.2 i e he) hs⟩
theorem ElsOk.app (hR : RStable R k) (h : ElsOk R k w M es xs) {e : α} {cs : List Value} (he : R w M e cs) : ElsOk R k w M (es ++ [e]) (xs ++ cs) := by
  have hc := hR.len he
  refine ⟨by rw [List.length_append, List.length_append, h.1, hc, List.length_singleton, Nat.add_mul, Nat.one_mul], fun i x hx => ?_⟩
  by_cases hi : i < es.length
  · rw [List.getElem?_append_left hi] at hx
    have := h.2 i x hx
    have hm : i * k + k ≤ xs.length := by
      rw [h.1]
      have := Nat.mul_le_mul_right k (show i + 1 ≤ es.length from hi)
      rw [Nat.add_mul, Nat.one_mul] at this
      exact this
    rwa [List.drop_append_of_le_length (by omega), List.take_append_of_le_length (by rw [List.length_drop]; omega)]
  · have hlt := (List.getElem?_eq_some_iff.1 hx).1
    rw [List.length_append, List.length_singleton] at hlt
    obtain rfl : i = es.length := by omega
    rw [List.getElem?_append_right (Nat.le_refl _), Nat.sub_self] at hx
    injection hx with hx; subst hx
    rw [← h.1, List.drop_left, List.take_of_length_le (by omega)]
    exact he
theorem ElsOk.erase (h : ElsOk R k w M es xs) {i : Nat} (hi : i < es.length) : ElsOk R k w M (es.eraseIdx i) (xs.take (i * k) ++ xs.drop ((i + 1) * k)) := by
  have e1 : (i + 1) * k = i * k + k := by rw [Nat.add_mul, Nat.one_mul]
  have e2 : (es.length - 1) * k + k = es.length * k := by
    rw [← Nat.add_one_mul]; congr 1; omega
  have hm : i * k + k ≤ xs.length := by
    rw [h.1]
    have := Nat.mul_le_mul_right k (show i + 1 ≤ es.length from hi)
    omega
  have hxl := h.1
  refine ⟨by rw [List.length_append, List.length_take, List.length_drop, List.length_eraseIdx_of_lt hi]; omega, fun j x hx => ?_⟩
  rw [List.getElem?_eraseIdx] at hx
  split at hx
  · rename_i hj
    have := h.2 j x hx
    have hjk : j * k + k ≤ i * k := by
      have := Nat.mul_le_mul_right k (show j + 1 ≤ i from hj)
      rw [Nat.add_mul, Nat.one_mul] at this; exact this
    rw [List.drop_append_of_le_length (by rw [List.length_take]; omega), List.take_append_of_le_length (by rw [List.length_drop, List.length_take]; omega), List.drop_take, List.take_take]
    rwa [Nat.min_eq_left (by omega)]
  · rename_i hj
    have := h.2 (j + 1) x hx
    have hjk : i * k ≤ j * k := Nat.mul_le_mul_right k (by omega)
    have e3 : (j + 1) * k = j * k + k := by rw [Nat.add_mul, Nat.one_mul]
    have hlt : (xs.take (i * k)).length = i * k := by rw [List.length_take]; omega
    rw [List.drop_append, hlt, List.drop_eq_nil_of_le (by omega), List.nil_append, List.drop_drop]
    rwa [show (i + 1) * k + (j * k - i * k) = (j + 1) * k by omega]
theorem ElsOk.cells (hR : RStable R k) (h : ElsOk R k w M es xs) {te : TypeId} {b0 c : Nat} {a : Option Addr} (hO : Own w b0 te k (.slice a es.length c) es.length xs) {i : Nat} {e : α} (he : es[i]? = some e) :
    ∃ cs, R w M e cs ∧ ∃ b off, a = some ⟨b, off, none⟩ ∧ (b0 ≤ b ∧ b < w.heap.size) ∧ cellsAt w b (off + i * k) cs := by
  have hr := h.2 i e he
  refine ⟨_, hr, ?_⟩
  have hlt := (List.getElem?_eq_some_iff.1 he).1
  rcases hO.2 with ⟨_, h0⟩ | ⟨g, off, cap, cur, hv, hb, hg, _⟩
  · omega
  · injection hv with q1 q2 q3
    subst q1
    refine ⟨g, off, rfl, ⟨hb, heap_lt hg⟩, cellsAt_list fun j v hv => ?_⟩
    rw [List.getElem?_take] at hv
    split at hv
    · rw [List.getElem?_drop] at hv
      rw [Nat.add_assoc]
      exact hO.cells g off c rfl _ v hv
    · cases hv
/-- The object under way: what it owns lies in L, or is new. -/
structure LRaw (R : World → List Nat → α → List Value → Prop) (k : Nat) (te tp : TypeId) (w : World) (L : List Nat) (n0 p : Nat) (f : Value → Array Value) (es : List α) (kv : Value) (xs : List Value) (M : List Nat) : Prop where
  bk : Bk w p (f kv) tp
  own : Own w 0 te k kv es.length xs
  els : ElsOk R k w M es xs
  far : ∀ b ∈ M, (b ∈ L ∨ n0 ≤ b) ∧ b ≠ p ∧ kv.ownBlock ≠ some b
  mine : ∀ b, kv.ownBlock = some b → b ∈ L ∨ n0 ≤ b
  under : Under M w.heap.size
variable {te tp : TypeId} {L : List Nat} {n0 p : Nat} {f : Value → Array Value} {kv : Value}
theorem own_apart {g : Nat} {cs : Array Value} {t e : TypeId} {size n b0 : Nat} {v : Value} {xs : List Value} (h1 : Bk w g cs t) (h2 : Own w b0 e size v n xs) (hne : t ≠ e) : v.ownBlock ≠ some g := by
  intro h
  rcases h2.2 with ⟨rfl, _⟩ | ⟨g', off, cap, cur, rfl, hb, hg, _⟩
  · cases h
  · simp [Value.ownBlock] at h
    subst h
    unfold Bk at h1
    rw [h1] at hg
    injection hg with hg
    injection hg with h3 h4 h5
    exact hne h4
theorem LRaw.keep (hR : RStable R k) (h : LRaw R k te tp w L n0 p f es kv xs M) (hk : ∀ b, (b = p ∨ kv.ownBlock = some b ∨ b ∈ M) → w'.heap[b]? = w.heap[b]?) (hs : w.heap.size ≤ w'.heap.size) : LRaw R k te tp w' L n0 p f es kv xs M :=
  ⟨h.bk.keep (hk p (.inl rfl)), h.own.keep fun b hb => hk b (.inr (.inl hb)), h.els.keep hR fun b hb => hk b (.inr (.inr hb)), h.far, h.mine, h.under.mono hs⟩
theorem LRaw.lt (h : LRaw R k te tp w L n0 p f es kv xs M) {b : Nat} (hb : b = p ∨ kv.ownBlock = some b ∨ b ∈ M) : b < w.heap.size := by
  rcases hb with rfl | hb | hb
  · exact h.bk.lt
  · exact (h.own.lt b hb).2
  · exact h.under b hb
theorem LRaw.below (hR : RStable R k) (h : LRaw R k te tp w L n0 p f es kv xs M) (hb : Below w.heap.size w w') : LRaw R k te tp w' L n0 p f es kv xs M := h.keep hR (fun b hb' => hb.block b (h.lt hb')) hb.size
theorem LRaw.more (hR : RStable R k) (h : LRaw R k te tp w L n0 p f es kv xs M) (B : List Nat) (hB : ∀ b ∈ B, (b ∈ L ∨ n0 ≤ b) ∧ b < w.heap.size ∧ b ≠ p ∧ kv.ownBlock ≠ some b) : LRaw R k te tp w L n0 p f es kv xs (M ++ B) :=
  ⟨h.bk, h.own, h.els.mono hR fun _ hk => List.mem_append_left _ hk, fun b hb => (List.mem_append.1 hb).elim (h.far b) fun hb => ⟨(hB b hb).1, (hB b hb).2.2⟩, h.mine, fun b hb => (List.mem_append.1 hb).elim (h.under b) fun hb => (hB b hb).2.1⟩
theorem LRaw.wider (h : LRaw R k te tp w L n0 p f es kv xs M) (hs : ∀ b ∈ L, b ∈ K) : LRaw R k te tp w K n0 p f es kv xs M :=
  ⟨h.bk, h.own, h.els, fun b hb => ⟨(h.far b hb).1.imp (hs b) id, (h.far b hb).2⟩, fun b hb => (h.mine b hb).imp (hs b) id, h.under⟩
/-- The list has turned, and is stored: appended to, cut, or new. -/
theorem LRaw.turn (hR : RStable R k) (hne : tp ≠ te) (h : LRaw R k te tp w L n0 p f es kv xs M) (hn : n0 ≤ w.heap.size) {es' : List α} {xs' : List Value} (he : ElsOk R k w M es' xs') {v1 : Value} (ho : Own w' 0 te k v1 es'.length xs') (hp : w'.heap[p]? = w.heap[p]?) (hM : ∀ b ∈ M, w'.heap[b]? = w.heap[b]?) (hs : w.heap.size ≤ w'.heap.size)
    (hn1 : v1.ownBlock = kv.ownBlock ∨ ∃ g, v1.ownBlock = some g ∧ w.heap.size ≤ g) {j : Nat} (hj : (f kv).setIfInBounds j v1 = f v1) : LRaw R k te tp (w'.setCell ⟨p, j, none⟩ v1) L n0 p f es' v1 xs' M := by
  have b1 := h.bk.keep hp
  have hk1 : ∀ b, b ≠ p → (w'.setCell ⟨p, j, none⟩ v1).heap[b]? = w'.heap[b]? := fun b hb => Below.heap_setCell _ _ _ _ hb
  have hfar : ∀ b ∈ M, v1.ownBlock ≠ some b := fun b hb e => by
    rcases hn1 with h1 | ⟨g, h1, hg1⟩
    · exact (h.far b hb).2.2 (h1 ▸ e)
    · rw [h1] at e; injection e with e; have := h.under b hb; omega
  refine ⟨hj ▸ b1.setCell j v1, ho.keep fun b hb => hk1 b fun e2 => own_apart b1 ho hne (e2 ▸ hb), (he.keep hR hM).keep hR fun b hb => hk1 b (h.far b hb).2.1, fun b hb => ⟨(h.far b hb).1, (h.far b hb).2.1, hfar b hb⟩, fun b hb => ?_, (h.under.mono hs).mono (by simp)⟩
  rcases hn1 with h1 | ⟨g, h1, hg1⟩
  · exact h.mine b (h1 ▸ hb)
  · rw [h1] at hb; injection hb with hb; exact .inr (by omega)
/-- Another cell of the object is stored. -/
theorem LRaw.cell (hR : RStable R k) (hne : tp ≠ te) (h : LRaw R k te tp w L n0 p f es kv xs M) {j : Nat} {v : Value} {f' : Value → Array Value} (hj : (f kv).setIfInBounds j v = f' kv) : LRaw R k te tp (w.setCell ⟨p, j, none⟩ v) L n0 p f' es kv xs M := by
  have hk1 : ∀ b, b ≠ p → (w.setCell ⟨p, j, none⟩ v).heap[b]? = w.heap[b]? := fun b hb => Below.heap_setCell _ _ _ _ hb
  exact ⟨hj ▸ h.bk.setCell j v, h.own.keep fun b hb => hk1 b fun e2 => own_apart h.bk h.own hne (e2 ▸ hb), h.els.keep hR fun b hb => hk1 b (h.far b hb).2.1, h.far, h.mine, h.under.mono (by simp)⟩
/-- The object, with all that it owns. -/
structure LAt (R : World → List Nat → α → List Value → Prop) (k : Nat) (te tp : TypeId) (w : World) (L : List Nat) (p : Nat) (f : Value → Array Value) (es : List α) : Prop where
  ex : ∃ kv xs M, Bk w p (f kv) tp ∧ Own w 0 te k kv es.length xs ∧ ElsOk R k w M es xs ∧ (∀ b ∈ M, b ∈ L ∧ b ≠ p ∧ kv.ownBlock ≠ some b) ∧ ∀ b, kv.ownBlock = some b → b ∈ L
  mem : p ∈ L
  under : Under L w.heap.size
theorem LAt.raw (h : LAt R k te tp w L p f es) (n0 : Nat) : ∃ kv xs M, LRaw R k te tp w L n0 p f es kv xs M := by
  obtain ⟨⟨kv, xs, M, h1, h2, h3, h4, h5⟩, hm, hu⟩ := h
  exact ⟨kv, xs, M, h1, h2, h3, fun b hb => ⟨.inl (h4 b hb).1, (h4 b hb).2⟩, fun b hb => .inl (h5 b hb), fun b hb => hu b (h4 b hb).1⟩
theorem LRaw.at (h : LRaw R k te tp w L n0 p f es kv xs M) (hp : p ∈ L) : ∃ L', LAt R k te tp w L' p f es ∧ Gr L L' n0 := by
  refine ⟨p :: (kv.ownBlock.toList ++ M), ⟨⟨kv, xs, M, h.bk, h.own, h.els, fun b hb => ⟨by simp [hb], (h.far b hb).2⟩, fun b hb => by simp [hb]⟩, by simp, fun b hb => ?_⟩, fun b hb => ?_⟩
  · rcases List.mem_cons.1 hb with rfl | hb
    · exact h.bk.lt
    · rcases List.mem_append.1 hb with hb | hb
      · exact (h.own.lt b (by simpa using hb)).2
      · exact h.under b hb
  · rcases List.mem_cons.1 hb with rfl | hb
    · exact .inl hp
    · rcases List.mem_append.1 hb with hb | hb
      · exact h.mine b (by simpa using hb)
      · exact (h.far b hb).1
theorem LAt.keep (hR : RStable R k) (h : LAt R k te tp w L p f es) (hk : ∀ b ∈ L, w'.heap[b]? = w.heap[b]?) (hs : w.heap.size ≤ w'.heap.size) : LAt R k te tp w' L p f es := by
  obtain ⟨⟨kv, xs, M, h1, h2, h3, h4, h5⟩, hm, hu⟩ := h
  exact ⟨⟨kv, xs, M, h1.keep (hk p hm), h2.keep (fun b e => hk b (h5 b e)), h3.keep hR (fun b e => hk b (h4 b e).1), h4, h5⟩, hm, hu.mono hs⟩
theorem LAt.fr (hR : RStable R k) (h : LAt R k te tp w L p f es) (hf : Fr K w w') (ha : Apart L K) : LAt R k te tp w' L p f es := h.keep hR (hf.keep ha h.under) hf.size
theorem LAt.below (hR : RStable R k) (h : LAt R k te tp w L p f es) (hb : Below w.heap.size w w') : LAt R k te tp w' L p f es := h.keep hR (fun b hk => hb.block b (h.under b hk)) hb.size
end
end Go.Proofs.Ytjcabccolkmlmaa
end
section
/- One element less: what 'slices.Delete' does to a list that is owned. No program in sight. -/
namespace Go.Proofs.Ytjcabccolkmlmaa
open Go.RowKit
variable {P : Program} {w : World} {b : Nat} {e : TypeId} {k : Nat} {xs : List Value}
theorem Own.pre {a : Option Addr} {n c i : Nat} (h : Own w b e k (.slice a n c) n xs) (hi : i ≤ n) : Own w b e k (.slice a i c) i (xs.take (i * k)) := by
  obtain ⟨hl, h⟩ := h
  have hm : i * k ≤ n * k := Nat.mul_le_mul_right k hi
  refine ⟨by rw [List.length_take]; omega, ?_⟩
  rcases h with ⟨h0, h1⟩ | ⟨g, off, cap, cur, hv, hb, hg, hn, hm2, hs, ht⟩
  · injection h0 with q1 q2 q3
    subst q1; subst q3
    obtain rfl : i = 0 := by omega
    exact .inl ⟨rfl, rfl⟩
  · injection hv with q1 q2 q3
    subst q1; subst q3
    refine .inr ⟨g, off, c, cur, rfl, hb, hg, by omega, hm2, hs, ?_⟩
    rw [← ht, List.take_take, Nat.min_eq_left hm]
theorem own_somewhere {a : Option Addr} {n c : Nat} (h : Own w b e k (.slice a n c) n xs) (hn : 0 < n) : ∃ g off, a = some ⟨g, off, none⟩ ∧ n ≤ c := by
  rcases h.2 with ⟨_, h0⟩ | ⟨g, off, cap, cur, hv, _, _, hc, _⟩
  · omega
  · injection hv with q1 q2 q3
    subst q1; subst q3
    exact ⟨g, off, rfl, hc⟩
theorem Own.tail {a : Option Addr} {n c i : Nat} (h : Own w b e k (.slice a n c) n xs) (hi : i < n) {tx e' : TypeId} (hk : P.underlying tx = some (.slice e')) (h1 : ∀ v ∈ xs, v.oneCell' = true) :
    Src P k tx (.slice (sliceBase a c (i + 1) k) (n - (i + 1)) (c - (i + 1))) (n - (i + 1)) (xs.drop ((i + 1) * k)) w := by
  obtain ⟨g, off, rfl, hc⟩ := own_somewhere h (by omega)
  have hx := h.1
  have e1 : (n - (i + 1)) * k + (i + 1) * k = n * k := by rw [← Nat.add_mul]; congr 1; omega
  have hl : (xs.drop ((i + 1) * k)).length = (n - (i + 1)) * k := by rw [List.length_drop]; omega
  have h1' : ∀ v ∈ xs.drop ((i + 1) * k), v.oneCell' = true := fun v hv => h1 v (List.mem_of_mem_drop hv)
  unfold sliceBase
  split
  · rename_i hce
    have h0 : n - (i + 1) = 0 := by omega
    have hd : xs.drop ((i + 1) * k) = [] := List.eq_nil_of_length_eq_zero (by rw [hl, h0, Nat.zero_mul])
    rw [hd] at hl h1' ⊢
    exact Src.ofSlice w hk _ _ _ _ hl (fun j u hu => by cases hu) h1'
  · refine Src.ofSlice w hk _ _ _ _ hl (fun j u hu => ?_) h1'
    rw [List.getElem?_drop] at hu
    have := h.cells g off c rfl _ u hu
    show w.cell? (((⟨g, off, none⟩ : Addr).add ((i + 1) * k)).add j) = some u
    rw [Addr.add_lit, Addr.add_lit, Nat.add_assoc]
    exact this
theorem own_beyond1 {g off n c j : Nat} (h : Own w b e k (.slice (some ⟨g, off, none⟩) n c) n xs) (hj : n * k ≤ j) (hc : j < c * k) (v : Value) :
    (w.cell? ⟨g, off + j, none⟩).isSome = true ∧ w.frozen? ⟨g, off + j, none⟩ = false ∧ Own (w.setCell ⟨g, off + j, none⟩ v) b e k (.slice (some ⟨g, off, none⟩) n c) n xs := by
  obtain ⟨hl, h⟩ := h
  rcases h with ⟨h0, h1⟩ | ⟨g', off', cap, cur, hv, hb, hg, hn, hm2, hs, ht⟩
  · cases h0
  · injection hv with q1 q2 q3
    injection q1 with q1
    injection q1 with q1 q4
    subst q1; subst q3; subst q4
    have hB : Bk w g cur e := hg
    refine ⟨?_, hB.frozen _, hl, .inr ⟨g, off, c, _, rfl, hb, hB.setCell (off + j) v, hn, hm2, by simpa using hs, ?_⟩⟩
    · rw [hB.cell, Array.getElem?_eq_getElem (by omega)]; rfl
    · rw [← ht, Array.toList_setIfInBounds, List.drop_set]
      rw [if_neg (by omega), show off + j - off = j by omega, List.take_set, List.set_eq_of_length_le (by rw [List.length_take]; omega)]
theorem own_beyond {g off n c : Nat} : ∀ (vs : List Value) (j : Nat) (w : World), Own w b e k (.slice (some ⟨g, off, none⟩) n c) n xs → n * k ≤ j → j + vs.length ≤ c * k →
    w.there g (off + j) vs.length ∧ Own (w.setCells g (off + j) vs) b e k (.slice (some ⟨g, off, none⟩) n c) n xs ∧ Fr [g] w (w.setCells g (off + j) vs) ∧ (w.setCells g (off + j) vs).heap.size = w.heap.size
  | [], j, w, h, _, _ => ⟨fun i hi => by simp at hi, h, Fr.refl _ _, rfl⟩
  | v :: r, j, w, h, hj, hc => by
    rw [List.length_cons] at hc
    obtain ⟨h1, h2, h3⟩ := own_beyond1 h hj (by omega) v
    obtain ⟨k1, k2, k3, k4⟩ := own_beyond r (j + 1) _ h3 (by omega) (by omega)
    rw [← Nat.add_assoc] at k1 k2 k3 k4
    refine ⟨fun i hi => ?_, k2, ((Fr.refl [g] w).setCell (p := ⟨g, off + j, none⟩) (.inl (by simp)) v).trans k3 (Gr.refl _ _), k4.trans (by simp)⟩
    rw [List.length_cons] at hi
    refine ⟨?_, ?_⟩
    · obtain ⟨a1, a2, _⟩ := own_beyond1 h (j := j + i) (by omega) (by omega) v
      rw [Nat.add_assoc]; exact a1
    · obtain ⟨a1, a2, _⟩ := own_beyond1 h (j := j + i) (by omega) (by omega) v
      rw [Nat.add_assoc]; exact a2
theorem els_one {α : Type} {R : World → List Nat → α → List Value → Prop} {M : List Nat} {es : List α} (h : ElsOk R k w M es xs) (hR : ∀ w M e cs, R w M e cs → ∀ v ∈ cs, v.oneCell' = true) : ∀ v ∈ xs, v.oneCell' = true := by
  intro v hv
  obtain ⟨j, hj⟩ := List.getElem?_of_mem hv
  have hlt := (List.getElem?_eq_some_iff.1 hj).1
  have hl := h.1
  have hk : 0 < k := by
    rcases Nat.eq_zero_or_pos k with h0 | h0
    · subst h0; omega
    · exact h0
  have hi : j / k < es.length := Nat.div_lt_of_lt_mul (by rw [Nat.mul_comm]; omega)
  have := h.2 _ _ (List.getElem?_eq_getElem hi)
  refine hR _ _ _ _ this v ?_
  have hm : j = j / k * k + j % k := by rw [Nat.mul_comm]; exact (Nat.div_add_mod j k).symm
  have hmod := Nat.mod_lt j hk
  refine List.mem_iff_getElem?.2 ⟨j % k, ?_⟩
  rw [List.getElem?_take, if_pos hmod, List.getElem?_drop, ← hm]
  exact hj
end Go.Proofs.Ytjcabccolkmlmaa
end
section
/- One element of an owned list is written over. No program in sight. -/
namespace Go.Proofs.Ytjcabccolkmlmaa
open Go.RowKit
variable {w : World} {b : Nat} {e : TypeId} {k : Nat} {xs : List Value}
def setL : List Value → Nat → List Value → List Value
  | xs, _, [] => xs
  | xs, j, v :: r => setL (xs.set j v) (j + 1) r
theorem setL_len : ∀ (vs : List Value) (xs : List Value) (j : Nat), (setL xs j vs).length = xs.length
  | [], _, _ => rfl
  | v :: r, xs, j => by rw [setL, setL_len r, List.length_set]
theorem setL_get : ∀ (vs : List Value) (xs : List Value) (j i : Nat), j + vs.length ≤ xs.length → (setL xs j vs)[i]? = if j ≤ i ∧ i < j + vs.length then vs[i - j]? else xs[i]?
  | [], xs, j, i, _ => by rw [setL, if_neg (by simp only [List.length_nil]; omega)]
  | v :: r, xs, j, i, h => by
    rw [List.length_cons] at h
    rw [setL, setL_get r (xs.set j v) (j + 1) i (by rw [List.length_set]; omega), List.length_cons]
    by_cases h1 : i = j
    · subst h1
      rw [if_neg (by omega), if_pos (by omega), Nat.sub_self, List.getElem?_set_self (by omega)]
      rfl
    · by_cases h2 : j + 1 ≤ i ∧ i < j + 1 + r.length
      · rw [if_pos h2, if_pos (by omega), show i - j = (i - (j + 1)) + 1 by omega, List.getElem?_cons_succ]
      · rw [if_neg h2, if_neg (by omega), List.getElem?_set_ne (by omega)]
theorem own_in1 {g off n c j : Nat} (h : Own w b e k (.slice (some ⟨g, off, none⟩) n c) n xs) (hj : j < n * k) (v : Value) :
    (w.cell? ⟨g, off + j, none⟩).isSome = true ∧ w.frozen? ⟨g, off + j, none⟩ = false ∧ Own (w.setCell ⟨g, off + j, none⟩ v) b e k (.slice (some ⟨g, off, none⟩) n c) n (xs.set j v) := by
  obtain ⟨hl, h⟩ := h
  rcases h with ⟨h0, h1⟩ | ⟨g', off', cap, cur, hv, hb, hg, hn, hm2, hs, ht⟩
  · cases h0
  · injection hv with q1 q2 q3
    injection q1 with q1
    injection q1 with q1 q4
    subst q1; subst q3; subst q4
    have hB : Bk w g cur e := hg
    have hm : n * k ≤ c * k := Nat.mul_le_mul_right k hn
    refine ⟨?_, hB.frozen _, by rw [List.length_set]; exact hl, .inr ⟨g, off, c, _, rfl, hb, hB.setCell (off + j) v, hn, hm2, by simpa using hs, ?_⟩⟩
    · rw [hB.cell, Array.getElem?_eq_getElem (by omega)]; rfl
    · rw [← ht, Array.toList_setIfInBounds, List.drop_set]
      rw [if_neg (by omega), show off + j - off = j by omega, List.take_set]
theorem own_setL {g off n c : Nat} : ∀ (vs : List Value) (j : Nat) (w : World) (xs : List Value), Own w b e k (.slice (some ⟨g, off, none⟩) n c) n xs → j + vs.length ≤ n * k →
    w.there g (off + j) vs.length ∧ Own (w.setCells g (off + j) vs) b e k (.slice (some ⟨g, off, none⟩) n c) n (setL xs j vs) ∧ Fr [g] w (w.setCells g (off + j) vs) ∧ (w.setCells g (off + j) vs).heap.size = w.heap.size
  | [], j, w, xs, h, _ => ⟨fun i hi => by simp at hi, h, Fr.refl _ _, rfl⟩
  | v :: r, j, w, xs, h, hc => by
    rw [List.length_cons] at hc
    obtain ⟨h1, h2, h3⟩ := own_in1 h (j := j) (by omega) v
    obtain ⟨k1, k2, k3, k4⟩ := own_setL r (j + 1) _ _ h3 (by omega)
    rw [← Nat.add_assoc] at k1 k2 k3 k4
    refine ⟨fun i hi => ?_, k2, ((Fr.refl [g] w).setCell (p := ⟨g, off + j, none⟩) (.inl (by simp)) v).trans k3 (Gr.refl _ _), k4.trans (by simp)⟩
    rw [List.length_cons] at hi
    obtain ⟨a1, a2, _⟩ := own_in1 h (j := j + i) (by omega) v
    rw [Nat.add_assoc]
    exact ⟨a1, a2⟩
/-- An element of so many cells is stored. -/
theorem Own.storeK {g off n c i : Nat} (h : Own w b e k (.slice (some ⟨g, off, none⟩) n c) n xs) (hi : i < n) {vs : List Value} (hv : vs.length = k) {gs : List Nat} (hgs : ∀ x ∈ gs, x ≠ g) {K : World → Prop}
    (hk : ∀ w1, Own w1 b e k (.slice (some ⟨g, off, none⟩) n c) n (setL xs (i * k) vs) → Fr [g] w w1 → w1.heap.size = w.heap.size → K w1) : stO gs w g (off + i * k) vs K := by
  have hm : i * k + k ≤ n * k := by
    have := Nat.mul_le_mul_right k (show i + 1 ≤ n from hi)
    rw [Nat.add_mul, Nat.one_mul] at this; exact this
  obtain ⟨k1, k2, k3, k4⟩ := own_setL vs (i * k) w xs h (by omega)
  exact ⟨hgs, k1, fun w1 e1 => by subst e1; exact hk _ k2 k3 k4⟩
theorem ElsOk.set {α : Type} {R : World → List Nat → α → List Value → Prop} {M : List Nat} {es : List α} (hR : RStable R k) (h : ElsOk R k w M es xs) {i : Nat} (hi : i < es.length) {x : α} {cs : List Value} (hx : R w M x cs) : ElsOk R k w M (es.set i x) (setL xs (i * k) cs) := by
  have hl := h.1
  have hc := hR.len hx
  have hm : ∀ j, j < es.length → j * k + k ≤ xs.length := fun j hj => by
    rw [hl]
    have := Nat.mul_le_mul_right k (show j + 1 ≤ es.length from hj)
    rw [Nat.add_mul, Nat.one_mul] at this; exact this
  refine ⟨by rw [setL_len, List.length_set, hl], fun j y hy => ?_⟩
  have hj : j < es.length := by have := (List.getElem?_eq_some_iff.1 hy).1; rwa [List.length_set] at this
  have key : ((setL xs (i * k) cs).drop (j * k)).take k = if i = j then cs else (xs.drop (j * k)).take k := by
    apply List.ext_getElem?
    intro q
    rw [List.getElem?_take]
    by_cases hq : q < k
    · rw [if_pos hq, List.getElem?_drop, setL_get _ _ _ _ (by have := hm i hi; omega)]
      by_cases hij : i = j
      · subst hij
        rw [if_pos rfl, if_pos (by omega)]
        congr 1; omega
      · rw [if_neg hij]
        have hne : ¬ (i * k ≤ j * k + q ∧ j * k + q < i * k + cs.length) := by
          rintro ⟨h1, h2⟩
          rcases Nat.lt_or_gt_of_ne hij with h3 | h3
          · have := Nat.mul_le_mul_right k (show i + 1 ≤ j from h3)
            rw [Nat.add_mul, Nat.one_mul] at this; omega
          · have := Nat.mul_le_mul_right k (show j + 1 ≤ i from h3)
            rw [Nat.add_mul, Nat.one_mul] at this; omega
        rw [if_neg hne, List.getElem?_take, if_pos hq, List.getElem?_drop]
    · rw [if_neg hq]
      symm
      split
      · rw [List.getElem?_eq_none (by omega)]
      · rw [List.getElem?_take, if_neg hq]
  rw [key]
  by_cases hij : i = j
  · subst hij
    rw [List.getElem?_set_self hi] at hy
    injection hy with hy; subst hy
    rw [if_pos rfl]; exact hx
  · rw [List.getElem?_set_ne hij] at hy
    rw [if_neg hij]
    exact h.2 j y hy
end Go.Proofs.Ytjcabccolkmlmaa
end
section
/- Functions that write nothing but blocks of their own: their steps, seen from the world that they began in. No program in sight. -/
namespace Go.Proofs.Ytjcabccolkmlmaa
open Go.RowKit
theorem box_below {w w1 w2 : World} {g : Nat} (h : Below w.heap.size w w1) (hg : w.heap.size ≤ g) (hb : BoxSt g w1 w2) : Below w.heap.size w w2 := h.trans (hb.1.below (fun k hk => by rw [List.mem_singleton] at hk; omega) h.size)
/-- One value comes back, and what was there is as it was. -/
def Ret (v : Value) (w : World) : Ending → World → Prop := fun e w' => e = .returned v ∧ Below w.heap.size w w'
theorem ret_in {P : Program} {f : FuncId} {av : Array Value} {w : World} {v : Value} (h : Calls P f av w fun e w' => ∃ u, e = .returned u ∧ (u = v ∧ Below w.heap.size w w')) : Calls P f av w (Ret v w) :=
  h.mono (by rintro e w' ⟨u, rfl, rfl, b⟩; exact ⟨rfl, b⟩)
theorem ret_same {P : Program} {f : FuncId} {av : Array Value} {w : World} {v : Value} (h : Calls P f av w fun e w' => e = .returned v ∧ w' = w) : Calls P f av w (Ret v w) :=
  h.mono (by rintro e w' ⟨rfl, rfl⟩; exact ⟨rfl, Below.refl _ _⟩)
section
variable {w0 w : World}
abbrev Bs (w0 w : World) : Prop := Below w0.heap.size w0 w
theorem Bs.refl (w : World) : Bs w w := Below.refl _ _
theorem Bs.to {w1 : World} (B : Bs w0 w) (b : Below w.heap.size w w1) : Bs w0 w1 := Below.trans B (b.mono B.size)
theorem Bs.box {g : Nat} {w1 : World} (B : Bs w0 w) (hg : w0.heap.size ≤ g) (h : BoxSt g w w1) : Bs w0 w1 := box_below B hg h
theorem newB (B : Bs w0 w) {o : Obj} {K : Nat → World → Prop} (h : ∀ g w1, w0.heap.size ≤ g → w.heap.size = g → w1.heap[g]? = some o → w1.heap.size = g + 1 → Below w.heap.size w w1 → Bs w0 w1 → K g w1) : newO w o K := by
  rintro g w1 rfl rfl
  exact h _ _ B.size rfl (al_new rfl) (by simp) (Below_one o) (B.to (Below_one o))
theorem drewB (B : Bs w0 w) {K : World → Prop} (h : ∀ w1, Below w.heap.size w w1 → Bs w0 w1 → w1.heap = w.heap → K w1) : drewO w K := fun w1 h1 h2 => h w1 h2 (B.to h2) h1
theorem boxB {g : Nat} (B : Bs w0 w) (hg : w0.heap.size ≤ g) {K : World → Prop} (h : ∀ w1, BoxSt g w w1 → Bs w0 w1 → w1.heap.size = w.heap.size → K w1) : ∀ w1, BoxSt g w w1 → K w1 := fun w1 h1 => h w1 h1 (B.box hg h1) h1.2
theorem callB {P : Program} {f : FuncId} {av : Array Value} {v : Value} {gs : List Nat} {R : Ending → World → Prop} (B : Bs w0 w) (h : Calls P f av w (Ret v w)) (k : ∀ w1, Below w.heap.size w w1 → Bs w0 w1 → R (.returned v) w1) :
    Calls P f av w (fun e w1 => KeepG gs w w1 ∧ R e w1) := h.mono (by rintro e w1 ⟨rfl, b⟩; exact ⟨keepG_below b, k w1 b (B.to b)⟩)
theorem callQ {P : Program} {f : FuncId} {av : Array Value} {gs : List Nat} {Q R : Ending → World → Prop} (B : Bs w0 w) (h : Calls P f av w (fun e w1 => Q e w1 ∧ Below w.heap.size w w1)) (k : ∀ e w1, Q e w1 → Below w.heap.size w w1 → Bs w0 w1 → R e w1) :
    Calls P f av w (fun e w1 => KeepG gs w w1 ∧ R e w1) := h.mono (by rintro e w1 ⟨q, b⟩; exact ⟨keepG_below b, k e w1 q b (B.to b)⟩)
end
/-- Elements of k cells each, one behind the other, in a block from n0 on. -/
def Rws {α : Type} (enc : α → List Value) (k n0 : Nat) (w : World) (a : Option Addr) (xs : List α) : Prop := xs = [] ∨ ∃ b off, a = some ⟨b, off, none⟩ ∧ n0 ≤ b ∧ ∀ i x, xs[i]? = some x → cellsAt w b (off + i * k) (enc x)
section
variable {α : Type} {enc : α → List Value} {k n0 : Nat} {w w' : World} {a : Option Addr} {xs : List α}
theorem Rws.nil : Rws enc k n0 w a [] := .inl rfl
theorem Rws.ofRows (h : RowsAt (fun w b off x => cellsAt w b off (enc x)) k w a xs) : Rws enc k 0 w a xs := h.elim .inl fun ⟨b, off, h1, h2⟩ => .inr ⟨b, off, h1, Nat.zero_le _, h2⟩
theorem Rws.low {n1 : Nat} (h : Rws enc k n0 w a xs) (hn : n1 ≤ n0) : Rws enc k n1 w a xs := h.elim .inl fun ⟨b, off, h1, h2, h3⟩ => .inr ⟨b, off, h1, Nat.le_trans hn h2, h3⟩
theorem Rws.keep (h : Rws enc k n0 w a xs) (hk : ∀ b, n0 ≤ b → b < w.heap.size → w'.heap[b]? = w.heap[b]?) : Rws enc k n0 w' a xs := by
  rcases h with h | ⟨b, off, ha, hb, h⟩
  · exact .inl h
  · refine .inr ⟨b, off, ha, hb, fun i x hx => cellsAt_of fun j v hj => ?_⟩
    have h1 := cellsAt_get (h i x hx) j v hj
    have h2 := block_lt_of_cell h1
    rw [cell_keep (hk b hb h2)]
    exact h1
theorem Rws.below (h : Rws enc k n0 w a xs) (hb : Below w.heap.size w w') : Rws enc k n0 w' a xs := h.keep fun b _ h2 => hb.block b h2
theorem Rws.box {g : Nat} (h : Rws enc k n0 w a xs) (hb : BoxSt g w w') (hg : g < n0) : Rws enc k n0 w' a xs := h.keep fun b h1 h2 => hb.1.block b h2 (by rw [List.mem_singleton]; omega)
theorem Rws.newbox {g : Nat} {w1 w2 : World} (h : Rws enc k n0 w a xs) (hb : Below w.heap.size w w1) (sg : w.heap.size = g) (hx : BoxSt g w1 w2) : Rws enc k n0 w2 a xs := h.keep fun b _ h2 => (hx.1.block b (by have := hb.size; omega) (by rw [List.mem_singleton]; omega)).trans (hb.block b h2)
theorem Rws.grown {r : Option Nat} (h : Rws enc k n0 w a xs) (hg : w.grownBy w' r) (hr : ∀ b, r = some b → b < n0) : Rws enc k n0 w' a xs := h.keep fun b h1 h2 => hg.block b h2 fun e => by have := hr b e.symm; omega
theorem Rws.get (h : Rws enc k n0 w a xs) {i : Nat} (hi : i < xs.length) : ∃ b off, a = some ⟨b, off, none⟩ ∧ cellsAt w b (off + i * k) (enc xs[i]) := by
  rcases h with rfl | ⟨b, off, ha, _, h⟩
  · simp at hi
  · exact ⟨b, off, ha, h i _ (List.getElem?_eq_getElem hi)⟩
theorem Rws.take (h : Rws enc k n0 w a xs) (n : Nat) : Rws enc k n0 w a (xs.take n) := by
  rcases h with rfl | ⟨b, off, ha, h0, h⟩
  · exact .inl (by simp)
  · refine .inr ⟨b, off, ha, h0, fun i x hx => h i x ?_⟩
    rw [List.getElem?_take] at hx
    split at hx
    · exact hx
    · cases hx
theorem flatK_len (hk : ∀ x, (enc x).length = k) : ∀ es : List α, (es.flatMap enc).length = es.length * k
  | [] => by simp
  | e :: r => by rw [List.flatMap_cons, List.length_append, flatK_len hk r, hk, List.length_cons, Nat.add_mul]; omega
theorem flatK_get (hk : ∀ x, (enc x).length = k) : ∀ (es : List α) (i : Nat) (e : α) (j : Nat), es[i]? = some e → j < k → (es.flatMap enc)[i * k + j]? = (enc e)[j]?
  | x :: r, 0, e, j, h, hj => by
    cases h
    rw [List.flatMap_cons, List.getElem?_append_left (by rw [hk]; omega)]
    congr 1; omega
  | x :: r, i + 1, e, j, h, hj => by
    have e1 : (i + 1) * k = i * k + k := by rw [Nat.add_mul, Nat.one_mul]
    rw [List.flatMap_cons, List.getElem?_append_right (by rw [hk]; omega), hk, show (i + 1) * k + j - k = i * k + j by omega]
    exact flatK_get hk r i e j (by simpa using h) hj
theorem Rws.ofOwn {t : TypeId} {n c : Nat} (hkp : 0 < k) (hk : ∀ x, (enc x).length = k) (h : Own w n0 t k (.slice a n c) n (xs.flatMap enc)) : Rws enc k n0 w a xs := by
  by_cases h0 : xs = []
  · exact .inl h0
  rcases h.2 with ⟨h1, h2⟩ | ⟨g, off, cap, cur, hv, hb, hg, hn, hm, hs, ht⟩
  · have h3 := h.1
    rw [flatK_len hk, h2, Nat.zero_mul] at h3
    exact absurd (List.length_eq_zero_iff.1 ((Nat.mul_eq_zero.1 h3).resolve_right (by omega))) h0
  · injection hv with h1 h2 h3
    subst h1; subst h3
    refine .inr ⟨g, off, rfl, hb, fun i x hx => cellsAt_list fun j v hv => ?_⟩
    have hj : j < k := by have := (List.getElem?_eq_some_iff.1 hv).1; rw [hk] at this; exact this
    have := flatK_get hk xs i x j hx hj
    rw [Nat.add_assoc]
    exact h.cells g off c rfl _ v (by rw [this]; exact hv)
theorem Rws.src {P : Program} {tx e' : TypeId} {c : Nat} (hT : P.underlying tx = some (.slice e')) (hkp : 0 < k) (hk : ∀ x, (enc x).length = k) (h1 : ∀ x, ∀ v ∈ enc x, v.oneCell' = true) (h : Rws enc k n0 w a xs) : Src P k tx (.slice a xs.length c) xs.length (xs.flatMap enc) w := by
  have hone : ∀ v ∈ xs.flatMap enc, v.oneCell' = true := fun v hv => by
    obtain ⟨x, _, hx⟩ := List.mem_flatMap.1 hv
    exact h1 x v hx
  cases a with
  | none =>
    rcases h with rfl | ⟨b, off, ha, _⟩
    · exact Src.ofNil w hT c
    · cases ha
  | some ad =>
    refine Src.ofSlice w hT ad _ _ _ (flatK_len hk xs) (fun j u hu => ?_) hone
    rcases h with rfl | ⟨b, off, ha, _, h⟩
    · cases hu
    · injection ha with ha; subst ha
      have hlt := (List.getElem?_eq_some_iff.1 hu).1
      rw [flatK_len hk] at hlt
      have hi : j / k < xs.length := (Nat.div_lt_iff_lt_mul hkp).2 hlt
      have hm : j % k < k := Nat.mod_lt _ hkp
      have hx := List.getElem?_eq_getElem hi
      have h1 := flatK_get hk xs (j / k) _ (j % k) hx hm
      have hd : j / k * k + j % k = j := by rw [Nat.mul_comm]; exact Nat.div_add_mod j k
      rw [hd, hu] at h1
      have := cellsAt_get (h _ _ hx) (j % k) u h1.symm
      rw [Addr.add_lit]
      rwa [Nat.add_assoc, hd] at this
end
theorem Rws.one {α : Type} {enc : α → List Value} {k n0 g : Nat} {w : World} {x : α} {t : TypeId} {fr : Nat × Nat} (h : w.heap[g]? = some (.cells (enc x).toArray t fr)) (hg : n0 ≤ g) : Rws enc k n0 w (some ⟨g, 0, none⟩) [x] := by
  refine .inr ⟨g, 0, rfl, hg, fun i y hy => ?_⟩
  have hi : i = 0 := by have := (List.getElem?_eq_some_iff.1 hy).1; simp at this; omega
  subst hi
  simp at hy
  subst hy
  rw [Nat.zero_mul]
  exact cellsAt_row h (by simp)
theorem Own.box {w w1 : World} {n1 size n g : Nat} {e : TypeId} {v : Value} {xs : List Value} (h : Own w n1 e size v n xs) (hb : BoxSt g w w1) (hg : ∀ k, v.ownBlock = some k → k ≠ g) : Own w1 n1 e size v n xs := h.keep fun k hk => hb.1.block k (h.lt k hk).2 (by rw [List.mem_singleton]; exact hg k hk)
/-- A new box was made and filled. -/
theorem Own.newbox {w w1 w2 : World} {n1 size n g : Nat} {e : TypeId} {v : Value} {xs : List Value} (h : Own w n1 e size v n xs) (hb : Below w.heap.size w w1) (sg : w.heap.size = g) (hx : BoxSt g w1 w2) : Own w2 n1 e size v n xs := (h.below hb (Nat.le_refl _)).box hx fun k hk => by have := (h.lt k hk).2; omega
/-- What is appended to, is one's own. -/
theorem appB {P : Program} {gs : List Nat} {w0 w : World} {e : TypeId} {size bytes n1 n c m : Nat} {tx : TypeId} {a : Option Addr} {x : Value} {xs news : List Value} {K : Nat → Option Addr → Nat → World → Prop}
    (B : Bs w0 w) (o : Own w n1 e size (.slice a n c) n xs) (hn1 : w0.heap.size ≤ n1) (hn2 : n1 ≤ w.heap.size) (s : Src P size tx x m news w) (h1 : n + m ≤ maxLen) (h2 : (n + m) * bytes ≤ 140737488355328)
    (hg : ∀ g ∈ gs, (Value.slice a n c).ownBlock ≠ some g)
    (k : ∀ a' c' w1, Own w1 n1 e size (.slice a' (n + m) c') (n + m) (xs ++ news) → w.grownBy w1 (Value.slice a n c).ownBlock → Bs w0 w1 → w.heap.size ≤ w1.heap.size → K m a' c' w1) :
    appO P gs w e size bytes tx a n c x K := by
  refine ⟨m, xs, news, o.base_le fun _ _ => Nat.zero_le _, s, h1, h2, hg, fun a' c' w1 o1 g1 or1 _ => k a' c' w1 (o1.base_le fun q hq => ?_) g1 ?_ g1.size⟩
  · rcases or1 with h | ⟨g, h, h3⟩
    · exact (o.lt q (h ▸ hq)).1
    · rw [h] at hq; injection hq with hq; omega
  · exact ⟨g1.os.trans B.os, g1.tape.trans B.tape, g1.output.trans B.output, Nat.le_trans B.size g1.size, fun q hq => (g1.block q (by have := B.size; omega) fun e => by have := (o.lt q e.symm).1; omega).trans (B.block q hq)⟩
end Go.Proofs.Ytjcabccolkmlmaa
end
section
/- More steps of functions seen from the world that they began in: blocks that are written over. No program in sight. -/
namespace Go.Proofs.Ytjcabccolkmlmaa
open Go.RowKit
/-- Cells of a block that are written over. -/
theorem stO_part {w : World} {g off : Nat} {t : TypeId} {cs : Array Value} {vs : List Value} {gs : List Nat} {K : World → Prop} (h : Bk w g cs t) (hl : off + vs.length ≤ cs.size) (hg : ∀ x ∈ gs, x ≠ g)
    (k : ∀ w1, Bk w1 g (setL cs.toList off vs).toArray t → Fr [g] w w1 → w1.heap.size = w.heap.size → K w1) : stO gs w g off vs K := by
  have key : ∀ (vs : List Value) (w : World) (cs : Array Value) (off : Nat), Bk w g cs t → off + vs.length ≤ cs.size → Bk (w.setCells g off vs) g (setL cs.toList off vs).toArray t ∧ Fr [g] w (w.setCells g off vs) ∧ (w.setCells g off vs).heap.size = w.heap.size := by
    intro vs
    induction vs with
    | nil => intro w cs off h _; exact ⟨by simpa [World.setCells, setL] using h, Fr.refl _ _, rfl⟩
    | cons v r ih =>
      intro w cs off h hl
      rw [List.length_cons] at hl
      obtain ⟨k1, k2, k3⟩ := ih (w.setCell ⟨g, off, none⟩ v) (cs.setIfInBounds off v) (off + 1) (h.setCell off v) (by simp; omega)
      refine ⟨?_, ((Fr.refl [g] w).setCell (p := ⟨g, off, none⟩) (.inl (by simp)) v).trans k2 (Gr.refl _ _), by rw [show w.setCells g off (v :: r) = (w.setCell ⟨g, off, none⟩ v).setCells g (off + 1) r from rfl, k3]; simp [World.setCell]⟩
      rw [Array.toList_setIfInBounds] at k1
      exact k1
  obtain ⟨k1, k2, k3⟩ := key vs w cs off h hl
  exact ⟨hg, h.there hl, fun w1 e => by subst e; exact k _ k1 k2 k3⟩
theorem setL_whole {vs xs : List Value} (h : vs.length = xs.length) : setL xs 0 vs = vs := by
  apply List.ext_getElem?
  intro i
  rw [setL_get vs xs 0 i (by omega)]
  by_cases hi : i < vs.length
  · rw [if_pos ⟨Nat.zero_le _, by omega⟩]; rfl
  · rw [if_neg (by omega), List.getElem?_eq_none (by omega), List.getElem?_eq_none (by omega)]
theorem Bs.fr {w0 w w1 : World} {L : List Nat} (B : Bs w0 w) (h : Fr L w w1) (hL : ∀ k ∈ L, w0.heap.size ≤ k) : Bs w0 w1 := Below.trans B (h.below hL B.size)
theorem Bs.fr1 {w0 w w1 : World} {g : Nat} (B : Bs w0 w) (h : Fr [g] w w1) (hg : w0.heap.size ≤ g) : Bs w0 w1 := B.fr h fun k hk => by rw [List.mem_singleton] at hk; omega
/-- A block of one's own is written over, wholly. -/
theorem stB {w0 w : World} {g : Nat} {t : TypeId} {cs : Array Value} {vs : List Value} {gs : List Nat} {K : World → Prop} (B : Bs w0 w) (hg0 : w0.heap.size ≤ g) (h : Bk w g cs t) (hl : vs.length = cs.size) (hg : ∀ x ∈ gs, x ≠ g)
    (k : ∀ w1, Bk w1 g vs.toArray t → Fr [g] w w1 → Bs w0 w1 → w1.heap.size = w.heap.size → K w1) : stO gs w g 0 vs K :=
  stO_part h (by omega) hg fun w1 h1 f1 z1 => k w1 (by rw [setL_whole (by simpa using hl)] at h1; exact h1) f1 (B.fr1 f1 hg0) z1
/-- One cell of it. -/
theorem stB1 {w0 w : World} {g i : Nat} {t : TypeId} {cs : Array Value} {v : Value} {gs : List Nat} {K : World → Prop} (B : Bs w0 w) (hg0 : w0.heap.size ≤ g) (h : Bk w g cs t) (hi : i < cs.size) (hg : ∀ x ∈ gs, x ≠ g)
    (k : ∀ w1, Bk w1 g (cs.setIfInBounds i v) t → Fr [g] w w1 → Bs w0 w1 → w1.heap.size = w.heap.size → K w1) : stO gs w g i [v] K :=
  stO_bk h hi hg fun w1 h1 f1 z1 => k w1 h1 f1 (B.fr1 f1 hg0) z1
theorem Bk.below {w w1 : World} {g : Nat} {cs : Array Value} {t : TypeId} (h : Bk w g cs t) (hb : Below w.heap.size w w1) : Bk w1 g cs t := h.keep (hb.block g h.lt)
theorem Bk.box {w w1 : World} {g k : Nat} {cs : Array Value} {t : TypeId} (h : Bk w g cs t) (hb : BoxSt k w w1) (hk : g ≠ k) : Bk w1 g cs t := h.keep (hb.1.block g h.lt (by rw [List.mem_singleton]; exact hk))
theorem Bk.fr {w w1 : World} {g : Nat} {L : List Nat} {cs : Array Value} {t : TypeId} (h : Bk w g cs t) (hb : Fr L w w1) (hk : g ∉ L) : Bk w1 g cs t := h.keep (hb.block g h.lt hk)
theorem Bk.fr1 {w w1 : World} {g k : Nat} {cs : Array Value} {t : TypeId} (h : Bk w g cs t) (hb : Fr [k] w w1) (hk : g ≠ k) : Bk w1 g cs t := h.fr hb (by rw [List.mem_singleton]; exact hk)
end Go.Proofs.Ytjcabccolkmlmaa
end
section
/- Arrays of structs in a block, told by a function of the place. No program in sight. -/
namespace Go.Proofs.Ytjcabccolkmlmaa
open Go.RowKit
def fArr (n : Nat) (f : Nat → Value) : Array Value := ((List.range n).map f).toArray
theorem fArr_size (n : Nat) (f : Nat → Value) : (fArr n f).size = n := by simp [fArr]
theorem fArr_get {n j : Nat} (f : Nat → Value) (h : j < n) : (fArr n f)[j]? = some (f j) := by simp [fArr, h]
theorem fArr_congr {n : Nat} {f f' : Nat → Value} (h : ∀ j, j < n → f j = f' j) : fArr n f = fArr n f' := by
  unfold fArr
  congr 1
  exact List.map_congr_left fun j hj => h j (List.mem_range.1 hj)
theorem fArr_of {n : Nat} {f : Nat → Value} {cs : Array Value} (hs : cs.size = n) (h : ∀ j, j < n → cs[j]? = some (f j)) : cs = fArr n f := by
  apply Array.ext_getElem?
  intro j
  by_cases hj : j < n
  · rw [h j hj, fArr_get f hj]
  · rw [Array.getElem?_eq_none (by omega), Array.getElem?_eq_none (by rw [fArr_size]; omega)]
/-- n structs of k cells each, one behind the other. -/
def sArr (n k : Nat) (enc : Nat → List Value) : Array Value := fArr (n * k) fun j => (enc (j / k)).getD (j % k) (.bool false)
section
variable {n k : Nat} {enc enc' : Nat → List Value}
theorem sArr_size (n k : Nat) (enc : Nat → List Value) : (sArr n k enc).size = n * k := fArr_size _ _
theorem div_lt_of {j n k : Nat} (h : j < n * k) : j / k < n ∧ j % k < k ∧ 0 < k := by
  have hk : 0 < k := by
    rcases Nat.eq_zero_or_pos k with rfl | h'
    · simp at h
    · exact h'
  exact ⟨(Nat.div_lt_iff_lt_mul hk).2 h, Nat.mod_lt _ hk, hk⟩
theorem place_div {i c k : Nat} (hc : c < k) : (i * k + c) / k = i ∧ (i * k + c) % k = c := by
  have hk : 0 < k := by omega
  refine ⟨?_, ?_⟩
  · rw [Nat.mul_comm, Nat.mul_add_div hk, Nat.div_eq_of_lt hc, Nat.add_zero]
  · rw [Nat.mul_comm, Nat.mul_add_mod, Nat.mod_eq_of_lt hc]
theorem place_lt {i c n k : Nat} (hi : i < n) (hc : c < k) : i * k + c < n * k := by
  have : (i + 1) * k ≤ n * k := Nat.mul_le_mul_right k hi
  rw [Nat.add_mul, Nat.one_mul] at this
  omega
theorem sArr_get {i c : Nat} {v : Value} (hi : i < n) (hc : c < k) (hv : (enc i)[c]? = some v) : (sArr n k enc)[i * k + c]? = some v := by
  unfold sArr
  rw [fArr_get _ (place_lt hi hc), (place_div hc).1, (place_div hc).2, List.getD_eq_getElem?_getD, hv]
  rfl
theorem sArr_congr (h : ∀ i, i < n → enc i = enc' i) : sArr n k enc = sArr n k enc' := fArr_congr fun j hj => by rw [h _ (div_lt_of hj).1]
theorem sArr_of {cs : Array Value} (hk : ∀ i, i < n → (enc i).length = k) (hs : cs.size = n * k) (h : ∀ i c, i < n → c < k → cs[i * k + c]? = (enc i)[c]?) : cs = sArr n k enc := by
  refine fArr_of hs fun j hj => ?_
  obtain ⟨h1, h2, h3⟩ := div_lt_of hj
  have hjk : j / k * k + j % k = j := by rw [Nat.mul_comm]; exact Nat.div_add_mod j k
  have := h (j / k) (j % k) h1 h2
  rw [hjk] at this
  have hl : j % k < (enc (j / k)).length := by rw [hk _ h1]; exact h2
  rw [this, List.getD_eq_getElem?_getD, List.getElem?_eq_getElem hl]
  rfl
theorem sArr_cells {w : World} {g : Nat} {t : TypeId} (h : Bk w g (sArr n k enc) t) {i : Nat} (hi : i < n) (hk : (enc i).length = k) : cellsAt w g (i * k) (enc i) := cellsAt_of fun c v hv => by
  have hc : c < k := by rw [← hk]; exact (List.getElem?_eq_some_iff.1 hv).1
  rw [h.cell]; exact sArr_get hi hc hv
theorem sArr_cell {w : World} {g : Nat} {t : TypeId} (h : Bk w g (sArr n k enc) t) {i c : Nat} {v : Value} (hi : i < n) (hc : c < k) (hv : (enc i)[c]? = some v) : w.cell? ⟨g, i * k + c, none⟩ = some v := by
  rw [h.cell]; exact sArr_get hi hc hv
/-- One struct is written over. -/
theorem sArr_setL {i : Nat} {vs : List Value} (hi : i < n) (hv : vs.length = k) (hk : ∀ i, i < n → (enc i).length = k) : (setL (sArr n k enc).toList (i * k) vs).toArray = sArr n k (fun j => if j = i then vs else enc j) := by
  refine sArr_of (fun j hj => ?_) (by simp [setL_len, sArr_size]) fun j c hj hc => ?_
  · split
    · exact hv
    · exact hk j hj
  · have hle : i * k + vs.length ≤ (sArr n k enc).toList.length := by
      simp [sArr_size, hv]
      have : (i + 1) * k ≤ n * k := Nat.mul_le_mul_right k hi
      rw [Nat.add_mul, Nat.one_mul] at this
      omega
    rw [List.getElem?_toArray, setL_get _ _ _ _ hle]
    by_cases he : j = i
    · subst he
      rw [if_pos ⟨by omega, by omega⟩, if_pos rfl, show j * k + c - j * k = c by omega]
    · have hne : ¬ (i * k ≤ j * k + c ∧ j * k + c < i * k + vs.length) := by
        rintro ⟨h1, h2⟩
        rw [hv] at h2
        have h3 := (place_div (i := j) hc).1
        have h4 := (place_div (i := i) (c := j * k + c - i * k) (k := k) (by omega)).1
        rw [show i * k + (j * k + c - i * k) = j * k + c by omega, h3] at h4
        exact he h4
      have hl : c < (enc j).length := by rw [hk j hj]; exact hc
      rw [if_neg he, if_neg hne, Array.getElem?_toList, sArr_get hj hc (List.getElem?_eq_getElem hl), List.getElem?_eq_getElem hl]
/-- One cell of one struct is written over. -/
theorem sArr_set {i c : Nat} {v : Value} (hi : i < n) (hc : c < k) (hk : ∀ i, i < n → (enc i).length = k) : (sArr n k enc).setIfInBounds (i * k + c) v = sArr n k (fun j => if j = i then (enc j).set c v else enc j) := by
  refine sArr_of (fun j hj => ?_) (by simp [sArr_size]) fun j d hj hd => ?_
  · split
    · rw [List.length_set]; exact hk j hj
    · exact hk j hj
  · have hl : d < (enc j).length := by rw [hk j hj]; exact hd
    have hg := sArr_get hj hd (List.getElem?_eq_getElem hl)
    by_cases he : i * k + c = j * k + d
    · have h1 := place_div (i := i) hc
      have h2 := place_div (i := j) hd
      rw [he] at h1
      obtain rfl : j = i := h2.1.symm.trans h1.1
      obtain rfl : d = c := h2.2.symm.trans h1.2
      rw [if_pos rfl, Array.getElem?_setIfInBounds_self_of_lt (by rw [sArr_size]; exact place_lt hi hc), List.getElem?_set_self hl]
    · rw [Array.getElem?_setIfInBounds_ne he, hg]
      by_cases hji : j = i
      · subst hji
        rw [if_pos rfl, List.getElem?_set_ne (by omega), List.getElem?_eq_getElem hl]
      · rw [if_neg hji, List.getElem?_eq_getElem hl]
end
end Go.Proofs.Ytjcabccolkmlmaa
end
