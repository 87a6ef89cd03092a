import Derived.Test.YtjcabccolkmlmaaProg
import Derived.Test.YtjcabccolkmlmaaMFunds2
import Derived.Test.YtjcabccolkmlmaaMFunds1
import Derived.ProofKit
import Derived.Deep.Matrix
import Derived.Deep.Slices
import Derived.OpenShut
set_option linter.unusedVariables false
section
/- Conditions of functions, printed by a program of this claim's own (vcgen.py) out of the loaded code; each is proved to be enough. -/
set_option maxRecDepth 100000
namespace Go.Proofs.Ytjcabccolkmlmaa
open Go.RowKit
namespace GFuR
def env : Env := ⟨[(3, ⟨.int .i64, 1, .int .i64 0, 8, [.int .i64]⟩), (4, ⟨.bool, 1, .bool false, 1, [.bool]⟩), (22, ⟨.slice 27, 1, .slice none 0 0, 24, [.slice]⟩), (23, ⟨.slice 3, 1, .slice none 0 0, 24, [.slice]⟩), (25, ⟨.struct [(0, 3), (1, 3), (2, 3), (3, 3), (4, 3)], 5, .agg #[.int .i64 0, .int .i64 0, .int .i64 0, .int .i64 0, .int .i64 0], 40, [.int .i64, .int .i64, .int .i64, .int .i64, .int .i64]⟩), (27, ⟨.struct [(0, 3), (1, 3), (2, 23), (3, 23), (4, 3), (5, 4), (6, 25)], 11, .agg #[.int .i64 0, .int .i64 0, .slice none 0 0, .slice none 0 0, .int .i64 0, .bool false, .int .i64 0, .int .i64 0, .int .i64 0, .int .i64 0, .int .i64 0], 120, [.int .i64, .int .i64, .slice, .slice, .int .i64, .bool, .int .i64, .int .i64, .int .i64, .int .i64, .int .i64]⟩), (31, ⟨.arr 33 25, 165, .agg (List.replicate 165 (.int .i64 0)).toArray, 1320, [.int .i64, .int .i64, .int .i64, .int .i64, .int .i64, .int .i64, .int .i64, .int .i64, .int .i64, .int .i64, .int .i64, .int .i64, .int .i64, .int .i64, .int .i64, .int .i64, .int .i64, .int .i64, .int .i64, .int .i64, .int .i64, .int .i64, .int .i64, .int .i64, .int .i64, .int .i64, .int .i64, .int .i64, .int .i64, .int .i64, .int .i64, .int .i64, .int .i64, .int .i64, .int .i64, .int .i64, .int .i64, .int .i64, .int .i64, .int .i64, .int .i64, .int .i64, .int .i64, .int .i64, .int .i64, .int .i64, .int .i64, .int .i64, .int .i64, .int .i64, .int .i64, .int .i64, .int .i64, .int .i64, .int .i64, .int .i64, .int .i64, .int .i64, .int .i64, .int .i64, .int .i64, .int .i64, .int .i64, .int .i64, .int .i64, .int .i64, .int .i64, .int .i64, .int .i64, .int .i64, .int .i64, .int .i64, .int .i64, .int .i64, .int .i64, .int .i64, .int .i64, .int .i64, .int .i64, .int .i64, .int .i64, .int .i64, .int .i64, .int .i64, .int .i64, .int .i64, .int .i64, .int .i64, .int .i64, .int .i64, .int .i64, .int .i64, .int .i64, .int .i64, .int .i64, .int .i64, .int .i64, .int .i64, .int .i64, .int .i64, .int .i64, .int .i64, .int .i64, .int .i64, .int .i64, .int .i64, .int .i64, .int .i64, .int .i64, .int .i64, .int .i64, .int .i64, .int .i64, .int .i64, .int .i64, .int .i64, .int .i64, .int .i64, .int .i64, .int .i64, .int .i64, .int .i64, .int .i64, .int .i64, .int .i64, .int .i64, .int .i64, .int .i64, .int .i64, .int .i64, .int .i64, .int .i64, .int .i64, .int .i64, .int .i64, .int .i64, .int .i64, .int .i64, .int .i64, .int .i64, .int .i64, .int .i64, .int .i64, .int .i64, .int .i64, .int .i64, .int .i64, .int .i64, .int .i64, .int .i64, .int .i64, .int .i64, .int .i64, .int .i64, .int .i64, .int .i64, .int .i64, .int .i64, .int .i64, .int .i64, .int .i64, .int .i64, .int .i64, .int .i64, .int .i64]⟩), (33, ⟨.struct [(0, 31)], 165, .agg (List.replicate 165 (.int .i64 0)).toArray, 1320, [.int .i64, .int .i64, .int .i64, .int .i64, .int .i64, .int .i64, .int .i64, .int .i64, .int .i64, .int .i64, .int .i64, .int .i64, .int .i64, .int .i64, .int .i64, .int .i64, .int .i64, .int .i64, .int .i64, .int .i64, .int .i64, .int .i64, .int .i64, .int .i64, .int .i64, .int .i64, .int .i64, .int .i64, .int .i64, .int .i64, .int .i64, .int .i64, .int .i64, .int .i64, .int .i64, .int .i64, .int .i64, .int .i64, .int .i64, .int .i64, .int .i64, .int .i64, .int .i64, .int .i64, .int .i64, .int .i64, .int .i64, .int .i64, .int .i64, .int .i64, .int .i64, .int .i64, .int .i64, .int .i64, .int .i64, .int .i64, .int .i64, .int .i64, .int .i64, .int .i64, .int .i64, .int .i64, .int .i64, .int .i64, .int .i64, .int .i64, .int .i64, .int .i64, .int .i64, .int .i64, .int .i64, .int .i64, .int .i64, .int .i64, .int .i64, .int .i64, .int .i64, .int .i64, .int .i64, .int .i64, .int .i64, .int .i64, .int .i64, .int .i64, .int .i64, .int .i64, .int .i64, .int .i64, .int .i64, .int .i64, .int .i64, .int .i64, .int .i64, .int .i64, .int .i64, .int .i64, .int .i64, .int .i64, .int .i64, .int .i64, .int .i64, .int .i64, .int .i64, .int .i64, .int .i64, .int .i64, .int .i64, .int .i64, .int .i64, .int .i64, .int .i64, .int .i64, .int .i64, .int .i64, .int .i64, .int .i64, .int .i64, .int .i64, .int .i64, .int .i64, .int .i64, .int .i64, .int .i64, .int .i64, .int .i64, .int .i64, .int .i64, .int .i64, .int .i64, .int .i64, .int .i64, .int .i64, .int .i64, .int .i64, .int .i64, .int .i64, .int .i64, .int .i64, .int .i64, .int .i64, .int .i64, .int .i64, .int .i64, .int .i64, .int .i64, .int .i64, .int .i64, .int .i64, .int .i64, .int .i64, .int .i64, .int .i64, .int .i64, .int .i64, .int .i64, .int .i64, .int .i64, .int .i64, .int .i64, .int .i64, .int .i64, .int .i64, .int .i64, .int .i64, .int .i64]⟩), (43, ⟨.int .u64, 1, .int .u64 0, 8, [.int .u64]⟩), (44, ⟨.struct [(0, 3), (1, 3), (2, 3), (3, 3), (4, 3)], 5, .agg #[.int .i64 0, .int .i64 0, .int .i64 0, .int .i64 0, .int .i64 0], 40, [.int .i64, .int .i64, .int .i64, .int .i64, .int .i64]⟩)], [(15, [.lf (.ptr)]), (16, [.lf (.bool)]), (17, [.lf (.slice), .lf (.slice)]), (18, [.lf (.int .i64), .lf (.int .i64)]), (19, [.lf (.bool)]), (20, [.lf (.int .i64)]), (21, [.agg [.int .i64, .int .i64, .int .i64, .int .i64, .int .i64]]), (22, [.lf (.int .i64)]), (23, [.lf (.int .i64), .lf (.int .i64)]), (39, [.lf (.bool)]), (59, [.lf (.ptr)]), (60, [.lf (.int .i64)]), (61, [.lf (.slice)]), (62, [.lf (.int .i64)]), (63, [.lf (.int .i64)]), (64, [.lf (.int .i64)]), (65, [.lf (.int .i64)]), (66, [.lf (.int .i64), .lf (.int .i64)]), (67, [.lf (.bool)]), (68, [.lf (.bool)]), (69, [.lf (.int .i64)]), (70, [.lf (.int .i64)]), (71, [.lf (.int .i64)]), (72, [.lf (.int .i64)]), (73, [.lf (.int .i64), .lf (.int .i64)]), (74, [.agg [.int .i64, .int .i64, .int .i64, .int .i64, .int .i64]]), (75, [.lf (.bool)]), (106, [.lf (.bool)]), (107, [.lf (.bool)]), (108, [.lf (.bool)])], [25, 44]⟩
theorem ty3 : TyOk Try.prog 3 ⟨.int .i64, 1, .int .i64 0, 8, [.int .i64]⟩ := tyok (by kernel_rfl) (by kernel_rfl)
theorem ty4 : TyOk Try.prog 4 ⟨.bool, 1, .bool false, 1, [.bool]⟩ := tyok (by kernel_rfl) (by kernel_rfl)
theorem ty22 : TyOk Try.prog 22 ⟨.slice 27, 1, .slice none 0 0, 24, [.slice]⟩ := tyok (by kernel_rfl) (by kernel_rfl)
theorem ty23 : TyOk Try.prog 23 ⟨.slice 3, 1, .slice none 0 0, 24, [.slice]⟩ := tyok (by kernel_rfl) (by kernel_rfl)
theorem ty25 : TyOk Try.prog 25 ⟨.struct [(0, 3), (1, 3), (2, 3), (3, 3), (4, 3)], 5, .agg #[.int .i64 0, .int .i64 0, .int .i64 0, .int .i64 0, .int .i64 0], 40, [.int .i64, .int .i64, .int .i64, .int .i64, .int .i64]⟩ := tyok (by kernel_rfl) (by kernel_rfl)
theorem ty27 : TyOk Try.prog 27 ⟨.struct [(0, 3), (1, 3), (2, 23), (3, 23), (4, 3), (5, 4), (6, 25)], 11, .agg #[.int .i64 0, .int .i64 0, .slice none 0 0, .slice none 0 0, .int .i64 0, .bool false, .int .i64 0, .int .i64 0, .int .i64 0, .int .i64 0, .int .i64 0], 120, [.int .i64, .int .i64, .slice, .slice, .int .i64, .bool, .int .i64, .int .i64, .int .i64, .int .i64, .int .i64]⟩ := tyok (by kernel_rfl) (by kernel_rfl)
theorem ty31 : TyOk Try.prog 31 ⟨.arr 33 25, 165, .agg (List.replicate 165 (.int .i64 0)).toArray, 1320, [.int .i64, .int .i64, .int .i64, .int .i64, .int .i64, .int .i64, .int .i64, .int .i64, .int .i64, .int .i64, .int .i64, .int .i64, .int .i64, .int .i64, .int .i64, .int .i64, .int .i64, .int .i64, .int .i64, .int .i64, .int .i64, .int .i64, .int .i64, .int .i64, .int .i64, .int .i64, .int .i64, .int .i64, .int .i64, .int .i64, .int .i64, .int .i64, .int .i64, .int .i64, .int .i64, .int .i64, .int .i64, .int .i64, .int .i64, .int .i64, .int .i64, .int .i64, .int .i64, .int .i64, .int .i64, .int .i64, .int .i64, .int .i64, .int .i64, .int .i64, .int .i64, .int .i64, .int .i64, .int .i64, .int .i64, .int .i64, .int .i64, .int .i64, .int .i64, .int .i64, .int .i64, .int .i64, .int .i64, .int .i64, .int .i64, .int .i64, .int .i64, .int .i64, .int .i64, .int .i64, .int .i64, .int .i64, .int .i64, .int .i64, .int .i64, .int .i64, .int .i64, .int .i64, .int .i64, .int .i64, .int .i64, .int .i64, .int .i64, .int .i64, .int .i64, .int .i64, .int .i64, .int .i64, .int .i64, .int .i64, .int .i64, .int .i64, .int .i64, .int .i64, .int .i64, .int .i64, .int .i64, .int .i64, .int .i64, .int .i64, .int .i64, .int .i64, .int .i64, .int .i64, .int .i64, .int .i64, .int .i64, .int .i64, .int .i64, .int .i64, .int .i64, .int .i64, .int .i64, .int .i64, .int .i64, .int .i64, .int .i64, .int .i64, .int .i64, .int .i64, .int .i64, .int .i64, .int .i64, .int .i64, .int .i64, .int .i64, .int .i64, .int .i64, .int .i64, .int .i64, .int .i64, .int .i64, .int .i64, .int .i64, .int .i64, .int .i64, .int .i64, .int .i64, .int .i64, .int .i64, .int .i64, .int .i64, .int .i64, .int .i64, .int .i64, .int .i64, .int .i64, .int .i64, .int .i64, .int .i64, .int .i64, .int .i64, .int .i64, .int .i64, .int .i64, .int .i64, .int .i64, .int .i64, .int .i64, .int .i64, .int .i64, .int .i64, .int .i64, .int .i64, .int .i64]⟩ := tyok (by kernel_rfl) (by kernel_rfl)
theorem ty33 : TyOk Try.prog 33 ⟨.struct [(0, 31)], 165, .agg (List.replicate 165 (.int .i64 0)).toArray, 1320, [.int .i64, .int .i64, .int .i64, .int .i64, .int .i64, .int .i64, .int .i64, .int .i64, .int .i64, .int .i64, .int .i64, .int .i64, .int .i64, .int .i64, .int .i64, .int .i64, .int .i64, .int .i64, .int .i64, .int .i64, .int .i64, .int .i64, .int .i64, .int .i64, .int .i64, .int .i64, .int .i64, .int .i64, .int .i64, .int .i64, .int .i64, .int .i64, .int .i64, .int .i64, .int .i64, .int .i64, .int .i64, .int .i64, .int .i64, .int .i64, .int .i64, .int .i64, .int .i64, .int .i64, .int .i64, .int .i64, .int .i64, .int .i64, .int .i64, .int .i64, .int .i64, .int .i64, .int .i64, .int .i64, .int .i64, .int .i64, .int .i64, .int .i64, .int .i64, .int .i64, .int .i64, .int .i64, .int .i64, .int .i64, .int .i64, .int .i64, .int .i64, .int .i64, .int .i64, .int .i64, .int .i64, .int .i64, .int .i64, .int .i64, .int .i64, .int .i64, .int .i64, .int .i64, .int .i64, .int .i64, .int .i64, .int .i64, .int .i64, .int .i64, .int .i64, .int .i64, .int .i64, .int .i64, .int .i64, .int .i64, .int .i64, .int .i64, .int .i64, .int .i64, .int .i64, .int .i64, .int .i64, .int .i64, .int .i64, .int .i64, .int .i64, .int .i64, .int .i64, .int .i64, .int .i64, .int .i64, .int .i64, .int .i64, .int .i64, .int .i64, .int .i64, .int .i64, .int .i64, .int .i64, .int .i64, .int .i64, .int .i64, .int .i64, .int .i64, .int .i64, .int .i64, .int .i64, .int .i64, .int .i64, .int .i64, .int .i64, .int .i64, .int .i64, .int .i64, .int .i64, .int .i64, .int .i64, .int .i64, .int .i64, .int .i64, .int .i64, .int .i64, .int .i64, .int .i64, .int .i64, .int .i64, .int .i64, .int .i64, .int .i64, .int .i64, .int .i64, .int .i64, .int .i64, .int .i64, .int .i64, .int .i64, .int .i64, .int .i64, .int .i64, .int .i64, .int .i64, .int .i64, .int .i64, .int .i64, .int .i64, .int .i64, .int .i64, .int .i64, .int .i64, .int .i64]⟩ := tyok (by kernel_rfl) (by kernel_rfl)
theorem ty43 : TyOk Try.prog 43 ⟨.int .u64, 1, .int .u64 0, 8, [.int .u64]⟩ := tyok (by kernel_rfl) (by kernel_rfl)
theorem ty44 : TyOk Try.prog 44 ⟨.struct [(0, 3), (1, 3), (2, 3), (3, 3), (4, 3)], 5, .agg #[.int .i64 0, .int .i64 0, .int .i64 0, .int .i64 0, .int .i64 0], 40, [.int .i64, .int .i64, .int .i64, .int .i64, .int .i64]⟩ := tyok (by kernel_rfl) (by kernel_rfl)
theorem fn15 : FnOk Try.prog 15 := fnok Try.func15 (by kernel_rfl) (by kernel_rfl)
theorem fn16 : FnOk Try.prog 16 := fnok Try.func16 (by kernel_rfl) (by kernel_rfl)
theorem fn17 : FnOk Try.prog 17 := fnok Try.func17 (by kernel_rfl) (by kernel_rfl)
theorem fn18 : FnOk Try.prog 18 := fnok Try.func18 (by kernel_rfl) (by kernel_rfl)
theorem fn19 : FnOk Try.prog 19 := fnok Try.func19 (by kernel_rfl) (by kernel_rfl)
theorem fn20 : FnOk Try.prog 20 := fnok Try.func20 (by kernel_rfl) (by kernel_rfl)
theorem fn21 : FnOk Try.prog 21 := fnok Try.func21 (by kernel_rfl) (by kernel_rfl)
theorem fn22 : FnOk Try.prog 22 := fnok Try.func22 (by kernel_rfl) (by kernel_rfl)
theorem fn23 : FnOk Try.prog 23 := fnok Try.func23 (by kernel_rfl) (by kernel_rfl)
theorem fn39 : FnOk Try.prog 39 := fnok Try.func39 (by kernel_rfl) (by kernel_rfl)
theorem fn59 : FnOk Try.prog 59 := fnok Try.func59 (by kernel_rfl) (by kernel_rfl)
theorem fn60 : FnOk Try.prog 60 := fnok Try.func60 (by kernel_rfl) (by kernel_rfl)
theorem fn61 : FnOk Try.prog 61 := fnok Try.func61 (by kernel_rfl) (by kernel_rfl)
theorem fn62 : FnOk Try.prog 62 := fnok Try.func62 (by kernel_rfl) (by kernel_rfl)
theorem fn63 : FnOk Try.prog 63 := fnok Try.func63 (by kernel_rfl) (by kernel_rfl)
theorem fn64 : FnOk Try.prog 64 := fnok Try.func64 (by kernel_rfl) (by kernel_rfl)
theorem fn65 : FnOk Try.prog 65 := fnok Try.func65 (by kernel_rfl) (by kernel_rfl)
theorem fn66 : FnOk Try.prog 66 := fnok Try.func66 (by kernel_rfl) (by kernel_rfl)
theorem fn67 : FnOk Try.prog 67 := fnok Try.func67 (by kernel_rfl) (by kernel_rfl)
theorem fn68 : FnOk Try.prog 68 := fnok Try.func68 (by kernel_rfl) (by kernel_rfl)
theorem fn69 : FnOk Try.prog 69 := fnok Try.func69 (by kernel_rfl) (by kernel_rfl)
theorem fn70 : FnOk Try.prog 70 := fnok Try.func70 (by kernel_rfl) (by kernel_rfl)
theorem fn71 : FnOk Try.prog 71 := fnok Try.func71 (by kernel_rfl) (by kernel_rfl)
theorem fn72 : FnOk Try.prog 72 := fnok Try.func72 (by kernel_rfl) (by kernel_rfl)
theorem fn73 : FnOk Try.prog 73 := fnok Try.func73 (by kernel_rfl) (by kernel_rfl)
theorem fn74 : FnOk Try.prog 74 := fnok Try.func74 (by kernel_rfl) (by kernel_rfl)
theorem fn75 : FnOk Try.prog 75 := fnok Try.func75 (by kernel_rfl) (by kernel_rfl)
theorem fn106 : FnOk Try.prog 106 := fnok Try.func106 (by kernel_rfl) (by kernel_rfl)
theorem fn107 : FnOk Try.prog 107 := fnok Try.func107 (by kernel_rfl) (by kernel_rfl)
theorem fn108 : FnOk Try.prog 108 := fnok Try.func108 (by kernel_rfl) (by kernel_rfl)
theorem eqt25 : EqTy Try.prog 25 := ⟨by kernel_rfl, by kernel_rfl, by kernel_rfl⟩
theorem eqt44 : EqTy Try.prog 44 := ⟨by kernel_rfl, by kernel_rfl, by kernel_rfl⟩
theorem envOk : EOk Try.prog env := ⟨(by simp only [env, List.forall_mem_cons, List.not_mem_nil, false_implies, implies_true, and_true]; exact ⟨ty3, ty4, ty22, ty23, ty25, ty27, ty31, ty33, ty43, ty44⟩), (by simp only [env, List.forall_mem_cons, List.not_mem_nil, false_implies, implies_true, and_true]; exact ⟨fn15, fn16, fn17, fn18, fn19, fn20, fn21, fn22, fn23, fn39, fn59, fn60, fn61, fn62, fn63, fn64, fn65, fn66, fn67, fn68, fn69, fn70, fn71, fn72, fn73, fn74, fn75, fn106, fn107, fn108⟩), by kernel_rfl, (by simp only [env, List.forall_mem_cons, List.not_mem_nil, false_implies, implies_true, and_true]; exact ⟨eqt25, eqt44⟩)⟩
/-- (purser/purserref14.Account).Left -/
def rleft_vc (x0_0 : Int) (x0_1 : Int) (x0_2 : Int) (x0_3 : Int) (x0_4 : Int) (w : World) (K : Value → World → Prop) : Prop :=
  newO w (.cells #[.int .i64 x0_0, .int .i64 x0_1, .int .i64 x0_2, .int .i64 x0_3, .int .i64 x0_4] 25) fun g w_2 =>
  K (.int .i64 (IntKind.i64.wrap ((IntKind.i64.wrap ((IntKind.i64.wrap ((IntKind.i64.wrap (x0_0 + x0_1)) - x0_2)) - x0_3)) - x0_4))) w_2
def rleft_notes : Notes := ⟨[], [], []⟩
theorem rleft_calls (x0_0 : Int) (x0_1 : Int) (x0_2 : Int) (x0_3 : Int) (x0_4 : Int) (w : World) (K : Value → World → Prop) (h : rleft_vc x0_0 x0_1 x0_2 x0_3 x0_4 w K) : Calls Try.prog 69 #[.agg #[.int .i64 x0_0, .int .i64 x0_1, .int .i64 x0_2, .int .i64 x0_3, .int .i64 x0_4]] w fun e w' => ∃ v, e = .returned v ∧ K v w' :=
  calls_of_fvc envOk Try.func69 rleft_notes [1] [.agg #[.int .i64 x0_0, .int .i64 x0_1, .int .i64 x0_2, .int .i64 x0_3, .int .i64 x0_4]] w K (use_vc h (by as_aux_lemma => kernel_rfl))
/-- (purser/purserref14.Account).Right -/
def rright_vc (x0_0 : Int) (x0_1 : Int) (x0_2 : Int) (x0_3 : Int) (x0_4 : Int) (w : World) (K : Value → World → Prop) : Prop :=
  newO w (.cells #[.int .i64 x0_0, .int .i64 x0_1, .int .i64 x0_2, .int .i64 x0_3, .int .i64 x0_4] 25) fun g w_2 =>
  Calls Try.prog 108 #[.int .i64 x0_0] w_2 fun e w_3 => KeepG [g] w_2 w_3 ∧
  ∃ (b5 : Bool),
  e = .returned (.bool b5) ∧
  br (!b5) (
    K (.bool false) w_3
  ) (
    Calls Try.prog 108 #[.int .i64 x0_1] w_3 fun e_2 w_4 => KeepG [g] w_3 w_4 ∧
    ∃ (b10 : Bool),
    e_2 = .returned (.bool b10) ∧
    br (!b10) (
      K (.bool false) w_4
    ) (
      Calls Try.prog 108 #[.int .i64 x0_2] w_4 fun e_3 w_5 => KeepG [g] w_4 w_5 ∧
      ∃ (b16 : Bool),
      e_3 = .returned (.bool b16) ∧
      br (!b16) (
        K (.bool false) w_5
      ) (
        Calls Try.prog 108 #[.int .i64 x0_3] w_5 fun e_4 w_6 => KeepG [g] w_5 w_6 ∧
        ∃ (b22 : Bool),
        e_4 = .returned (.bool b22) ∧
        br (!b22) (
          K (.bool false) w_6
        ) (
          Calls Try.prog 108 #[.int .i64 x0_4] w_6 fun e_5 w_7 => KeepG [g] w_6 w_7 ∧
          ∃ (b28 : Bool),
          e_5 = .returned (.bool b28) ∧
          br (!b28) (
            K (.bool false) w_7
          ) (
            br (decide ((IntKind.i64.wrap (x0_0 + x0_1)) ≤ 9007199254740992)) (
              Calls Try.prog 69 #[.agg #[.int .i64 x0_0, .int .i64 x0_1, .int .i64 x0_2, .int .i64 x0_3, .int .i64 x0_4]] w_7 fun e_6 w_8 => KeepG [g] w_7 w_8 ∧
              ∃ (x39 : Int),
              e_6 = .returned (.int .i64 x39) ∧
              K (.bool (decide (x39 ≥ 0))) w_8
            ) (
              K (.bool false) w_7
            )
          )
        )
      )
    )
  )
def rright_notes : Notes := ⟨[], [], []⟩
theorem rright_calls (x0_0 : Int) (x0_1 : Int) (x0_2 : Int) (x0_3 : Int) (x0_4 : Int) (w : World) (K : Value → World → Prop) (h : rright_vc x0_0 x0_1 x0_2 x0_3 x0_4 w K) : Calls Try.prog 75 #[.agg #[.int .i64 x0_0, .int .i64 x0_1, .int .i64 x0_2, .int .i64 x0_3, .int .i64 x0_4]] w fun e w' => ∃ v, e = .returned v ∧ K v w' :=
  calls_of_fvc envOk Try.func75 rright_notes [1] [.agg #[.int .i64 x0_0, .int .i64 x0_1, .int .i64 x0_2, .int .i64 x0_3, .int .i64 x0_4]] w K (use_vc h (by as_aux_lemma => kernel_rfl))
/-- purser/purserref14.in -/
def rin_vc (x0 : Int) (w : World) (K : Value → World → Prop) : Prop :=
  br (decide (x0 ≥ 0)) (
    K (.bool (decide (x0 ≤ 9007199254740992))) w
  ) (
    K (.bool false) w
  )
def rin_notes : Notes := ⟨[], [], []⟩
theorem rin_calls (x0 : Int) (w : World) (K : Value → World → Prop) (h : rin_vc x0 w K) : Calls Try.prog 108 #[.int .i64 x0] w fun e w' => ∃ v, e = .returned v ∧ K v w' :=
  calls_of_fvc envOk Try.func108 rin_notes [] [.int .i64 x0] w K (use_vc h (by as_aux_lemma => kernel_rfl))
/-- purser/purserref14.Node -/
def rnode_vc (x0 : Int) (w : World) (K : Value → World → Prop) : Prop :=
  br (decide (x0 ≥ 1)) (
    K (.bool (decide (x0 ≤ 32))) w
  ) (
    K (.bool false) w
  )
def rnode_notes : Notes := ⟨[], [], []⟩
theorem rnode_calls (x0 : Int) (w : World) (K : Value → World → Prop) (h : rnode_vc x0 w K) : Calls Try.prog 68 #[.int .i64 x0] w fun e w' => ∃ v, e = .returned v ∧ K v w' :=
  calls_of_fvc envOk Try.func68 rnode_notes [] [.int .i64 x0] w K (use_vc h (by as_aux_lemma => kernel_rfl))
/-- purser/purserref14.path -/
def rpath_vc (a0 : Option Addr) (n0 : Nat) (c0 : Nat) (w : World) (K : Value → World → Prop) : Prop :=
  br (decide (((n0 : Nat) : Int) < 1)) (
    K (.bool false) w
  ) (
    br (decide (((n0 : Nat) : Int) > 3)) (
      K (.bool false) w
    ) (
      ∃ (I : Int → World → Prop) (μ : Int → World → Nat),
      I 0 w ∧
      ∀ (x3 : Int) (w_2 : World), I x3 w_2 →
      br (decide (x3 < ((n0 : Nat) : Int))) (
        ∃ (I_2 : Int → World → Prop) (μ_2 : Int → World → Nat),
        I_2 0 w_2 ∧
        ∀ (x4 : Int) (w_3 : World), I_2 x4 w_3 →
        br (decide (x4 < x3)) (
          drewO w_3 fun w_4 =>
          withP a0 fun g26 o26 =>
          (0 : Int) ≤ x4 ∧ x4 < (((n0 : Nat) : Int) : Int) ∧
          ∃ (x27 : Int), w_4.cell? ⟨g26, o26 + x4.toNat * 1, none⟩ = some (.int .i64 x27) ∧
          withP a0 fun g30 o30 =>
          (0 : Int) ≤ x3 ∧ x3 < (((n0 : Nat) : Int) : Int) ∧
          ∃ (x31 : Int), w_4.cell? ⟨g30, o30 + x3.toNat * 1, none⟩ = some (.int .i64 x31) ∧
          br (decide (x27 = x31)) (
            K (.bool false) w_4
          ) (
            I_2 (IntKind.i64.wrap (x4 + 1)) w_4 ∧ μ_2 (IntKind.i64.wrap (x4 + 1)) w_4 < μ_2 x4 w_3
          )
        ) (
          withP a0 fun g35 o35 =>
          (0 : Int) ≤ x3 ∧ x3 < (((n0 : Nat) : Int) : Int) ∧
          ∃ (x36 : Int), w_3.cell? ⟨g35, o35 + x3.toNat * 1, none⟩ = some (.int .i64 x36) ∧
          Calls Try.prog 68 #[.int .i64 x36] w_3 fun e w_5 => KeepG [] w_3 w_5 ∧
          ∃ (b37 : Bool),
          e = .returned (.bool b37) ∧
          br (!b37) (
            K (.bool false) w_5
          ) (
            I (IntKind.i64.wrap (x3 + 1)) w_5 ∧ μ (IntKind.i64.wrap (x3 + 1)) w_5 < μ x3 w_2
          )
        )
      ) (
        K (.bool true) w_2
      )
    )
  )
def rpath_notes : Notes := ⟨[(9, ⟨[0, 0, 3, 7, 0, 0, 48, 112, 255], [], [0, 1, 2, 3, 4, 5, 6, 7, 8]⟩)], [(4, ⟨[(3, .lf (.int .i64))], [], [13, 14, 15, 16, 4, 19, 20, 21, 24, 25, 26, 27, 28, 29, 30, 31, 32, 2, 22, 23, 33, 34, 35, 36, 37, 38, 17, 18, 3], []⟩), (7, ⟨[(4, .lf (.int .i64))], [], [19, 20, 21, 24, 25, 26, 27, 28, 29, 30, 31, 32, 2, 22, 23, 4], []⟩)], []⟩
theorem rpath_calls (a0 : Option Addr) (n0 : Nat) (c0 : Nat) (w : World) (K : Value → World → Prop) (h : rpath_vc a0 n0 c0 w K) : Calls Try.prog 107 #[.slice a0 n0 c0] w fun e w' => ∃ v, e = .returned v ∧ K v w' :=
  calls_of_fvc envOk Try.func107 rpath_notes [] [.slice a0 n0 c0] w K (use_vc h (by as_aux_lemma => kernel_rfl))
/-- purser/purserref14.limited -/
def rlim_vc (a0 : Option Addr) (n0 : Nat) (c0 : Nat) (a1 : Option Addr) (n1 : Nat) (c1 : Nat) (w : World) (K : Value → World → Prop) : Prop :=
  Calls Try.prog 107 #[.slice a0 n0 c0] w fun e w_2 => KeepG [] w w_2 ∧
  ∃ (b7 : Bool),
  e = .returned (.bool b7) ∧
  br (!b7) (
    K (.bool false) w_2
  ) (
    br (decide (((n1 : Nat) : Int) ≠ ((n0 : Nat) : Int))) (
      K (.bool false) w_2
    ) (
      ∃ (I : Int → World → Prop) (μ : Int → World → Nat),
      I 0 w_2 ∧
      ∀ (x5 : Int) (w_3 : World), I x5 w_3 →
      br (decide (x5 < ((n0 : Nat) : Int))) (
        withP a1 fun g24 o24 =>
        (0 : Int) ≤ x5 ∧ x5 < (((n1 : Nat) : Int) : Int) ∧
        ∃ (x25 : Int), w_3.cell? ⟨g24, o24 + x5.toNat * 1, none⟩ = some (.int .i64 x25) ∧
        br (decide (x25 < (-1))) (
          K (.bool false) w_3
        ) (
          withP a1 fun g30 o30 =>
          (0 : Int) ≤ x5 ∧ x5 < (((n1 : Nat) : Int) : Int) ∧
          ∃ (x31 : Int), w_3.cell? ⟨g30, o30 + x5.toNat * 1, none⟩ = some (.int .i64 x31) ∧
          br (decide (x31 > 9007199254740992)) (
            K (.bool false) w_3
          ) (
            I (IntKind.i64.wrap (x5 + 1)) w_3 ∧ μ (IntKind.i64.wrap (x5 + 1)) w_3 < μ x5 w_3
          )
        )
      ) (
        K (.bool true) w_3
      )
    )
  )
def rlim_notes : Notes := ⟨[], [(4, ⟨[(5, .lf (.int .i64))], [], [16, 17, 18, 19, 22, 23, 24, 25, 26, 27, 28, 29, 30, 31, 32, 33, 4, 20, 21, 5], []⟩)], []⟩
theorem rlim_calls (a0 : Option Addr) (n0 : Nat) (c0 : Nat) (a1 : Option Addr) (n1 : Nat) (c1 : Nat) (w : World) (K : Value → World → Prop) (h : rlim_vc a0 n0 c0 a1 n1 c1 w K) : Calls Try.prog 106 #[.slice a0 n0 c0, .slice a1 n1 c1] w fun e w' => ∃ v, e = .returned v ∧ K v w' :=
  calls_of_fvc envOk Try.func106 rlim_notes [] [.slice a0 n0 c0, .slice a1 n1 c1] w K (use_vc h (by as_aux_lemma => kernel_rfl))
/-- (*purser/purserref14.Book).Room -/
def rroom_vc (p0 : Option Addr) (a1 : Option Addr) (n1 : Nat) (c1 : Nat) (a2 : Option Addr) (n2 : Nat) (c2 : Nat) (w : World) (K : Value → World → Prop) : Prop :=
  Calls Try.prog 106 #[.slice a1 n1 c1, .slice a2 n2 c2] w fun e w_2 => KeepG [] w w_2 ∧
  ∃ (b13 : Bool),
  e = .returned (.bool b13) ∧
  br (!b13) (
    K (.tuple #[.int .i64 0, .int .i64 1]) w_2
  ) (
    ∃ (I : Int → Int → World → Prop) (μ : Int → Int → World → Nat),
    I 9007199254740992 0 w_2 ∧
    ∀ (x8 : Int) (x9 : Int) (w_3 : World), I x8 x9 w_3 →
    br (decide (x9 < ((n1 : Nat) : Int))) (
      drewO w_3 fun w_4 =>
      withP a1 fun g24 o24 =>
      (0 : Int) ≤ x9 ∧ x9 < (((n1 : Nat) : Int) : Int) ∧
      ∃ (x25 : Int), w_4.cell? ⟨g24, o24 + x9.toNat * 1, none⟩ = some (.int .i64 x25) ∧
      withP p0 fun g26 o26 =>
      (0 : Int) ≤ x25 ∧ x25 < ((33 : Nat) : Int) ∧
      ∃ (x29_0 : Int) (x29_1 : Int) (x29_2 : Int) (x29_3 : Int) (x29_4 : Int),
      cellsAt w_4 g26 (o26 + x25.toNat * 5) [.int .i64 x29_0, .int .i64 x29_1, .int .i64 x29_2, .int .i64 x29_3, .int .i64 x29_4] ∧
      newO w_4 (.cells #[.int .i64 0, .int .i64 0, .int .i64 0, .int .i64 0, .int .i64 0] 25) fun g w_5 =>
      w_5.cell? ⟨g24, o24 + x9.toNat * 1, none⟩ = some (.int .i64 x25) ∧
      cellsAt w_5 g26 (o26 + x25.toNat * 5) [.int .i64 x29_0, .int .i64 x29_1, .int .i64 x29_2, .int .i64 x29_3, .int .i64 x29_4] ∧
      ∀ w_6 : World, BoxSt g w_5 w_6 →
      Calls Try.prog 69 #[.agg #[.int .i64 x29_0, .int .i64 x29_1, .int .i64 x29_2, .int .i64 x29_3, .int .i64 x29_4]] w_6 fun e_2 w_7 => KeepG [g] w_6 w_7 ∧
      ∃ (x32 : Int),
      e_2 = .returned (.int .i64 x32) ∧
      withP a2 fun g36 o36 =>
      (0 : Int) ≤ x9 ∧ x9 < (((n2 : Nat) : Int) : Int) ∧
      ∃ (x37 : Int), w_7.cell? ⟨g36, o36 + x9.toNat * 1, none⟩ = some (.int .i64 x37) ∧
      br (decide (x37 ≥ 0)) (
        drewO w_7 fun w_8 =>
        withP a2 fun g42 o42 =>
        (0 : Int) ≤ x9 ∧ x9 < (((n2 : Nat) : Int) : Int) ∧
        ∃ (x43 : Int), w_8.cell? ⟨g42, o42 + x9.toNat * 1, none⟩ = some (.int .i64 x43) ∧
        I (min (min x8 x32) (max (IntKind.i64.wrap ((IntKind.i64.wrap (x43 - x29_3)) - x29_4)) 0)) (IntKind.i64.wrap (x9 + 1)) w_8 ∧ μ (min (min x8 x32) (max (IntKind.i64.wrap ((IntKind.i64.wrap (x43 - x29_3)) - x29_4)) 0)) (IntKind.i64.wrap (x9 + 1)) w_8 < μ x8 x9 w_3
      ) (
        I (min x8 x32) (IntKind.i64.wrap (x9 + 1)) w_7 ∧ μ (min x8 x32) (IntKind.i64.wrap (x9 + 1)) w_7 < μ x8 x9 w_3
      )
    ) (
      K (.tuple #[.int .i64 x8, .int .i64 0]) w_3
    )
  )
def rroom_notes : Notes := ⟨[(7, ⟨[0, 0, 0, 6, 14, 1, 33, 127, 255, 0, 1023], [9, 10], [0, 1, 2, 3, 4, 5, 6, 7, 8]⟩), (10, ⟨[0, 0, 0, 6, 14, 0, 32, 126, 0, 256, 1022, 2046, 4095, 8191], [], [0, 1, 2, 3, 4, 5, 6, 7, 8, 9, 10, 11, 12, 13]⟩)], [(5, ⟨[(8, .lf (.int .i64)), (9, .lf (.int .i64))], [], [15, 16, 17, 18, 21, 22, 23, 24, 25, 26, 27, 28, 29, 10, 30, 31, 32, 33, 8, 34, 35, 36, 37, 38, 39, 40, 41, 42, 43, 44, 45, 46, 47, 48, 49, 50, 51, 19, 20, 9], [10]⟩)], []⟩
theorem rroom_calls (p0 : Option Addr) (a1 : Option Addr) (n1 : Nat) (c1 : Nat) (a2 : Option Addr) (n2 : Nat) (c2 : Nat) (w : World) (K : Value → World → Prop) (h : rroom_vc p0 a1 n1 c1 a2 n2 c2 w K) : Calls Try.prog 66 #[.pointer p0, .slice a1 n1 c1, .slice a2 n2 c2] w fun e w' => ∃ v, e = .returned v ∧ K v w' :=
  calls_of_fvc envOk Try.func66 rroom_notes [10] [.pointer p0, .slice a1 n1 c1, .slice a2 n2 c2] w K (use_vc h (by as_aux_lemma => kernel_rfl))
/-- (*purser/purserref14.Book).DocTop -/
def rtop_vc (p0 : Option Addr) (x1 : Int) (x2 : Int) (w : World) (K : Value → World → Prop) : Prop :=
  Calls Try.prog 68 #[.int .i64 x1] w fun e w_2 => KeepG [] w w_2 ∧
  ∃ (b8 : Bool),
  e = .returned (.bool b8) ∧
  br (!b8) (
    K (.int .i64 1) w_2
  ) (
    br (decide (x2 < 1)) (
      K (.int .i64 1) w_2
    ) (
      br (decide (x2 > 9007199254740992)) (
        K (.int .i64 1) w_2
      ) (
        drewO w_2 fun w_3 =>
        withP p0 fun g20 o20 =>
        (0 : Int) ≤ x1 ∧ x1 < ((33 : Nat) : Int) ∧
        ∃ (x24 : Int), w_3.cell? ⟨g20, o20 + x1.toNat * 5, none⟩ = some (.int .i64 x24) ∧
        withP p0 fun g27 o27 =>
        (0 : Int) ≤ x1 ∧ x1 < ((33 : Nat) : Int) ∧
        ∃ (x31 : Int), w_3.cell? ⟨g27, o27 + x1.toNat * 5 + 1, none⟩ = some (.int .i64 x31) ∧
        br (decide ((IntKind.i64.wrap ((IntKind.i64.wrap (x24 + x31)) + x2)) > 9007199254740992)) (
          K (.int .i64 6) w_3
        ) (
          drewO w_3 fun w_4 =>
          withP p0 fun g40 o40 =>
          (0 : Int) ≤ x1 ∧ x1 < ((33 : Nat) : Int) ∧
          ∃ (x44 : Int), w_4.cell? ⟨g40, o40 + x1.toNat * 5, none⟩ = some (.int .i64 x44) ∧
          withP p0 fun g47 o47 =>
          (0 : Int) ≤ x1 ∧ x1 < ((33 : Nat) : Int) ∧
          stO [] w_4 g47 (o47 + x1.toNat * 5) [.int .i64 (IntKind.i64.wrap (x44 + x2))] fun w_5 =>
          K (.int .i64 0) w_5
        )
      )
    )
  )
def rtop_notes : Notes := ⟨[(3, ⟨[0, 0, 1, 5, 15, 31, 63, 0, 0, 128, 640, 1920, 3968, 8064, 16383, 0, 65535, 131071], [], [0, 1, 2, 3, 4, 5, 6, 7, 8, 9, 10, 11, 12, 13, 14, 15, 16, 17]⟩), (5, ⟨[0, 0, 0, 0, 4, 20, 60, 124, 252, 0, 1020, 1, 2049, 8191, 16383, 32767], [15], [0, 1, 2, 3, 4, 5, 6, 7, 8, 9, 10, 11, 12, 13, 14]⟩)], [], []⟩
theorem rtop_calls (p0 : Option Addr) (x1 : Int) (x2 : Int) (w : World) (K : Value → World → Prop) (h : rtop_vc p0 x1 x2 w K) : Calls Try.prog 70 #[.pointer p0, .int .i64 x1, .int .i64 x2] w fun e w' => ∃ v, e = .returned v ∧ K v w' :=
  calls_of_fvc envOk Try.func70 rtop_notes [] [.pointer p0, .int .i64 x1, .int .i64 x2] w K (use_vc h (by as_aux_lemma => kernel_rfl))
/-- (*purser/purserref14.Book).DocHold -/
def rhold_vc (p0 : Option Addr) (a1 : Option Addr) (n1 : Nat) (c1 : Nat) (a2 : Option Addr) (n2 : Nat) (c2 : Nat) (x3 : Int) (w : World) (K : Value → World → Prop) : Prop :=
  Calls Try.prog 106 #[.slice a1 n1 c1, .slice a2 n2 c2] w fun e w_2 => KeepG [] w w_2 ∧
  ∃ (b14 : Bool),
  e = .returned (.bool b14) ∧
  br (!b14) (
    K (.int .i64 1) w_2
  ) (
    br (decide (x3 < 1)) (
      K (.int .i64 1) w_2
    ) (
      br (decide (x3 > 9007199254740992)) (
        K (.int .i64 1) w_2
      ) (
        ∃ (I : Int → World → Prop) (μ : Int → World → Nat),
        I 0 w_2 ∧
        ∀ (x9 : Int) (w_3 : World), I x9 w_3 →
        br (decide (x9 < ((n1 : Nat) : Int))) (
          drewO w_3 fun w_4 =>
          withP a1 fun g33 o33 =>
          (0 : Int) ≤ x9 ∧ x9 < (((n1 : Nat) : Int) : Int) ∧
          ∃ (x34 : Int), w_4.cell? ⟨g33, o33 + x9.toNat * 1, none⟩ = some (.int .i64 x34) ∧
          withP p0 fun g35 o35 =>
          (0 : Int) ≤ x34 ∧ x34 < ((33 : Nat) : Int) ∧
          ∃ (x38_0 : Int) (x38_1 : Int) (x38_2 : Int) (x38_3 : Int) (x38_4 : Int),
          cellsAt w_4 g35 (o35 + x34.toNat * 5) [.int .i64 x38_0, .int .i64 x38_1, .int .i64 x38_2, .int .i64 x38_3, .int .i64 x38_4] ∧
          newO w_4 (.cells #[.int .i64 0, .int .i64 0, .int .i64 0, .int .i64 0, .int .i64 0] 25) fun g w_5 =>
          w_5.cell? ⟨g33, o33 + x9.toNat * 1, none⟩ = some (.int .i64 x34) ∧
          cellsAt w_5 g35 (o35 + x34.toNat * 5) [.int .i64 x38_0, .int .i64 x38_1, .int .i64 x38_2, .int .i64 x38_3, .int .i64 x38_4] ∧
          ∀ w_6 : World, BoxSt g w_5 w_6 →
          Calls Try.prog 69 #[.agg #[.int .i64 x38_0, .int .i64 x38_1, .int .i64 x38_2, .int .i64 x38_3, .int .i64 x38_4]] w_6 fun e_2 w_7 => KeepG [g] w_6 w_7 ∧
          ∃ (x40 : Int),
          e_2 = .returned (.int .i64 x40) ∧
          br (decide (x40 < x3)) (
            K (.int .i64 9) w_7
          ) (
            drewO w_7 fun w_8 =>
            withP a2 fun g45 o45 =>
            (0 : Int) ≤ x9 ∧ x9 < (((n2 : Nat) : Int) : Int) ∧
            ∃ (x46 : Int), w_8.cell? ⟨g45, o45 + x9.toNat * 1, none⟩ = some (.int .i64 x46) ∧
            br (decide (x46 ≥ 0)) (
              withP a2 fun g58 o58 =>
              (0 : Int) ≤ x9 ∧ x9 < (((n2 : Nat) : Int) : Int) ∧
              ∃ (x59 : Int), w_8.cell? ⟨g58, o58 + x9.toNat * 1, none⟩ = some (.int .i64 x59) ∧
              br (decide ((IntKind.i64.wrap ((IntKind.i64.wrap (x38_3 + x38_4)) + x3)) > x59)) (
                K (.int .i64 18) w_8
              ) (
                I (IntKind.i64.wrap (x9 + 1)) w_8 ∧ μ (IntKind.i64.wrap (x9 + 1)) w_8 < μ x9 w_3
              )
            ) (
              I (IntKind.i64.wrap (x9 + 1)) w_8 ∧ μ (IntKind.i64.wrap (x9 + 1)) w_8 < μ x9 w_3
            )
          )
        ) (
          ∃ (I_2 : Int → World → Prop) (μ_2 : Int → World → Nat),
          I_2 0 w_3 ∧
          ∀ (x11 : Int) (w_10 : World), I_2 x11 w_10 →
          br (decide (x11 < ((n1 : Nat) : Int))) (
            drewO w_10 fun w_11 =>
            withP a1 fun g71 o71 =>
            (0 : Int) ≤ x11 ∧ x11 < (((n1 : Nat) : Int) : Int) ∧
            ∃ (x72 : Int), w_11.cell? ⟨g71, o71 + x11.toNat * 1, none⟩ = some (.int .i64 x72) ∧
            withP a1 fun g76 o76 =>
            (0 : Int) ≤ x11 ∧ x11 < (((n1 : Nat) : Int) : Int) ∧
            ∃ (x77 : Int), w_11.cell? ⟨g76, o76 + x11.toNat * 1, none⟩ = some (.int .i64 x77) ∧
            withP p0 fun g78 o78 =>
            (0 : Int) ≤ x77 ∧ x77 < ((33 : Nat) : Int) ∧
            ∃ (x82 : Int), w_11.cell? ⟨g78, o78 + x77.toNat * 5 + 4, none⟩ = some (.int .i64 x82) ∧
            withP p0 fun g85 o85 =>
            (0 : Int) ≤ x72 ∧ x72 < ((33 : Nat) : Int) ∧
            stO [] w_11 g85 (o85 + x72.toNat * 5 + 4) [.int .i64 (IntKind.i64.wrap (x82 + x3))] fun w_12 =>
            I_2 (IntKind.i64.wrap (x11 + 1)) w_12 ∧ μ_2 (IntKind.i64.wrap (x11 + 1)) w_12 < μ_2 x11 w_10
          ) (
            K (.int .i64 0) w_10
          )
        )
      )
    )
  )
def rhold_notes : Notes := ⟨[(6, ⟨[0, 0, 0, 6, 14, 1, 33, 127, 255, 0, 1023], [9, 10], [0, 1, 2, 3, 4, 5, 6, 7, 8]⟩), (9, ⟨[0, 0, 3, 7, 15, 31, 63, 127, 63, 319, 1023, 63, 4095, 63, 63, 24639, 57407, 131071, 262143], [], [0, 1, 2, 3, 4, 5, 6, 7, 8, 9, 10, 11, 12, 13, 14, 15, 16, 17, 18]⟩), (14, ⟨[0, 0, 0, 6, 14, 0, 0, 0, 192, 448, 32, 1056, 4064, 8160, 16352, 0, 65504, 1, 131073, 524287, 1048575, 2097151], [21], [0, 1, 2, 3, 4, 5, 6, 7, 8, 9, 10, 11, 12, 13, 14, 15, 16, 17, 18, 19, 20]⟩)], [(4, ⟨[(9, .lf (.int .i64))], [], [24, 25, 26, 27, 30, 31, 32, 33, 34, 35, 36, 37, 38, 10, 39, 40, 41, 42, 8, 43, 44, 45, 46, 47, 48, 49, 50, 51, 52, 53, 54, 55, 56, 57, 58, 59, 60, 61, 28, 29, 9], [10]⟩), (12, ⟨[(11, .lf (.int .i64))], [], [62, 63, 64, 65, 68, 69, 70, 71, 72, 73, 74, 75, 76, 77, 78, 79, 80, 81, 82, 83, 84, 85, 86, 87, 88, 66, 67, 11], []⟩)], []⟩
theorem rhold_calls (p0 : Option Addr) (a1 : Option Addr) (n1 : Nat) (c1 : Nat) (a2 : Option Addr) (n2 : Nat) (c2 : Nat) (x3 : Int) (w : World) (K : Value → World → Prop) (h : rhold_vc p0 a1 n1 c1 a2 n2 c2 x3 w K) : Calls Try.prog 71 #[.pointer p0, .slice a1 n1 c1, .slice a2 n2 c2, .int .i64 x3] w fun e w' => ∃ v, e = .returned v ∧ K v w' :=
  calls_of_fvc envOk Try.func71 rhold_notes [10] [.pointer p0, .slice a1 n1 c1, .slice a2 n2 c2, .int .i64 x3] w K (use_vc h (by as_aux_lemma => kernel_rfl))
/-- (*purser/purserref14.Book).DocMove -/
def rmove_k1 (I_2 : Int → World → Prop) (μ_2 : Int → World → Nat) (p0 : Option Addr) (a2 : Option Addr) (n2 : Nat) (x11 : Int) (w_8 : World) (g_3 : Nat) (x12_0_3 : Int) (x12_1_3 : Int) (x12_2_3 : Int) (x12_3_3 : Int) (x12_4_3 : Int) (w_17 : World) : Prop :=
  drewO w_17 fun w_18 =>
  withP a2 fun g96 o96 =>
  (0 : Int) ≤ x11 ∧ x11 < (((n2 : Nat) : Int) : Int) ∧
  ∃ (x97 : Int), w_18.cell? ⟨g96, o96 + x11.toNat * 1, none⟩ = some (.int .i64 x97) ∧
  withP p0 fun g99 o99 =>
  (0 : Int) ≤ x97 ∧ x97 < ((33 : Nat) : Int) ∧
  stO [g_3] w_18 g99 (o99 + x97.toNat * 5) [.int .i64 x12_0_3, .int .i64 x12_1_3, .int .i64 x12_2_3, .int .i64 x12_3_3, .int .i64 x12_4_3] fun w_19 =>
  I_2 (IntKind.i64.wrap (x11 + 1)) w_19 ∧ μ_2 (IntKind.i64.wrap (x11 + 1)) w_19 < μ_2 x11 w_8
def rmove_k2 (I_2 : Int → World → Prop) (μ_2 : Int → World → Nat) (p0 : Option Addr) (x1 : Int) (a2 : Option Addr) (n2 : Nat) (x3 : Int) (x11 : Int) (w_8 : World) (g_3 : Nat) (x12_0_2 : Int) (x12_1_2 : Int) (x12_2_2 : Int) (x12_3_2 : Int) (x12_4_2 : Int) (w_15 : World) : Prop :=
  br (decide (x1 = 2)) (
    ∀ w_16 : World, BoxSt g_3 w_15 w_16 →
    rmove_k1 I_2 μ_2 p0 a2 n2 x11 w_8 g_3 x12_0_2 x12_1_2 x12_2_2 (IntKind.i64.wrap (x12_3_2 - x3)) x12_4_2 w_16
  ) (
    rmove_k1 I_2 μ_2 p0 a2 n2 x11 w_8 g_3 x12_0_2 x12_1_2 x12_2_2 x12_3_2 x12_4_2 w_15
  )
def rmove_k3 (I_2 : Int → World → Prop) (μ_2 : Int → World → Nat) (p0 : Option Addr) (x1 : Int) (a2 : Option Addr) (n2 : Nat) (x3 : Int) (x11 : Int) (w_8 : World) (g_3 : Nat) (x12_0 : Int) (x12_1 : Int) (x12_2 : Int) (x12_3 : Int) (x12_4 : Int) (w_13 : World) : Prop :=
  br (decide (x1 = 1)) (
    ∀ w_14 : World, BoxSt g_3 w_13 w_14 →
    rmove_k2 I_2 μ_2 p0 x1 a2 n2 x3 x11 w_8 g_3 x12_0 x12_1 x12_2 (IntKind.i64.wrap (x12_3 + x3)) x12_4 w_14
  ) (
    rmove_k2 I_2 μ_2 p0 x1 a2 n2 x3 x11 w_8 g_3 x12_0 x12_1 x12_2 x12_3 x12_4 w_13
  )
def rmove_vc (p0 : Option Addr) (x1 : Int) (a2 : Option Addr) (n2 : Nat) (c2 : Nat) (x3 : Int) (w : World) (K : Value → World → Prop) : Prop :=
  Calls Try.prog 107 #[.slice a2 n2 c2] w fun e w_2 => KeepG [] w w_2 ∧
  ∃ (b14 : Bool),
  e = .returned (.bool b14) ∧
  br (!b14) (
    K (.int .i64 1) w_2
  ) (
    br (decide (x3 < 1)) (
      K (.int .i64 1) w_2
    ) (
      br (decide (x3 > 9007199254740992)) (
        K (.int .i64 1) w_2
      ) (
        ∃ (I : Int → World → Prop) (μ : Int → World → Nat),
        I 0 w_2 ∧
        ∀ (x9 : Int) (w_3 : World), I x9 w_3 →
        br (decide (x9 < ((n2 : Nat) : Int))) (
          drewO w_3 fun w_4 =>
          withP a2 fun g33 o33 =>
          (0 : Int) ≤ x9 ∧ x9 < (((n2 : Nat) : Int) : Int) ∧
          ∃ (x34 : Int), w_4.cell? ⟨g33, o33 + x9.toNat * 1, none⟩ = some (.int .i64 x34) ∧
          withP p0 fun g35 o35 =>
          (0 : Int) ≤ x34 ∧ x34 < ((33 : Nat) : Int) ∧
          ∃ (x38_0 : Int) (x38_1 : Int) (x38_2 : Int) (x38_3 : Int) (x38_4 : Int),
          cellsAt w_4 g35 (o35 + x34.toNat * 5) [.int .i64 x38_0, .int .i64 x38_1, .int .i64 x38_2, .int .i64 x38_3, .int .i64 x38_4] ∧
          newO w_4 (.cells #[.int .i64 0, .int .i64 0, .int .i64 0, .int .i64 0, .int .i64 0] 25) fun g w_5 =>
          w_5.cell? ⟨g33, o33 + x9.toNat * 1, none⟩ = some (.int .i64 x34) ∧
          cellsAt w_5 g35 (o35 + x34.toNat * 5) [.int .i64 x38_0, .int .i64 x38_1, .int .i64 x38_2, .int .i64 x38_3, .int .i64 x38_4] ∧
          ∀ w_6 : World, BoxSt g w_5 w_6 →
          br (decide (x1 < 2)) (
            br (decide (x38_4 < x3)) (
              K (.int .i64 20) w_6
            ) (
              br (decide (x1 = 2)) (
                br (decide (x38_3 < x3)) (
                  K (.int .i64 20) w_6
                ) (
                  I (IntKind.i64.wrap (x9 + 1)) w_6 ∧ μ (IntKind.i64.wrap (x9 + 1)) w_6 < μ x9 w_3
                )
              ) (
                I (IntKind.i64.wrap (x9 + 1)) w_6 ∧ μ (IntKind.i64.wrap (x9 + 1)) w_6 < μ x9 w_3
              )
            )
          ) (
            br (decide (x1 = 2)) (
              br (decide (x38_3 < x3)) (
                K (.int .i64 20) w_6
              ) (
                I (IntKind.i64.wrap (x9 + 1)) w_6 ∧ μ (IntKind.i64.wrap (x9 + 1)) w_6 < μ x9 w_3
              )
            ) (
              I (IntKind.i64.wrap (x9 + 1)) w_6 ∧ μ (IntKind.i64.wrap (x9 + 1)) w_6 < μ x9 w_3
            )
          )
        ) (
          ∃ (I_2 : Int → World → Prop) (μ_2 : Int → World → Nat),
          I_2 0 w_3 ∧
          ∀ (x11 : Int) (w_8 : World), I_2 x11 w_8 →
          br (decide (x11 < ((n2 : Nat) : Int))) (
            drewO w_8 fun w_9 =>
            withP a2 fun g66 o66 =>
            (0 : Int) ≤ x11 ∧ x11 < (((n2 : Nat) : Int) : Int) ∧
            ∃ (x67 : Int), w_9.cell? ⟨g66, o66 + x11.toNat * 1, none⟩ = some (.int .i64 x67) ∧
            withP p0 fun g68 o68 =>
            (0 : Int) ≤ x67 ∧ x67 < ((33 : Nat) : Int) ∧
            ∃ (x71_0 : Int) (x71_1 : Int) (x71_2 : Int) (x71_3 : Int) (x71_4 : Int),
            cellsAt w_9 g68 (o68 + x67.toNat * 5) [.int .i64 x71_0, .int .i64 x71_1, .int .i64 x71_2, .int .i64 x71_3, .int .i64 x71_4] ∧
            newO w_9 (.cells #[.int .i64 0, .int .i64 0, .int .i64 0, .int .i64 0, .int .i64 0] 25) fun g_3 w_10 =>
            w_10.cell? ⟨g66, o66 + x11.toNat * 1, none⟩ = some (.int .i64 x67) ∧
            cellsAt w_10 g68 (o68 + x67.toNat * 5) [.int .i64 x71_0, .int .i64 x71_1, .int .i64 x71_2, .int .i64 x71_3, .int .i64 x71_4] ∧
            ∀ w_11 : World, BoxSt g_3 w_10 w_11 →
            br (decide (x1 < 2)) (
              ∀ w_12 : World, BoxSt g_3 w_11 w_12 →
              rmove_k3 I_2 μ_2 p0 x1 a2 n2 x3 x11 w_8 g_3 x71_0 x71_1 x71_2 x71_3 (IntKind.i64.wrap (x71_4 - x3)) w_12
            ) (
              rmove_k3 I_2 μ_2 p0 x1 a2 n2 x3 x11 w_8 g_3 x71_0 x71_1 x71_2 x71_3 x71_4 w_11
            )
          ) (
            K (.int .i64 0) w_8
          )
        )
      )
    )
  )
def rmove_notes : Notes := ⟨[(6, ⟨[0, 0, 0, 6, 14, 1, 33, 127, 255, 0, 1023], [9, 10], [0, 1, 2, 3, 4, 5, 6, 7, 8]⟩), (12, ⟨[0, 0, 0, 6, 14, 1, 33, 127, 255, 0, 1023], [9, 10], [0, 1, 2, 3, 4, 5, 6, 7, 8]⟩), (19, ⟨[0, 0, 0, 6, 14, 0, 1, 65, 255, 511], [9], [0, 1, 2, 3, 4, 5, 6, 7, 8]⟩)], [(4, ⟨[(9, .lf (.int .i64))], [], [24, 25, 26, 27, 30, 31, 32, 33, 34, 35, 36, 37, 38, 10, 39, 40, 41, 42, 43, 44, 45, 46, 47, 48, 49, 50, 51, 52, 53, 54, 55, 56, 8, 28, 29, 9], [10]⟩), (10, ⟨[(11, .lf (.int .i64))], [], [57, 58, 59, 60, 63, 64, 65, 66, 67, 68, 69, 70, 71, 12, 72, 73, 74, 75, 76, 77, 78, 79, 80, 81, 82, 83, 84, 85, 86, 87, 88, 89, 90, 91, 92, 93, 94, 95, 96, 97, 98, 99, 100, 101, 61, 62, 11], [12]⟩)], []⟩
theorem rmove_calls (p0 : Option Addr) (x1 : Int) (a2 : Option Addr) (n2 : Nat) (c2 : Nat) (x3 : Int) (w : World) (K : Value → World → Prop) (h : rmove_vc p0 x1 a2 n2 c2 x3 w K) : Calls Try.prog 72 #[.pointer p0, .int .i64 x1, .slice a2 n2 c2, .int .i64 x3] w fun e w' => ∃ v, e = .returned v ∧ K v w' :=
  calls_of_fvc envOk Try.func72 rmove_notes [10, 12] [.pointer p0, .int .i64 x1, .slice a2 n2 c2, .int .i64 x3] w K (use_vc h (by as_aux_lemma => kernel_rfl))
/-- (*purser/purserref14.Book).DocRoll -/
def rroll_k1 (K : Value → World → Prop) (p0 : Option Addr) (x1 : Int) (x18_0 : Int) (x18_1 : Int) (x18_2 : Int) (x18_3 : Int) (x18_4 : Int) (g : Nat) (x9 : Int) (w_6 : World) : Prop :=
  drewO w_6 fun w_7 =>
  withP p0 fun g41 o41 =>
  (0 : Int) ≤ x1 ∧ x1 < ((33 : Nat) : Int) ∧
  stO [g] w_7 g41 (o41 + x1.toNat * 5) [.int .i64 0, .int .i64 (IntKind.i64.wrap ((IntKind.i64.wrap ((IntKind.i64.wrap ((IntKind.i64.wrap (x18_0 + x18_1)) - x18_2)) - x9)) - x18_3)), .int .i64 0, .int .i64 0, .int .i64 x18_4] fun w_8 =>
  K (.tuple #[.int .i64 x9, .int .i64 0]) w_8
def rroll_vc (p0 : Option Addr) (x1 : Int) (b2 : Bool) (w : World) (K : Value → World → Prop) : Prop :=
  Calls Try.prog 68 #[.int .i64 x1] w fun e w_2 => KeepG [] w w_2 ∧
  ∃ (b11 : Bool),
  e = .returned (.bool b11) ∧
  br (!b11) (
    K (.tuple #[.int .i64 0, .int .i64 1]) w_2
  ) (
    withP p0 fun g15 o15 =>
    (0 : Int) ≤ x1 ∧ x1 < ((33 : Nat) : Int) ∧
    ∃ (x18_0 : Int) (x18_1 : Int) (x18_2 : Int) (x18_3 : Int) (x18_4 : Int),
    cellsAt w_2 g15 (o15 + x1.toNat * 5) [.int .i64 x18_0, .int .i64 x18_1, .int .i64 x18_2, .int .i64 x18_3, .int .i64 x18_4] ∧
    newO w_2 (.cells #[.int .i64 0, .int .i64 0, .int .i64 0, .int .i64 0, .int .i64 0] 25) fun g w_3 =>
    ∀ w_4 : World, BoxSt g w_3 w_4 →
    br (!b2) (
      Calls Try.prog 69 #[.agg #[.int .i64 x18_0, .int .i64 x18_1, .int .i64 x18_2, .int .i64 x18_3, .int .i64 x18_4]] w_4 fun e_2 w_5 => KeepG [g] w_4 w_5 ∧
      ∃ (x22 : Int),
      e_2 = .returned (.int .i64 x22) ∧
      rroll_k1 K p0 x1 x18_0 x18_1 x18_2 x18_3 x18_4 g x22 w_5
    ) (
      rroll_k1 K p0 x1 x18_0 x18_1 x18_2 x18_3 x18_4 g 0 w_4
    )
  )
def rroll_notes : Notes := ⟨[(7, ⟨[0, 0, 0, 4, 0, 16, 60, 0, 128, 508, 0, 2044, 0, 4096, 16380, 0, 32768, 131068, 1, 262145, 1048575, 2097151], [21], [0, 1, 2, 3, 4, 5, 6, 7, 8, 9, 10, 11, 12, 13, 14, 15, 16, 17, 18, 19, 20]⟩)], [], []⟩
theorem rroll_calls (p0 : Option Addr) (x1 : Int) (b2 : Bool) (w : World) (K : Value → World → Prop) (h : rroll_vc p0 x1 b2 w K) : Calls Try.prog 73 #[.pointer p0, .int .i64 x1, .bool b2] w fun e w' => ∃ v, e = .returned v ∧ K v w' :=
  calls_of_fvc envOk Try.func73 rroll_notes [8] [.pointer p0, .int .i64 x1, .bool b2] w K (use_vc h (by as_aux_lemma => kernel_rfl))
/-- purser/purserlaw14.haves -/
def lhaves_vc  (w : World) (K : Value → World → Prop) : Prop :=
  Calls Try.prog 15 #[] w fun e w_2 => KeepG [] w w_2 ∧
  ∃ (p6 : Option Addr),
  e = .returned (.pointer p6) ∧
  Calls Try.prog 62 #[.pointer p6, .int .i64 1, .int .i64 9] w_2 fun e_2 w_3 => KeepG [] w_2 w_3 ∧
  ∃ (x8 : Int),
  e_2 = .returned (.int .i64 x8) ∧
  Calls Try.prog 62 #[.pointer p6, .int .i64 2, .int .i64 5] w_3 fun e_3 w_4 => KeepG [] w_3 w_4 ∧
  ∃ (x10 : Int),
  e_3 = .returned (.int .i64 x10) ∧
  newO w_4 (.cells #[.int .i64 1, .int .i64 2] 3) fun g w_5 =>
  newO w_5 (.cells #[.int .i64 (-1), .int .i64 (-1)] 3) fun g_2 w_6 =>
  Calls Try.prog 18 #[.pointer p6, .slice (some ⟨g, 0, none⟩) 2 2, .slice (some ⟨g_2, 0, none⟩) 2 2] w_6 fun e_4 w_7 => KeepG [] w_6 w_7 ∧
  ∃ (x15_0 : Int) (x15_1 : Int),
  e_4 = .returned (.tuple #[.int .i64 x15_0, .int .i64 x15_1]) ∧
  br (decide (x8 = 0)) (
    br (decide (x10 = 0)) (
      br (decide (x15_1 = 0)) (
        br (decide (x15_0 = 5)) (
          newO w_7 (.cells #[.int .i64 1, .int .i64 2] 3) fun g_3 w_8 =>
          newO w_8 (.cells #[.int .i64 (-1), .int .i64 (-1)] 3) fun g_4 w_9 =>
          Calls Try.prog 20 #[.pointer p6, .slice (some ⟨g_3, 0, none⟩) 2 2, .slice (some ⟨g_4, 0, none⟩) 2 2, .int .i64 6] w_9 fun e_5 w_10 => KeepG [] w_9 w_10 ∧
          ∃ (x36 : Int),
          e_5 = .returned (.int .i64 x36) ∧
          br (decide (x36 = 9)) (
            newO w_10 (.cells #[.int .i64 1, .int .i64 2] 3) fun g_5 w_11 =>
            newO w_11 (.cells #[.int .i64 3, .int .i64 (-1)] 3) fun g_6 w_12 =>
            Calls Try.prog 20 #[.pointer p6, .slice (some ⟨g_5, 0, none⟩) 2 2, .slice (some ⟨g_6, 0, none⟩) 2 2, .int .i64 4] w_12 fun e_6 w_13 => KeepG [] w_12 w_13 ∧
            ∃ (x43 : Int),
            e_6 = .returned (.int .i64 x43) ∧
            br (decide (x43 = 18)) (
              Calls Try.prog 22 #[.pointer p6, .int .i64 1] w_13 fun e_7 w_14 => KeepG [] w_13 w_14 ∧
              ∃ (x48 : Int),
              e_7 = .returned (.int .i64 x48) ∧
              K (.bool (decide (x48 = 9))) w_14
            ) (
              K (.bool false) w_13
            )
          ) (
            K (.bool false) w_10
          )
        ) (
          K (.bool false) w_7
        )
      ) (
        K (.bool false) w_7
      )
    ) (
      K (.bool false) w_7
    )
  ) (
    K (.bool false) w_7
  )
def lhaves_notes : Notes := ⟨[], [], []⟩
theorem lhaves_calls  (w : World) (K : Value → World → Prop) (h : lhaves_vc  w K) : Calls Try.prog 19 #[] w fun e w' => ∃ v, e = .returned v ∧ K v w' :=
  calls_of_fvc envOk Try.func19 lhaves_notes [] [] w K (use_vc h (by as_aux_lemma => kernel_rfl))
/-- purser/purserlaw14.none -/
def lnone_vc  (w : World) (K : Value → World → Prop) : Prop :=
  K (.pointer none) w
def lnone_notes : Notes := ⟨[], [], []⟩
theorem lnone_calls  (w : World) (K : Value → World → Prop) (h : lnone_vc  w K) : Calls Try.prog 59 #[] w fun e w' => ∃ v, e = .returned v ∧ K v w' :=
  calls_of_fvc envOk Try.func59 lnone_notes [] [] w K (use_vc h (by as_aux_lemma => kernel_rfl))
/-- (purser/purserlaw14.Act).lists -/
def llists_vc (x0_0 : Int) (x0_1 : Int) (a0_2 : Option Addr) (n0_2 : Nat) (c0_2 : Nat) (a0_3 : Option Addr) (n0_3 : Nat) (c0_3 : Nat) (x0_4 : Int) (b0_5 : Bool) (x0_6 : Int) (x0_7 : Int) (x0_8 : Int) (x0_9 : Int) (x0_10 : Int) (w : World) (K : Value → World → Prop) : Prop :=
  newO w (.cells #[.int .i64 x0_0, .int .i64 x0_1, .slice a0_2 n0_2 c0_2, .slice a0_3 n0_3 c0_3, .int .i64 x0_4, .bool b0_5, .int .i64 x0_6, .int .i64 x0_7, .int .i64 x0_8, .int .i64 x0_9, .int .i64 x0_10] 27) fun g w_2 =>
  drewO w_2 fun w_3 =>
  (0 : Int) ≤ min ((n0_2 : Nat) : Int) 5 ∧ min ((n0_2 : Nat) : Int) 5 ≤ (((c0_2 : Nat) : Int) : Int) ∧
  (0 : Int) ≤ min ((n0_3 : Nat) : Int) 5 ∧ min ((n0_3 : Nat) : Int) 5 ≤ (((c0_3 : Nat) : Int) : Int) ∧
  (
    newO w_3 (.cells #[] 3) fun g_2 w_4 =>
    (
      appO Try.prog [g] w_4 3 1 8 23 (some ⟨g_2, 0, none⟩) 0 0 (.slice a0_2 ((min ((n0_2 : Nat) : Int) 5).toNat) c0_2) fun m12 a12 c12 w_5 =>
      newO w_5 (.cells #[] 3) fun g_3 w_6 =>
      appO Try.prog [g] w_6 3 1 8 23 (some ⟨g_3, 0, none⟩) 0 0 (.slice a0_3 ((min ((n0_3 : Nat) : Int) 5).toNat) c0_3) fun m21 a21 c21 w_7 =>
      K (.tuple #[.slice a12 (0 + m12) c12, .slice a21 (0 + m21) c21]) w_7
    ) ∧
    (
      newO w_4 (.cells #[] 3) fun g_4 w_9 =>
      appO Try.prog [g] w_9 3 1 8 23 (some ⟨g_2, 0, none⟩) 0 0 (.slice a0_2 ((min ((n0_2 : Nat) : Int) 5).toNat) c0_2) fun m12_2 a12_2 c12_2 w_10 =>
      appO Try.prog [g] w_10 3 1 8 23 (some ⟨g_4, 0, none⟩) 0 0 (.slice a0_3 ((min ((n0_3 : Nat) : Int) 5).toNat) c0_3) fun m21_2 a21_2 c21_2 w_11 =>
      K (.tuple #[.slice a12_2 (0 + m12_2) c12_2, .slice a21_2 (0 + m21_2) c21_2]) w_11
    )
  ) ∧
  (
    newO w_3 (.cells #[] 3) fun g_5 w_12 =>
    newO w_12 (.cells #[] 3) fun g_6 w_13 =>
    appO Try.prog [g] w_13 3 1 8 23 (some ⟨g_6, 0, none⟩) 0 0 (.slice a0_2 ((min ((n0_2 : Nat) : Int) 5).toNat) c0_2) fun m12_3 a12_3 c12_3 w_14 =>
    appO Try.prog [g] w_14 3 1 8 23 (some ⟨g_5, 0, none⟩) 0 0 (.slice a0_3 ((min ((n0_3 : Nat) : Int) 5).toNat) c0_3) fun m21_3 a21_3 c21_3 w_15 =>
    K (.tuple #[.slice a12_3 (0 + m12_3) c12_3, .slice a21_3 (0 + m21_3) c21_3]) w_15
  )
def llists_notes : Notes := ⟨[(1, ⟨[0, 0, 2, 0, 8, 24, 56, 126, 255, 0, 0, 1024, 0, 4096, 12288, 28672, 64512, 131071, 262143, 524287], [0, 8, 9, 17], [1, 2, 3, 4, 5, 6, 7, 10, 11, 12, 13, 14, 15, 16, 18, 19]⟩)], [], []⟩
theorem llists_calls (x0_0 : Int) (x0_1 : Int) (a0_2 : Option Addr) (n0_2 : Nat) (c0_2 : Nat) (a0_3 : Option Addr) (n0_3 : Nat) (c0_3 : Nat) (x0_4 : Int) (b0_5 : Bool) (x0_6 : Int) (x0_7 : Int) (x0_8 : Int) (x0_9 : Int) (x0_10 : Int) (w : World) (K : Value → World → Prop) (h : llists_vc x0_0 x0_1 a0_2 n0_2 c0_2 a0_3 n0_3 c0_3 x0_4 b0_5 x0_6 x0_7 x0_8 x0_9 x0_10 w K) : Calls Try.prog 17 #[.agg #[.int .i64 x0_0, .int .i64 x0_1, .slice a0_2 n0_2 c0_2, .slice a0_3 n0_3 c0_3, .int .i64 x0_4, .bool b0_5, .int .i64 x0_6, .int .i64 x0_7, .int .i64 x0_8, .int .i64 x0_9, .int .i64 x0_10]] w fun e w' => ∃ v, e = .returned v ∧ K v w' :=
  calls_of_fvc envOk Try.func17 llists_notes [1] [.agg #[.int .i64 x0_0, .int .i64 x0_1, .slice a0_2 n0_2 c0_2, .slice a0_3 n0_3 c0_3, .int .i64 x0_4, .bool b0_5, .int .i64 x0_6, .int .i64 x0_7, .int .i64 x0_8, .int .i64 x0_9, .int .i64 x0_10]] w K (use_vc h (by as_aux_lemma => kernel_rfl))
/-- purser/purserlaw14.to -/
def lto_vc (x0_0 : Int) (x0_1 : Int) (x0_2 : Int) (x0_3 : Int) (x0_4 : Int) (w : World) (K : Value → World → Prop) : Prop :=
  newO w (.cells #[.int .i64 x0_0, .int .i64 x0_1, .int .i64 x0_2, .int .i64 x0_3, .int .i64 x0_4] 25) fun g w_2 =>
  newO w_2 (.cells #[.int .i64 0, .int .i64 0, .int .i64 0, .int .i64 0, .int .i64 0] 44) fun g_2 w_3 =>
  ∀ w_4 : World, BoxSt g_2 w_3 w_4 →
  K (.agg #[.int .i64 x0_0, .int .i64 x0_1, .int .i64 x0_2, .int .i64 x0_3, .int .i64 x0_4]) w_4
def lto_notes : Notes := ⟨[], [], []⟩
theorem lto_calls (x0_0 : Int) (x0_1 : Int) (x0_2 : Int) (x0_3 : Int) (x0_4 : Int) (w : World) (K : Value → World → Prop) (h : lto_vc x0_0 x0_1 x0_2 x0_3 x0_4 w K) : Calls Try.prog 74 #[.agg #[.int .i64 x0_0, .int .i64 x0_1, .int .i64 x0_2, .int .i64 x0_3, .int .i64 x0_4]] w fun e w' => ∃ v, e = .returned v ∧ K v w' :=
  calls_of_fvc envOk Try.func74 lto_notes [1, 2] [.agg #[.int .i64 x0_0, .int .i64 x0_1, .int .i64 x0_2, .int .i64 x0_3, .int .i64 x0_4]] w K (use_vc h (by as_aux_lemma => kernel_rfl))
/-- (purser/purserlaw14.Act).do -/
def ldo_vc (x0_0 : Int) (x0_1 : Int) (a0_2 : Option Addr) (n0_2 : Nat) (c0_2 : Nat) (a0_3 : Option Addr) (n0_3 : Nat) (c0_3 : Nat) (x0_4 : Int) (b0_5 : Bool) (x0_6 : Int) (x0_7 : Int) (x0_8 : Int) (x0_9 : Int) (x0_10 : Int) (p1 : Option Addr) (p2 : Option Addr) (w : World) (K : Value → World → Prop) : Prop :=
  newO w (.cells #[.int .i64 x0_0, .int .i64 x0_1, .slice a0_2 n0_2 c0_2, .slice a0_3 n0_3 c0_3, .int .i64 x0_4, .bool b0_5, .int .i64 x0_6, .int .i64 x0_7, .int .i64 x0_8, .int .i64 x0_9, .int .i64 x0_10] 27) fun g w_2 =>
  Calls Try.prog 17 #[.agg #[.int .i64 x0_0, .int .i64 x0_1, .slice a0_2 n0_2 c0_2, .slice a0_3 n0_3 c0_3, .int .i64 x0_4, .bool b0_5, .int .i64 x0_6, .int .i64 x0_7, .int .i64 x0_8, .int .i64 x0_9, .int .i64 x0_10]] w_2 fun e w_3 => KeepG [g] w_2 w_3 ∧
  ∃ (a16_0 : Option Addr) (n16_0 : Nat) (c16_0 : Nat) (a16_1 : Option Addr) (n16_1 : Nat) (c16_1 : Nat),
  e = .returned (.tuple #[.slice a16_0 n16_0 c16_0, .slice a16_1 n16_1 c16_1]) ∧
  (7 : Int) ≠ 0 ∧
  br (decide ((IntKind.i64.wrap (Int.tmod (IntKind.u64.wrap x0_0) 7)) = 0)) (
    drewO w_3 fun w_4 =>
    Calls Try.prog 62 #[.pointer p1, .int .i64 x0_1, .int .i64 x0_4] w_4 fun e_2 w_5 => KeepG [g] w_4 w_5 ∧
    ∃ (x31 : Int),
    e_2 = .returned (.int .i64 x31) ∧
    Calls Try.prog 70 #[.pointer p2, .int .i64 x0_1, .int .i64 x0_4] w_5 fun e_3 w_6 => KeepG [g] w_5 w_6 ∧
    ∃ (x37 : Int),
    e_3 = .returned (.int .i64 x37) ∧
    K (.bool (decide (x31 = x37))) w_6
  ) (
    br (decide ((IntKind.i64.wrap (Int.tmod (IntKind.u64.wrap x0_0) 7)) = 1)) (
      drewO w_3 fun w_7 =>
      Calls Try.prog 20 #[.pointer p1, .slice a16_0 n16_0 c16_0, .slice a16_1 n16_1 c16_1, .int .i64 x0_4] w_7 fun e_4 w_8 => KeepG [g] w_7 w_8 ∧
      ∃ (x46 : Int),
      e_4 = .returned (.int .i64 x46) ∧
      Calls Try.prog 71 #[.pointer p2, .slice a16_0 n16_0 c16_0, .slice a16_1 n16_1 c16_1, .int .i64 x0_4] w_8 fun e_5 w_9 => KeepG [g] w_8 w_9 ∧
      ∃ (x52 : Int),
      e_5 = .returned (.int .i64 x52) ∧
      K (.bool (decide (x46 = x52))) w_9
    ) (
      br (decide ((IntKind.i64.wrap (Int.tmod (IntKind.u64.wrap x0_0) 7)) = 2)) (
        drewO w_3 fun w_10 =>
        Calls Try.prog 63 #[.pointer p1, .slice a16_0 n16_0 c16_0, .int .i64 x0_4] w_10 fun e_6 w_11 => KeepG [g] w_10 w_11 ∧
        ∃ (x60 : Int),
        e_6 = .returned (.int .i64 x60) ∧
        Calls Try.prog 72 #[.pointer p2, .int .i64 0, .slice a16_0 n16_0 c16_0, .int .i64 x0_4] w_11 fun e_7 w_12 => KeepG [g] w_11 w_12 ∧
        ∃ (x65 : Int),
        e_7 = .returned (.int .i64 x65) ∧
        K (.bool (decide (x60 = x65))) w_12
      ) (
        br (decide ((IntKind.i64.wrap (Int.tmod (IntKind.u64.wrap x0_0) 7)) = 3)) (
          drewO w_3 fun w_13 =>
          Calls Try.prog 64 #[.pointer p1, .slice a16_0 n16_0 c16_0, .int .i64 x0_4] w_13 fun e_8 w_14 => KeepG [g] w_13 w_14 ∧
          ∃ (x73 : Int),
          e_8 = .returned (.int .i64 x73) ∧
          Calls Try.prog 72 #[.pointer p2, .int .i64 1, .slice a16_0 n16_0 c16_0, .int .i64 x0_4] w_14 fun e_9 w_15 => KeepG [g] w_14 w_15 ∧
          ∃ (x78 : Int),
          e_9 = .returned (.int .i64 x78) ∧
          K (.bool (decide (x73 = x78))) w_15
        ) (
          br (decide ((IntKind.i64.wrap (Int.tmod (IntKind.u64.wrap x0_0) 7)) = 4)) (
            drewO w_3 fun w_16 =>
            Calls Try.prog 65 #[.pointer p1, .slice a16_0 n16_0 c16_0, .int .i64 x0_4] w_16 fun e_10 w_17 => KeepG [g] w_16 w_17 ∧
            ∃ (x86 : Int),
            e_10 = .returned (.int .i64 x86) ∧
            Calls Try.prog 72 #[.pointer p2, .int .i64 2, .slice a16_0 n16_0 c16_0, .int .i64 x0_4] w_17 fun e_11 w_18 => KeepG [g] w_17 w_18 ∧
            ∃ (x91 : Int),
            e_11 = .returned (.int .i64 x91) ∧
            K (.bool (decide (x86 = x91))) w_18
          ) (
            br (decide ((IntKind.i64.wrap (Int.tmod (IntKind.u64.wrap x0_0) 7)) = 5)) (
              Calls Try.prog 23 #[.pointer p1, .int .i64 x0_1, .bool b0_5] w_3 fun e_12 w_19 => KeepG [g] w_3 w_19 ∧
              ∃ (x101_0 : Int) (x101_1 : Int),
              e_12 = .returned (.tuple #[.int .i64 x101_0, .int .i64 x101_1]) ∧
              Calls Try.prog 73 #[.pointer p2, .int .i64 x0_1, .bool b0_5] w_19 fun e_13 w_20 => KeepG [g] w_19 w_20 ∧
              ∃ (x110_0 : Int) (x110_1 : Int),
              e_13 = .returned (.tuple #[.int .i64 x110_0, .int .i64 x110_1]) ∧
              br (decide (x101_0 = x110_0)) (
                K (.bool (decide (x101_1 = x110_1))) w_20
              ) (
                K (.bool false) w_20
              )
            ) (
              drewO w_3 fun w_21 =>
              Calls Try.prog 74 #[.agg #[.int .i64 x0_6, .int .i64 x0_7, .int .i64 x0_8, .int .i64 x0_9, .int .i64 x0_10]] w_21 fun e_14 w_22 => KeepG [g] w_21 w_22 ∧
              ∃ (x126_0 : Int) (x126_1 : Int) (x126_2 : Int) (x126_3 : Int) (x126_4 : Int),
              e_14 = .returned (.agg #[.int .i64 x126_0, .int .i64 x126_1, .int .i64 x126_2, .int .i64 x126_3, .int .i64 x126_4]) ∧
              Calls Try.prog 60 #[.pointer p1, .int .i64 x0_1, .agg #[.int .i64 x126_0, .int .i64 x126_1, .int .i64 x126_2, .int .i64 x126_3, .int .i64 x126_4]] w_22 fun e_15 w_23 => KeepG [g] w_22 w_23 ∧
              ∃ (x127 : Int),
              e_15 = .returned (.int .i64 x127) ∧
              Calls Try.prog 68 #[.int .i64 x0_1] w_23 fun e_16 w_24 => KeepG [g] w_23 w_24 ∧
              ∃ (b130 : Bool),
              e_16 = .returned (.bool b130) ∧
              br (!b130) (
                K (.bool (decide (x127 = 1))) w_24
              ) (
                Calls Try.prog 75 #[.agg #[.int .i64 x0_6, .int .i64 x0_7, .int .i64 x0_8, .int .i64 x0_9, .int .i64 x0_10]] w_24 fun e_17 w_25 => KeepG [g] w_24 w_25 ∧
                ∃ (b135 : Bool),
                e_17 = .returned (.bool b135) ∧
                br (!b135) (
                  K (.bool (decide (x127 = 1))) w_25
                ) (
                  drewO w_25 fun w_26 =>
                  withP p2 fun g145 o145 =>
                  (0 : Int) ≤ x0_1 ∧ x0_1 < ((33 : Nat) : Int) ∧
                  stO [g] w_26 g145 (o145 + x0_1.toNat * 5) [.int .i64 x0_6, .int .i64 x0_7, .int .i64 x0_8, .int .i64 x0_9, .int .i64 x0_10] fun w_27 =>
                  K (.bool (decide (x127 = 0))) w_27
                )
              )
            )
          )
        )
      )
    )
  )
def ldo_notes : Notes := ⟨[(4, ⟨[0, 0, 2, 0, 8, 31, 0, 0, 128, 0, 512, 2047, 4095, 8191], [5, 11], [0, 1, 2, 3, 4, 6, 7, 8, 9, 10, 12, 13]⟩), (6, ⟨[0, 0, 0, 0, 8, 31, 0, 0, 0, 0, 512, 2047, 4095, 8191], [5, 11], [0, 1, 2, 3, 4, 6, 7, 8, 9, 10, 12, 13]⟩), (8, ⟨[0, 0, 0, 4, 15, 0, 0, 0, 128, 511, 1023, 2047], [4, 9], [0, 1, 2, 3, 5, 6, 7, 8, 10, 11]⟩), (10, ⟨[0, 0, 0, 4, 15, 0, 0, 0, 128, 511, 1023, 2047], [4, 9], [0, 1, 2, 3, 5, 6, 7, 8, 10, 11]⟩), (12, ⟨[0, 0, 0, 4, 15, 0, 0, 0, 128, 511, 1023, 2047], [4, 9], [0, 1, 2, 3, 5, 6, 7, 8, 10, 11]⟩), (17, ⟨[0, 0, 2, 0, 8, 24, 63, 127], [5, 6], [0, 1, 2, 3, 4, 7]⟩), (20, ⟨[0, 0, 2, 0, 8, 1, 33, 127, 255], [8], [0, 1, 2, 3, 4, 5, 6, 7]⟩)], [], []⟩
theorem ldo_calls (x0_0 : Int) (x0_1 : Int) (a0_2 : Option Addr) (n0_2 : Nat) (c0_2 : Nat) (a0_3 : Option Addr) (n0_3 : Nat) (c0_3 : Nat) (x0_4 : Int) (b0_5 : Bool) (x0_6 : Int) (x0_7 : Int) (x0_8 : Int) (x0_9 : Int) (x0_10 : Int) (p1 : Option Addr) (p2 : Option Addr) (w : World) (K : Value → World → Prop) (h : ldo_vc x0_0 x0_1 a0_2 n0_2 c0_2 a0_3 n0_3 c0_3 x0_4 b0_5 x0_6 x0_7 x0_8 x0_9 x0_10 p1 p2 w K) : Calls Try.prog 16 #[.agg #[.int .i64 x0_0, .int .i64 x0_1, .slice a0_2 n0_2 c0_2, .slice a0_3 n0_3 c0_3, .int .i64 x0_4, .bool b0_5, .int .i64 x0_6, .int .i64 x0_7, .int .i64 x0_8, .int .i64 x0_9, .int .i64 x0_10], .pointer p1, .pointer p2] w fun e w' => ∃ v, e = .returned v ∧ K v w' :=
  calls_of_fvc envOk Try.func16 ldo_notes [3] [.agg #[.int .i64 x0_0, .int .i64 x0_1, .slice a0_2 n0_2 c0_2, .slice a0_3 n0_3 c0_3, .int .i64 x0_4, .bool b0_5, .int .i64 x0_6, .int .i64 x0_7, .int .i64 x0_8, .int .i64 x0_9, .int .i64 x0_10], .pointer p1, .pointer p2] w K (use_vc h (by as_aux_lemma => kernel_rfl))
/-- purser/purserlaw14.like -/
def llike_vc (p0 : Option Addr) (p1 : Option Addr) (w : World) (K : Value → World → Prop) : Prop :=
  ∃ (I : Option Addr → Nat → Nat → Int → World → Prop) (μ : Option Addr → Nat → Nat → Int → World → Nat),
  I none 0 0 1 w ∧
  ∀ (a5 : Option Addr) (n5 : Nat) (c5 : Nat) (x6 : Int) (w_2 : World), I a5 n5 c5 x6 w_2 →
  br (decide (x6 ≤ 32)) (
    withP p1 fun g14 o14 =>
    (0 : Int) ≤ x6 ∧ x6 < ((33 : Nat) : Int) ∧
    ∃ (x17_0 : Int) (x17_1 : Int) (x17_2 : Int) (x17_3 : Int) (x17_4 : Int),
    cellsAt w_2 g14 (o14 + x6.toNat * 5) [.int .i64 x17_0, .int .i64 x17_1, .int .i64 x17_2, .int .i64 x17_3, .int .i64 x17_4] ∧
    newO w_2 (.cells #[.int .i64 0, .int .i64 0, .int .i64 0, .int .i64 0, .int .i64 0] 25) fun g w_3 =>
    ∀ w_4 : World, BoxSt g w_3 w_4 →
    drewO w_4 fun w_5 =>
    Calls Try.prog 21 #[.pointer p0, .int .i64 x6] w_5 fun e w_6 => KeepG [g] w_5 w_6 ∧
    ∃ (x20_0 : Int) (x20_1 : Int) (x20_2 : Int) (x20_3 : Int) (x20_4 : Int),
    e = .returned (.agg #[.int .i64 x20_0, .int .i64 x20_1, .int .i64 x20_2, .int .i64 x20_3, .int .i64 x20_4]) ∧
    Calls Try.prog 74 #[.agg #[.int .i64 x17_0, .int .i64 x17_1, .int .i64 x17_2, .int .i64 x17_3, .int .i64 x17_4]] w_6 fun e_2 w_7 => KeepG [g] w_6 w_7 ∧
    ∃ (x22_0 : Int) (x22_1 : Int) (x22_2 : Int) (x22_3 : Int) (x22_4 : Int),
    e_2 = .returned (.agg #[.int .i64 x22_0, .int .i64 x22_1, .int .i64 x22_2, .int .i64 x22_3, .int .i64 x22_4]) ∧
    br (!((decide (x20_0 = x22_0)) && ((decide (x20_1 = x22_1)) && ((decide (x20_2 = x22_2)) && ((decide (x20_3 = x22_3)) && ((decide (x20_4 = x22_4)) && true)))))) (
      K (.bool false) w_7
    ) (
      Calls Try.prog 22 #[.pointer p0, .int .i64 x6] w_7 fun e_3 w_9 => KeepG [g] w_7 w_9 ∧
      ∃ (x27 : Int),
      e_3 = .returned (.int .i64 x27) ∧
      Calls Try.prog 69 #[.agg #[.int .i64 x17_0, .int .i64 x17_1, .int .i64 x17_2, .int .i64 x17_3, .int .i64 x17_4]] w_9 fun e_4 w_10 => KeepG [g] w_9 w_10 ∧
      ∃ (x29 : Int),
      e_4 = .returned (.int .i64 x29) ∧
      br (decide (x27 ≠ x29)) (
        K (.bool false) w_10
      ) (
        Calls Try.prog 69 #[.agg #[.int .i64 x17_0, .int .i64 x17_1, .int .i64 x17_2, .int .i64 x17_3, .int .i64 x17_4]] w_10 fun e_5 w_11 => KeepG [g] w_10 w_11 ∧
        ∃ (x34 : Int),
        e_5 = .returned (.int .i64 x34) ∧
        br (decide (x34 < 0)) (
          K (.bool false) w_11
        ) (
          br (decide (x17_4 < 0)) (
            K (.bool false) w_11
          ) (
            br (!((decide (x17_0 = 0)) && ((decide (x17_1 = 0)) && ((decide (x17_2 = 0)) && ((decide (x17_3 = 0)) && ((decide (x17_4 = 0)) && true)))))) (
              newO w_11 (.cells #[.int .i64 x6] 3) fun g_2 w_12 =>
              appO Try.prog [g] w_12 3 1 8 23 a5 n5 c5 (.slice (some ⟨g_2, 0, none⟩) 1 1) fun m48 a48 c48 w_13 =>
              I a48 (n5 + m48) c48 (IntKind.i64.wrap (x6 + 1)) w_13 ∧ μ a48 (n5 + m48) c48 (IntKind.i64.wrap (x6 + 1)) w_13 < μ a5 n5 c5 x6 w_2
            ) (
              I a5 n5 c5 (IntKind.i64.wrap (x6 + 1)) w_11 ∧ μ a5 n5 c5 (IntKind.i64.wrap (x6 + 1)) w_11 < μ a5 n5 c5 x6 w_2
            )
          )
        )
      )
    )
  ) (
    Calls Try.prog 61 #[.pointer p0] w_2 fun e_6 w_15 => KeepG [] w_2 w_15 ∧
    ∃ (a50 : Option Addr) (n50 : Nat) (c50 : Nat),
    e_6 = .returned (.slice a50 n50 c50) ∧
    Calls Try.prog 39 #[.slice a50 n50 c50, .slice a5 n5 c5] w_15 fun e_7 w_16 => KeepG [] w_15 w_16 ∧
    ∃ (b52 : Bool),
    e_7 = .returned (.bool b52) ∧
    K (.bool b52) w_16
  )
def llike_notes : Notes := ⟨[(6, ⟨[0, 0, 3, 0, 15, 31, 63, 127, 127, 511, 127, 2047, 4095, 8191, 16383, 32767, 65535, 131071, 262143, 524287, 1048575, 2097151, 4194303, 8388607], [2, 4, 9, 11, 16], [0, 1, 3, 5, 6, 7, 8, 10, 12, 13, 14, 15, 17, 18, 19, 20, 21, 22, 23]⟩)], [(3, ⟨[(5, .lf (.slice)), (6, .lf (.int .i64))], [], [8, 9, 12, 13, 14, 15, 16, 17, 7, 18, 19, 20, 21, 22, 23, 24, 25, 26, 27, 28, 29, 30, 31, 32, 33, 34, 35, 36, 37, 38, 39, 40, 41, 4, 42, 43, 44, 45, 46, 47, 48, 5, 10, 11, 6], [7]⟩)], []⟩
theorem llike_calls (p0 : Option Addr) (p1 : Option Addr) (w : World) (K : Value → World → Prop) (h : llike_vc p0 p1 w K) : Calls Try.prog 67 #[.pointer p0, .pointer p1] w fun e w' => ∃ v, e = .returned v ∧ K v w' :=
  calls_of_fvc envOk Try.func67 llike_notes [7] [.pointer p0, .pointer p1] w K (use_vc h (by as_aux_lemma => kernel_rfl))
/-- purser/purserlaw14.FundsActs -/
def lacts_k1 (K : Value → World → Prop) (x1 : Int) (p86 : Option Addr) (g : Nat) (w_32 : World) : Prop :=
  Calls Try.prog 67 #[.pointer p86, .pointer (some ⟨g, 0, none⟩)] w_32 fun e_29 w_33 => KeepG [] w_32 w_33 ∧
  ∃ (b139 : Bool),
  e_29 = .returned (.bool b139) ∧
  br b139 (
    Calls Try.prog 68 #[.int .i64 x1] w_33 fun e_30 w_34 => KeepG [] w_33 w_34 ∧
    ∃ (b142 : Bool),
    e_30 = .returned (.bool b142) ∧
    br b142 (
      K (.bool true) w_34
    ) (
      Calls Try.prog 22 #[.pointer p86, .int .i64 x1] w_34 fun e_31 w_35 => KeepG [] w_34 w_35 ∧
      ∃ (x146 : Int),
      e_31 = .returned (.int .i64 x146) ∧
      br (decide (x146 = 0)) (
        Calls Try.prog 21 #[.pointer p86, .int .i64 x1] w_35 fun e_32 w_36 => KeepG [] w_35 w_36 ∧
        ∃ (x151_0 : Int) (x151_1 : Int) (x151_2 : Int) (x151_3 : Int) (x151_4 : Int),
        e_32 = .returned (.agg #[.int .i64 x151_0, .int .i64 x151_1, .int .i64 x151_2, .int .i64 x151_3, .int .i64 x151_4]) ∧
        K (.bool ((decide (x151_0 = 0)) && ((decide (x151_1 = 0)) && ((decide (x151_2 = 0)) && ((decide (x151_3 = 0)) && ((decide (x151_4 = 0)) && true)))))) w_36
      ) (
        K (.bool false) w_35
      )
    )
  ) (
    K (.bool false) w_33
  )
def lacts_vc (a0 : Option Addr) (n0 : Nat) (c0 : Nat) (x1 : Int) (w : World) (K : Value → World → Prop) : Prop :=
  Calls Try.prog 59 #[] w fun e w_2 => KeepG [] w w_2 ∧
  ∃ (p19 : Option Addr),
  e = .returned (.pointer p19) ∧
  Calls Try.prog 18 #[.pointer p19, .slice none 0 0, .slice none 0 0] w_2 fun e_2 w_3 => KeepG [] w_2 w_3 ∧
  ∃ (x20_0 : Int) (x20_1 : Int),
  e_2 = .returned (.tuple #[.int .i64 x20_0, .int .i64 x20_1]) ∧
  Calls Try.prog 59 #[] w_3 fun e_3 w_4 => KeepG [] w_3 w_4 ∧
  ∃ (p24 : Option Addr),
  e_3 = .returned (.pointer p24) ∧
  Calls Try.prog 23 #[.pointer p24, .int .i64 1, .bool true] w_4 fun e_4 w_5 => KeepG [] w_4 w_5 ∧
  ∃ (x25_0 : Int) (x25_1 : Int),
  e_4 = .returned (.tuple #[.int .i64 x25_0, .int .i64 x25_1]) ∧
  Calls Try.prog 19 #[] w_5 fun e_5 w_6 => KeepG [] w_5 w_6 ∧
  ∃ (b28 : Bool),
  e_5 = .returned (.bool b28) ∧
  br (!b28) (
    K (.bool false) w_6
  ) (
    br (decide (x20_1 ≠ 1)) (
      K (.bool false) w_6
    ) (
      br (decide (x25_1 ≠ 1)) (
        K (.bool false) w_6
      ) (
        Calls Try.prog 59 #[] w_6 fun e_6 w_7 => KeepG [] w_6 w_7 ∧
        ∃ (p39 : Option Addr),
        e_6 = .returned (.pointer p39) ∧
        Calls Try.prog 22 #[.pointer p39, .int .i64 1] w_7 fun e_7 w_8 => KeepG [] w_7 w_8 ∧
        ∃ (x40 : Int),
        e_7 = .returned (.int .i64 x40) ∧
        br (decide (x40 ≠ 0)) (
          K (.bool false) w_8
        ) (
          Calls Try.prog 59 #[] w_8 fun e_8 w_9 => KeepG [] w_8 w_9 ∧
          ∃ (p44 : Option Addr),
          e_8 = .returned (.pointer p44) ∧
          Calls Try.prog 21 #[.pointer p44, .int .i64 1] w_9 fun e_9 w_10 => KeepG [] w_9 w_10 ∧
          ∃ (x45_0 : Int) (x45_1 : Int) (x45_2 : Int) (x45_3 : Int) (x45_4 : Int),
          e_9 = .returned (.agg #[.int .i64 x45_0, .int .i64 x45_1, .int .i64 x45_2, .int .i64 x45_3, .int .i64 x45_4]) ∧
          br (!((decide (x45_0 = 0)) && ((decide (x45_1 = 0)) && ((decide (x45_2 = 0)) && ((decide (x45_3 = 0)) && ((decide (x45_4 = 0)) && true)))))) (
            K (.bool false) w_10
          ) (
            Calls Try.prog 59 #[] w_10 fun e_10 w_11 => KeepG [] w_10 w_11 ∧
            ∃ (p50 : Option Addr),
            e_10 = .returned (.pointer p50) ∧
            Calls Try.prog 60 #[.pointer p50, .int .i64 1, .agg #[.int .i64 0, .int .i64 0, .int .i64 0, .int .i64 0, .int .i64 0]] w_11 fun e_11 w_12 => KeepG [] w_11 w_12 ∧
            ∃ (x52 : Int),
            e_11 = .returned (.int .i64 x52) ∧
            br (decide (x52 ≠ 1)) (
              K (.bool false) w_12
            ) (
              Calls Try.prog 59 #[] w_12 fun e_12 w_13 => KeepG [] w_12 w_13 ∧
              ∃ (p56 : Option Addr),
              e_12 = .returned (.pointer p56) ∧
              Calls Try.prog 61 #[.pointer p56] w_13 fun e_13 w_14 => KeepG [] w_13 w_14 ∧
              ∃ (a57 : Option Addr) (n57 : Nat) (c57 : Nat),
              e_13 = .returned (.slice a57 n57 c57) ∧
              br (decide (((n57 : Nat) : Int) ≠ 0)) (
                K (.bool false) w_14
              ) (
                Calls Try.prog 59 #[] w_14 fun e_14 w_15 => KeepG [] w_14 w_15 ∧
                ∃ (p62 : Option Addr),
                e_14 = .returned (.pointer p62) ∧
                Calls Try.prog 62 #[.pointer p62, .int .i64 1, .int .i64 1] w_15 fun e_15 w_16 => KeepG [] w_15 w_16 ∧
                ∃ (x63 : Int),
                e_15 = .returned (.int .i64 x63) ∧
                br (decide (x63 ≠ 1)) (
                  K (.bool false) w_16
                ) (
                  Calls Try.prog 59 #[] w_16 fun e_16 w_17 => KeepG [] w_16 w_17 ∧
                  ∃ (p67 : Option Addr),
                  e_16 = .returned (.pointer p67) ∧
                  Calls Try.prog 20 #[.pointer p67, .slice none 0 0, .slice none 0 0, .int .i64 1] w_17 fun e_17 w_18 => KeepG [] w_17 w_18 ∧
                  ∃ (x68 : Int),
                  e_17 = .returned (.int .i64 x68) ∧
                  br (decide (x68 ≠ 1)) (
                    K (.bool false) w_18
                  ) (
                    Calls Try.prog 59 #[] w_18 fun e_18 w_19 => KeepG [] w_18 w_19 ∧
                    ∃ (p72 : Option Addr),
                    e_18 = .returned (.pointer p72) ∧
                    Calls Try.prog 63 #[.pointer p72, .slice none 0 0, .int .i64 1] w_19 fun e_19 w_20 => KeepG [] w_19 w_20 ∧
                    ∃ (x73 : Int),
                    e_19 = .returned (.int .i64 x73) ∧
                    br (decide (x73 ≠ 1)) (
                      K (.bool false) w_20
                    ) (
                      Calls Try.prog 59 #[] w_20 fun e_20 w_21 => KeepG [] w_20 w_21 ∧
                      ∃ (p77 : Option Addr),
                      e_20 = .returned (.pointer p77) ∧
                      Calls Try.prog 64 #[.pointer p77, .slice none 0 0, .int .i64 1] w_21 fun e_21 w_22 => KeepG [] w_21 w_22 ∧
                      ∃ (x78 : Int),
                      e_21 = .returned (.int .i64 x78) ∧
                      br (decide (x78 ≠ 1)) (
                        K (.bool false) w_22
                      ) (
                        Calls Try.prog 59 #[] w_22 fun e_22 w_23 => KeepG [] w_22 w_23 ∧
                        ∃ (p82 : Option Addr),
                        e_22 = .returned (.pointer p82) ∧
                        Calls Try.prog 65 #[.pointer p82, .slice none 0 0, .int .i64 1] w_23 fun e_23 w_24 => KeepG [] w_23 w_24 ∧
                        ∃ (x83 : Int),
                        e_23 = .returned (.int .i64 x83) ∧
                        br (decide (x83 ≠ 1)) (
                          K (.bool false) w_24
                        ) (
                          Calls Try.prog 15 #[] w_24 fun e_24 w_25 => KeepG [] w_24 w_25 ∧
                          ∃ (p86 : Option Addr),
                          e_24 = .returned (.pointer p86) ∧
                          newO w_25 (.cells (List.replicate 165 (.int .i64 0)).toArray 33) fun g w_26 =>
                          ∃ (I : Int → World → Prop) (μ : Int → World → Nat),
                          I 0 w_26 ∧
                          ∀ (x11 : Int) (w_27 : World), I x11 w_27 →
                          br (decide (x11 < ((n0 : Nat) : Int))) (
                            br (decide (x11 < 50)) (
                              withP a0 fun g101 o101 =>
                              (0 : Int) ≤ x11 ∧ x11 < (((n0 : Nat) : Int) : Int) ∧
                              ∃ (x102_0 : Int) (x102_1 : Int) (a102_2 : Option Addr) (n102_2 : Nat) (c102_2 : Nat) (a102_3 : Option Addr) (n102_3 : Nat) (c102_3 : Nat) (x102_4 : Int) (b102_5 : Bool) (x102_6 : Int) (x102_7 : Int) (x102_8 : Int) (x102_9 : Int) (x102_10 : Int),
                              cellsAt w_27 g101 (o101 + x11.toNat * 11) [.int .i64 x102_0, .int .i64 x102_1, .slice a102_2 n102_2 c102_2, .slice a102_3 n102_3 c102_3, .int .i64 x102_4, .bool b102_5, .int .i64 x102_6, .int .i64 x102_7, .int .i64 x102_8, .int .i64 x102_9, .int .i64 x102_10] ∧
                              Calls Try.prog 16 #[.agg #[.int .i64 x102_0, .int .i64 x102_1, .slice a102_2 n102_2 c102_2, .slice a102_3 n102_3 c102_3, .int .i64 x102_4, .bool b102_5, .int .i64 x102_6, .int .i64 x102_7, .int .i64 x102_8, .int .i64 x102_9, .int .i64 x102_10], .pointer p86, .pointer (some ⟨g, 0, none⟩)] w_27 fun e_25 w_28 => KeepG [] w_27 w_28 ∧
                              ∃ (b105 : Bool),
                              e_25 = .returned (.bool b105) ∧
                              br (!b105) (
                                K (.bool false) w_28
                              ) (
                                withP a0 fun g110 o110 =>
                                (0 : Int) ≤ x11 ∧ x11 < (((n0 : Nat) : Int) : Int) ∧
                                ∃ (x111_0 : Int) (x111_1 : Int) (a111_2 : Option Addr) (n111_2 : Nat) (c111_2 : Nat) (a111_3 : Option Addr) (n111_3 : Nat) (c111_3 : Nat) (x111_4 : Int) (b111_5 : Bool) (x111_6 : Int) (x111_7 : Int) (x111_8 : Int) (x111_9 : Int) (x111_10 : Int),
                                cellsAt w_28 g110 (o110 + x11.toNat * 11) [.int .i64 x111_0, .int .i64 x111_1, .slice a111_2 n111_2 c111_2, .slice a111_3 n111_3 c111_3, .int .i64 x111_4, .bool b111_5, .int .i64 x111_6, .int .i64 x111_7, .int .i64 x111_8, .int .i64 x111_9, .int .i64 x111_10] ∧
                                Calls Try.prog 17 #[.agg #[.int .i64 x111_0, .int .i64 x111_1, .slice a111_2 n111_2 c111_2, .slice a111_3 n111_3 c111_3, .int .i64 x111_4, .bool b111_5, .int .i64 x111_6, .int .i64 x111_7, .int .i64 x111_8, .int .i64 x111_9, .int .i64 x111_10]] w_28 fun e_26 w_29 => KeepG [] w_28 w_29 ∧
                                ∃ (a112_0 : Option Addr) (n112_0 : Nat) (c112_0 : Nat) (a112_1 : Option Addr) (n112_1 : Nat) (c112_1 : Nat),
                                e_26 = .returned (.tuple #[.slice a112_0 n112_0 c112_0, .slice a112_1 n112_1 c112_1]) ∧
                                Calls Try.prog 18 #[.pointer p86, .slice a112_0 n112_0 c112_0, .slice a112_1 n112_1 c112_1] w_29 fun e_27 w_30 => KeepG [] w_29 w_30 ∧
                                ∃ (x119_0 : Int) (x119_1 : Int),
                                e_27 = .returned (.tuple #[.int .i64 x119_0, .int .i64 x119_1]) ∧
                                Calls Try.prog 66 #[.pointer (some ⟨g, 0, none⟩), .slice a112_0 n112_0 c112_0, .slice a112_1 n112_1 c112_1] w_30 fun e_28 w_31 => KeepG [] w_30 w_31 ∧
                                ∃ (x126_0 : Int) (x126_1 : Int),
                                e_28 = .returned (.tuple #[.int .i64 x126_0, .int .i64 x126_1]) ∧
                                br (decide (x119_0 ≠ x126_0)) (
                                  K (.bool false) w_31
                                ) (
                                  br (decide (x119_1 ≠ x126_1)) (
                                    K (.bool false) w_31
                                  ) (
                                    I (IntKind.i64.wrap (x11 + 1)) w_31 ∧ μ (IntKind.i64.wrap (x11 + 1)) w_31 < μ x11 w_27
                                  )
                                )
                              )
                            ) (
                              lacts_k1 K x1 p86 g w_27
                            )
                          ) (
                            lacts_k1 K x1 p86 g w_27
                          )
                        )
                      )
                    )
                  )
                )
              )
            )
          )
        )
      )
    )
  )
def lacts_notes : Notes := ⟨[], [(7, ⟨[(11, .lf (.int .i64))], [], [89, 90, 91, 92, 93, 94, 95, 96, 99, 100, 101, 102, 103, 104, 105, 106, 4, 108, 109, 110, 111, 112, 107, 113, 114, 12, 13, 116, 117, 118, 119, 115, 120, 121, 14, 15, 123, 124, 125, 126, 122, 127, 128, 16, 17, 129, 130, 131, 132, 133, 134, 135, 136, 97, 98, 11], []⟩)], []⟩
theorem lacts_calls (a0 : Option Addr) (n0 : Nat) (c0 : Nat) (x1 : Int) (w : World) (K : Value → World → Prop) (h : lacts_vc a0 n0 c0 x1 w K) : Calls Try.prog 13 #[.slice a0 n0 c0, .int .i64 x1] w fun e w' => ∃ v, e = .returned v ∧ K v w' :=
  calls_of_fvc envOk Try.func13 lacts_notes [] [.slice a0 n0 c0, .int .i64 x1] w K (use_vc h (by as_aux_lemma => kernel_rfl))
/-- purser/purserlaw14.FundsRooms -/
def lrooms_k1 (K : Value → World → Prop) (g : Nat) (p13 : Option Addr) (a36_0 : Option Addr) (n36_0 : Nat) (c36_0 : Nat) (a36_1 : Option Addr) (n36_1 : Nat) (c36_1 : Nat) (x43_0 : Int) (w_14 : World) : Prop :=
  br (decide (x43_0 = 0)) (
    K (.bool true) w_14
  ) (
    Calls Try.prog 20 #[.pointer p13, .slice a36_0 n36_0 c36_0, .slice a36_1 n36_1 c36_1, .int .i64 x43_0] w_14 fun e_9 w_15 => KeepG [g] w_14 w_15 ∧
    ∃ (x80 : Int),
    e_9 = .returned (.int .i64 x80) ∧
    K (.bool (decide (x80 = 0))) w_15
  )
def lrooms_k2 (K : Value → World → Prop) (x1_0 : Int) (x1_1 : Int) (a1_2 : Option Addr) (n1_2 : Nat) (c1_2 : Nat) (a1_3 : Option Addr) (n1_3 : Nat) (c1_3 : Nat) (x1_4 : Int) (b1_5 : Bool) (x1_6 : Int) (x1_7 : Int) (x1_8 : Int) (x1_9 : Int) (x1_10 : Int) (g : Nat) (p13 : Option Addr) (w_7 : World) : Prop :=
  Calls Try.prog 17 #[.agg #[.int .i64 x1_0, .int .i64 x1_1, .slice a1_2 n1_2 c1_2, .slice a1_3 n1_3 c1_3, .int .i64 x1_4, .bool b1_5, .int .i64 x1_6, .int .i64 x1_7, .int .i64 x1_8, .int .i64 x1_9, .int .i64 x1_10]] w_7 fun e_3 w_8 => KeepG [g] w_7 w_8 ∧
  ∃ (a36_0 : Option Addr) (n36_0 : Nat) (c36_0 : Nat) (a36_1 : Option Addr) (n36_1 : Nat) (c36_1 : Nat),
  e_3 = .returned (.tuple #[.slice a36_0 n36_0 c36_0, .slice a36_1 n36_1 c36_1]) ∧
  Calls Try.prog 18 #[.pointer p13, .slice a36_0 n36_0 c36_0, .slice a36_1 n36_1 c36_1] w_8 fun e_4 w_9 => KeepG [g] w_8 w_9 ∧
  ∃ (x43_0 : Int) (x43_1 : Int),
  e_4 = .returned (.tuple #[.int .i64 x43_0, .int .i64 x43_1]) ∧
  Calls Try.prog 19 #[] w_9 fun e_5 w_10 => KeepG [g] w_9 w_10 ∧
  ∃ (b46 : Bool),
  e_5 = .returned (.bool b46) ∧
  br (!b46) (
    Calls Try.prog 19 #[] w_10 fun e_6 w_11 => KeepG [g] w_10 w_11 ∧
    ∃ (b52 : Bool),
    e_6 = .returned (.bool b52) ∧
    br b52 (
      K (.bool (decide (x43_1 = 1))) w_11
    ) (
      K (.bool false) w_11
    )
  ) (
    br (decide (x43_1 ≠ 0)) (
      Calls Try.prog 19 #[] w_10 fun e_7 w_12 => KeepG [g] w_10 w_12 ∧
      ∃ (b52_2 : Bool),
      e_7 = .returned (.bool b52_2) ∧
      br b52_2 (
        K (.bool (decide (x43_1 = 1))) w_12
      ) (
        K (.bool false) w_12
      )
    ) (
      Calls Try.prog 20 #[.pointer p13, .slice a36_0 n36_0 c36_0, .slice a36_1 n36_1 c36_1, .int .i64 (IntKind.i64.wrap (x43_0 + 1))] w_10 fun e_8 w_13 => KeepG [g] w_10 w_13 ∧
      ∃ (x62 : Int),
      e_8 = .returned (.int .i64 x62) ∧
      br (decide (x62 = 0)) (
        K (.bool false) w_13
      ) (
        br (decide (x62 = 1)) (
          br (decide (x43_0 < 9007199254740992)) (
            K (.bool false) w_13
          ) (
            lrooms_k1 K g p13 a36_0 n36_0 c36_0 a36_1 n36_1 c36_1 x43_0 w_13
          )
        ) (
          lrooms_k1 K g p13 a36_0 n36_0 c36_0 a36_1 n36_1 c36_1 x43_0 w_13
        )
      )
    )
  )
def lrooms_vc (a0 : Option Addr) (n0 : Nat) (c0 : Nat) (x1_0 : Int) (x1_1 : Int) (a1_2 : Option Addr) (n1_2 : Nat) (c1_2 : Nat) (a1_3 : Option Addr) (n1_3 : Nat) (c1_3 : Nat) (x1_4 : Int) (b1_5 : Bool) (x1_6 : Int) (x1_7 : Int) (x1_8 : Int) (x1_9 : Int) (x1_10 : Int) (w : World) (K : Value → World → Prop) : Prop :=
  newO w (.cells #[.int .i64 x1_0, .int .i64 x1_1, .slice a1_2 n1_2 c1_2, .slice a1_3 n1_3 c1_3, .int .i64 x1_4, .bool b1_5, .int .i64 x1_6, .int .i64 x1_7, .int .i64 x1_8, .int .i64 x1_9, .int .i64 x1_10] 27) fun g w_2 =>
  Calls Try.prog 15 #[] w_2 fun e w_3 => KeepG [g] w_2 w_3 ∧
  ∃ (p13 : Option Addr),
  e = .returned (.pointer p13) ∧
  newO w_3 (.cells (List.replicate 165 (.int .i64 0)).toArray 33) fun g_2 w_4 =>
  ∃ (I : Int → World → Prop) (μ : Int → World → Nat),
  I 0 w_4 ∧
  ∀ (x7 : Int) (w_5 : World), I x7 w_5 →
  br (decide (x7 < ((n0 : Nat) : Int))) (
    br (decide (x7 < 50)) (
      withP a0 fun g28 o28 =>
      (0 : Int) ≤ x7 ∧ x7 < (((n0 : Nat) : Int) : Int) ∧
      ∃ (x29_0 : Int) (x29_1 : Int) (a29_2 : Option Addr) (n29_2 : Nat) (c29_2 : Nat) (a29_3 : Option Addr) (n29_3 : Nat) (c29_3 : Nat) (x29_4 : Int) (b29_5 : Bool) (x29_6 : Int) (x29_7 : Int) (x29_8 : Int) (x29_9 : Int) (x29_10 : Int),
      cellsAt w_5 g28 (o28 + x7.toNat * 11) [.int .i64 x29_0, .int .i64 x29_1, .slice a29_2 n29_2 c29_2, .slice a29_3 n29_3 c29_3, .int .i64 x29_4, .bool b29_5, .int .i64 x29_6, .int .i64 x29_7, .int .i64 x29_8, .int .i64 x29_9, .int .i64 x29_10] ∧
      Calls Try.prog 16 #[.agg #[.int .i64 x29_0, .int .i64 x29_1, .slice a29_2 n29_2 c29_2, .slice a29_3 n29_3 c29_3, .int .i64 x29_4, .bool b29_5, .int .i64 x29_6, .int .i64 x29_7, .int .i64 x29_8, .int .i64 x29_9, .int .i64 x29_10], .pointer p13, .pointer (some ⟨g_2, 0, none⟩)] w_5 fun e_2 w_6 => KeepG [g] w_5 w_6 ∧
      ∃ (b32 : Bool),
      e_2 = .returned (.bool b32) ∧
      br (!b32) (
        K (.bool false) w_6
      ) (
        I (IntKind.i64.wrap (x7 + 1)) w_6 ∧ μ (IntKind.i64.wrap (x7 + 1)) w_6 < μ x7 w_5
      )
    ) (
      lrooms_k2 K x1_0 x1_1 a1_2 n1_2 c1_2 a1_3 n1_3 c1_3 x1_4 b1_5 x1_6 x1_7 x1_8 x1_9 x1_10 g p13 w_5
    )
  ) (
    lrooms_k2 K x1_0 x1_1 a1_2 n1_2 c1_2 a1_3 n1_3 c1_3 x1_4 b1_5 x1_6 x1_7 x1_8 x1_9 x1_10 g p13 w_5
  )
def lrooms_notes : Notes := ⟨[], [(3, ⟨[(7, .lf (.int .i64))], [], [16, 17, 18, 19, 20, 21, 22, 23, 26, 27, 28, 29, 30, 31, 32, 33, 4, 24, 25, 7], []⟩)], []⟩
theorem lrooms_calls (a0 : Option Addr) (n0 : Nat) (c0 : Nat) (x1_0 : Int) (x1_1 : Int) (a1_2 : Option Addr) (n1_2 : Nat) (c1_2 : Nat) (a1_3 : Option Addr) (n1_3 : Nat) (c1_3 : Nat) (x1_4 : Int) (b1_5 : Bool) (x1_6 : Int) (x1_7 : Int) (x1_8 : Int) (x1_9 : Int) (x1_10 : Int) (w : World) (K : Value → World → Prop) (h : lrooms_vc a0 n0 c0 x1_0 x1_1 a1_2 n1_2 c1_2 a1_3 n1_3 c1_3 x1_4 b1_5 x1_6 x1_7 x1_8 x1_9 x1_10 w K) : Calls Try.prog 3 #[.slice a0 n0 c0, .agg #[.int .i64 x1_0, .int .i64 x1_1, .slice a1_2 n1_2 c1_2, .slice a1_3 n1_3 c1_3, .int .i64 x1_4, .bool b1_5, .int .i64 x1_6, .int .i64 x1_7, .int .i64 x1_8, .int .i64 x1_9, .int .i64 x1_10]] w fun e w' => ∃ v, e = .returned v ∧ K v w' :=
  calls_of_fvc envOk Try.func3 lrooms_notes [3] [.slice a0 n0 c0, .agg #[.int .i64 x1_0, .int .i64 x1_1, .slice a1_2 n1_2 c1_2, .slice a1_3 n1_3 c1_3, .int .i64 x1_4, .bool b1_5, .int .i64 x1_6, .int .i64 x1_7, .int .i64 x1_8, .int .i64 x1_9, .int .i64 x1_10]] w K (use_vc h (by as_aux_lemma => kernel_rfl))
/-- purser/purserlaw14.FundsBack -/
def lback_k1 (K : Value → World → Prop) (g : Nat) (p15 : Option Addr) (g_2 : Nat) (w_27 : World) : Prop :=
  Calls Try.prog 67 #[.pointer p15, .pointer (some ⟨g_2, 0, none⟩)] w_27 fun e_15 w_28 => KeepG [g] w_27 w_28 ∧
  ∃ (b148 : Bool),
  e_15 = .returned (.bool b148) ∧
  K (.bool b148) w_28
def lback_k2 (K : Value → World → Prop) (x1_4 : Int) (x2 : Int) (g : Nat) (p15 : Option Addr) (g_2 : Nat) (a38_0 : Option Addr) (n38_0 : Nat) (c38_0 : Nat) (w_15 : World) : Prop :=
  ∃ (I_2 : Int → World → Prop) (μ_2 : Int → World → Nat),
  I_2 0 w_15 ∧
  ∀ (x13 : Int) (w_16 : World), I_2 x13 w_16 →
  br (decide (x13 < ((n38_0 : Nat) : Int))) (
    drewO w_16 fun w_17 =>
    withP a38_0 fun g94 o94 =>
    (0 : Int) ≤ x13 ∧ x13 < (((n38_0 : Nat) : Int) : Int) ∧
    ∃ (x95 : Int), w_17.cell? ⟨g94, o94 + x13.toNat * 1, none⟩ = some (.int .i64 x95) ∧
    (0 : Int) ≤ x95 ∧ x95 < ((33 : Nat) : Int) ∧
    ∃ (x99_0 : Int) (x99_1 : Int) (x99_2 : Int) (x99_3 : Int) (x99_4 : Int),
    cellsAt w_17 g_2 (0 + x95.toNat * 5) [.int .i64 x99_0, .int .i64 x99_1, .int .i64 x99_2, .int .i64 x99_3, .int .i64 x99_4] ∧
    newO w_17 (.cells #[.int .i64 0, .int .i64 0, .int .i64 0, .int .i64 0, .int .i64 0] 25) fun g_3 w_18 =>
    w_18.cell? ⟨g94, o94 + x13.toNat * 1, none⟩ = some (.int .i64 x95) ∧
    cellsAt w_18 g_2 (0 + x95.toNat * 5) [.int .i64 x99_0, .int .i64 x99_1, .int .i64 x99_2, .int .i64 x99_3, .int .i64 x99_4] ∧
    ∀ w_19 : World, BoxSt g_3 w_18 w_19 →
    drewO w_19 fun w_20 =>
    withP a38_0 fun g103 o103 =>
    (0 : Int) ≤ x13 ∧ x13 < (((n38_0 : Nat) : Int) : Int) ∧
    ∃ (x104 : Int), w_20.cell? ⟨g103, o103 + x13.toNat * 1, none⟩ = some (.int .i64 x104) ∧
    Calls Try.prog 22 #[.pointer p15, .int .i64 x104] w_20 fun e_10 w_21 => KeepG [g_3, g] w_20 w_21 ∧
    ∃ (x105 : Int),
    e_10 = .returned (.int .i64 x105) ∧
    Calls Try.prog 69 #[.agg #[.int .i64 x99_0, .int .i64 x99_1, .int .i64 x99_2, .int .i64 x99_3, .int .i64 x99_4]] w_21 fun e_11 w_22 => KeepG [g_3, g] w_21 w_22 ∧
    ∃ (x107 : Int),
    e_11 = .returned (.int .i64 x107) ∧
    br (decide (x105 ≠ (IntKind.i64.wrap (x107 - (IntKind.i64.wrap (Int.tmod (IntKind.u64.wrap x2) (IntKind.u64.wrap (IntKind.i64.wrap (x1_4 + 1))))))))) (
      K (.bool false) w_22
    ) (
      withP a38_0 fun g115 o115 =>
      (0 : Int) ≤ x13 ∧ x13 < (((n38_0 : Nat) : Int) : Int) ∧
      ∃ (x116 : Int), w_22.cell? ⟨g115, o115 + x13.toNat * 1, none⟩ = some (.int .i64 x116) ∧
      Calls Try.prog 21 #[.pointer p15, .int .i64 x116] w_22 fun e_12 w_24 => KeepG [g_3, g] w_22 w_24 ∧
      ∃ (x117_0 : Int) (x117_1 : Int) (x117_2 : Int) (x117_3 : Int) (x117_4 : Int),
      e_12 = .returned (.agg #[.int .i64 x117_0, .int .i64 x117_1, .int .i64 x117_2, .int .i64 x117_3, .int .i64 x117_4]) ∧
      br (decide (x117_3 ≠ (IntKind.i64.wrap (x99_3 + (IntKind.i64.wrap (Int.tmod (IntKind.u64.wrap x2) (IntKind.u64.wrap (IntKind.i64.wrap (x1_4 + 1))))))))) (
        K (.bool false) w_24
      ) (
        withP a38_0 fun g129 o129 =>
        (0 : Int) ≤ x13 ∧ x13 < (((n38_0 : Nat) : Int) : Int) ∧
        ∃ (x130 : Int), w_24.cell? ⟨g129, o129 + x13.toNat * 1, none⟩ = some (.int .i64 x130) ∧
        Calls Try.prog 21 #[.pointer p15, .int .i64 x130] w_24 fun e_13 w_25 => KeepG [g_3, g] w_24 w_25 ∧
        ∃ (x131_0 : Int) (x131_1 : Int) (x131_2 : Int) (x131_3 : Int) (x131_4 : Int),
        e_13 = .returned (.agg #[.int .i64 x131_0, .int .i64 x131_1, .int .i64 x131_2, .int .i64 x131_3, .int .i64 x131_4]) ∧
        br (decide (x131_4 ≠ x99_4)) (
          K (.bool false) w_25
        ) (
          I_2 (IntKind.i64.wrap (x13 + 1)) w_25 ∧ μ_2 (IntKind.i64.wrap (x13 + 1)) w_25 < μ_2 x13 w_16
        )
      )
    )
  ) (
    br (decide ((IntKind.i64.wrap (Int.tmod (IntKind.u64.wrap x2) (IntKind.u64.wrap (IntKind.i64.wrap (x1_4 + 1))))) > 0)) (
      Calls Try.prog 65 #[.pointer p15, .slice a38_0 n38_0 c38_0, .int .i64 (IntKind.i64.wrap (Int.tmod (IntKind.u64.wrap x2) (IntKind.u64.wrap (IntKind.i64.wrap (x1_4 + 1)))))] w_16 fun e_14 w_26 => KeepG [g] w_16 w_26 ∧
      ∃ (x143 : Int),
      e_14 = .returned (.int .i64 x143) ∧
      br (decide (x143 ≠ 0)) (
        K (.bool false) w_26
      ) (
        lback_k1 K g p15 g_2 w_26
      )
    ) (
      lback_k1 K g p15 g_2 w_16
    )
  )
def lback_k3 (K : Value → World → Prop) (x1_0 : Int) (x1_1 : Int) (a1_2 : Option Addr) (n1_2 : Nat) (c1_2 : Nat) (a1_3 : Option Addr) (n1_3 : Nat) (c1_3 : Nat) (x1_4 : Int) (b1_5 : Bool) (x1_6 : Int) (x1_7 : Int) (x1_8 : Int) (x1_9 : Int) (x1_10 : Int) (x2 : Int) (g : Nat) (p15 : Option Addr) (g_2 : Nat) (w_7 : World) : Prop :=
  Calls Try.prog 17 #[.agg #[.int .i64 x1_0, .int .i64 x1_1, .slice a1_2 n1_2 c1_2, .slice a1_3 n1_3 c1_3, .int .i64 x1_4, .bool b1_5, .int .i64 x1_6, .int .i64 x1_7, .int .i64 x1_8, .int .i64 x1_9, .int .i64 x1_10]] w_7 fun e_3 w_8 => KeepG [g] w_7 w_8 ∧
  ∃ (a38_0 : Option Addr) (n38_0 : Nat) (c38_0 : Nat) (a38_1 : Option Addr) (n38_1 : Nat) (c38_1 : Nat),
  e_3 = .returned (.tuple #[.slice a38_0 n38_0 c38_0, .slice a38_1 n38_1 c38_1]) ∧
  Calls Try.prog 19 #[] w_8 fun e_4 w_9 => KeepG [g] w_8 w_9 ∧
  ∃ (b41 : Bool),
  e_4 = .returned (.bool b41) ∧
  br (!b41) (
    Calls Try.prog 19 #[] w_9 fun e_5 w_10 => KeepG [g] w_9 w_10 ∧
    ∃ (b52 : Bool),
    e_5 = .returned (.bool b52) ∧
    K (.bool b52) w_10
  ) (
    Calls Try.prog 20 #[.pointer p15, .slice a38_0 n38_0 c38_0, .slice a38_1 n38_1 c38_1, .int .i64 x1_4] w_9 fun e_6 w_11 => KeepG [g] w_9 w_11 ∧
    ∃ (x49 : Int),
    e_6 = .returned (.int .i64 x49) ∧
    br (decide (x49 ≠ 0)) (
      Calls Try.prog 19 #[] w_11 fun e_7 w_12 => KeepG [g] w_11 w_12 ∧
      ∃ (b52_2 : Bool),
      e_7 = .returned (.bool b52_2) ∧
      K (.bool b52_2) w_12
    ) (
      ((IntKind.u64.wrap (IntKind.i64.wrap (x1_4 + 1))) : Int) ≠ 0 ∧
      br (decide ((IntKind.i64.wrap (Int.tmod (IntKind.u64.wrap x2) (IntKind.u64.wrap (IntKind.i64.wrap (x1_4 + 1))))) > 0)) (
        Calls Try.prog 64 #[.pointer p15, .slice a38_0 n38_0 c38_0, .int .i64 (IntKind.i64.wrap (Int.tmod (IntKind.u64.wrap x2) (IntKind.u64.wrap (IntKind.i64.wrap (x1_4 + 1)))))] w_11 fun e_8 w_13 => KeepG [g] w_11 w_13 ∧
        ∃ (x71 : Int),
        e_8 = .returned (.int .i64 x71) ∧
        br (decide (x71 ≠ 0)) (
          K (.bool false) w_13
        ) (
          br (decide ((IntKind.i64.wrap (x1_4 - (IntKind.i64.wrap (Int.tmod (IntKind.u64.wrap x2) (IntKind.u64.wrap (IntKind.i64.wrap (x1_4 + 1))))))) > 0)) (
            Calls Try.prog 63 #[.pointer p15, .slice a38_0 n38_0 c38_0, .int .i64 (IntKind.i64.wrap (x1_4 - (IntKind.i64.wrap (Int.tmod (IntKind.u64.wrap x2) (IntKind.u64.wrap (IntKind.i64.wrap (x1_4 + 1)))))))] w_13 fun e_9 w_14 => KeepG [g] w_13 w_14 ∧
            ∃ (x81 : Int),
            e_9 = .returned (.int .i64 x81) ∧
            br (decide (x81 ≠ 0)) (
              K (.bool false) w_14
            ) (
              lback_k2 K x1_4 x2 g p15 g_2 a38_0 n38_0 c38_0 w_14
            )
          ) (
            lback_k2 K x1_4 x2 g p15 g_2 a38_0 n38_0 c38_0 w_13
          )
        )
      ) (
        br (decide ((IntKind.i64.wrap (x1_4 - (IntKind.i64.wrap (Int.tmod (IntKind.u64.wrap x2) (IntKind.u64.wrap (IntKind.i64.wrap (x1_4 + 1))))))) > 0)) (
          Calls Try.prog 63 #[.pointer p15, .slice a38_0 n38_0 c38_0, .int .i64 (IntKind.i64.wrap (x1_4 - (IntKind.i64.wrap (Int.tmod (IntKind.u64.wrap x2) (IntKind.u64.wrap (IntKind.i64.wrap (x1_4 + 1)))))))] w_11 fun e_16 w_29 => KeepG [g] w_11 w_29 ∧
          ∃ (x81_2 : Int),
          e_16 = .returned (.int .i64 x81_2) ∧
          br (decide (x81_2 ≠ 0)) (
            K (.bool false) w_29
          ) (
            lback_k2 K x1_4 x2 g p15 g_2 a38_0 n38_0 c38_0 w_29
          )
        ) (
          lback_k2 K x1_4 x2 g p15 g_2 a38_0 n38_0 c38_0 w_11
        )
      )
    )
  )
def lback_vc (a0 : Option Addr) (n0 : Nat) (c0 : Nat) (x1_0 : Int) (x1_1 : Int) (a1_2 : Option Addr) (n1_2 : Nat) (c1_2 : Nat) (a1_3 : Option Addr) (n1_3 : Nat) (c1_3 : Nat) (x1_4 : Int) (b1_5 : Bool) (x1_6 : Int) (x1_7 : Int) (x1_8 : Int) (x1_9 : Int) (x1_10 : Int) (x2 : Int) (w : World) (K : Value → World → Prop) : Prop :=
  newO w (.cells #[.int .i64 x1_0, .int .i64 x1_1, .slice a1_2 n1_2 c1_2, .slice a1_3 n1_3 c1_3, .int .i64 x1_4, .bool b1_5, .int .i64 x1_6, .int .i64 x1_7, .int .i64 x1_8, .int .i64 x1_9, .int .i64 x1_10] 27) fun g w_2 =>
  Calls Try.prog 15 #[] w_2 fun e w_3 => KeepG [g] w_2 w_3 ∧
  ∃ (p15 : Option Addr),
  e = .returned (.pointer p15) ∧
  newO w_3 (.cells (List.replicate 165 (.int .i64 0)).toArray 33) fun g_2 w_4 =>
  ∃ (I : Int → World → Prop) (μ : Int → World → Nat),
  I 0 w_4 ∧
  ∀ (x9 : Int) (w_5 : World), I x9 w_5 →
  br (decide (x9 < ((n0 : Nat) : Int))) (
    br (decide (x9 < 50)) (
      withP a0 fun g30 o30 =>
      (0 : Int) ≤ x9 ∧ x9 < (((n0 : Nat) : Int) : Int) ∧
      ∃ (x31_0 : Int) (x31_1 : Int) (a31_2 : Option Addr) (n31_2 : Nat) (c31_2 : Nat) (a31_3 : Option Addr) (n31_3 : Nat) (c31_3 : Nat) (x31_4 : Int) (b31_5 : Bool) (x31_6 : Int) (x31_7 : Int) (x31_8 : Int) (x31_9 : Int) (x31_10 : Int),
      cellsAt w_5 g30 (o30 + x9.toNat * 11) [.int .i64 x31_0, .int .i64 x31_1, .slice a31_2 n31_2 c31_2, .slice a31_3 n31_3 c31_3, .int .i64 x31_4, .bool b31_5, .int .i64 x31_6, .int .i64 x31_7, .int .i64 x31_8, .int .i64 x31_9, .int .i64 x31_10] ∧
      Calls Try.prog 16 #[.agg #[.int .i64 x31_0, .int .i64 x31_1, .slice a31_2 n31_2 c31_2, .slice a31_3 n31_3 c31_3, .int .i64 x31_4, .bool b31_5, .int .i64 x31_6, .int .i64 x31_7, .int .i64 x31_8, .int .i64 x31_9, .int .i64 x31_10], .pointer p15, .pointer (some ⟨g_2, 0, none⟩)] w_5 fun e_2 w_6 => KeepG [g] w_5 w_6 ∧
      ∃ (b34 : Bool),
      e_2 = .returned (.bool b34) ∧
      br (!b34) (
        K (.bool false) w_6
      ) (
        I (IntKind.i64.wrap (x9 + 1)) w_6 ∧ μ (IntKind.i64.wrap (x9 + 1)) w_6 < μ x9 w_5
      )
    ) (
      lback_k3 K x1_0 x1_1 a1_2 n1_2 c1_2 a1_3 n1_3 c1_3 x1_4 b1_5 x1_6 x1_7 x1_8 x1_9 x1_10 x2 g p15 g_2 w_5
    )
  ) (
    lback_k3 K x1_0 x1_1 a1_2 n1_2 c1_2 a1_3 n1_3 c1_3 x1_4 b1_5 x1_6 x1_7 x1_8 x1_9 x1_10 x2 g p15 g_2 w_5
  )
def lback_notes : Notes := ⟨[(17, ⟨[0, 0, 0, 6, 14, 1, 33, 127, 255, 0, 1023], [9, 10], [0, 1, 2, 3, 4, 5, 6, 7, 8]⟩), (18, ⟨[0, 0, 0, 6, 14, 31, 0, 127, 0, 511, 1023, 2047, 4095, 4095, 4095, 28671, 61439, 131071, 262143, 4095, 528383, 4095, 3674111, 8388607, 16777215, 33554431, 67108863, 67108863, 67108863, 469762047, 1006632959, 2147483647, 4294967295, 67108863, 8657043455, 34359738367, 68719476735], [5, 7, 17, 31], [0, 1, 2, 3, 4, 6, 8, 9, 10, 11, 12, 13, 14, 15, 16, 18, 19, 20, 21, 22, 23, 24, 25, 26, 27, 28, 29, 30, 32, 33, 34, 35, 36]⟩)], [(3, ⟨[(9, .lf (.int .i64))], [], [18, 19, 20, 21, 22, 23, 24, 25, 28, 29, 30, 31, 32, 33, 34, 35, 6, 26, 27, 9], []⟩), (15, ⟨[(13, .lf (.int .i64))], [], [85, 86, 87, 88, 91, 92, 93, 94, 95, 96, 97, 98, 99, 14, 100, 101, 102, 103, 104, 105, 106, 107, 108, 109, 110, 111, 112, 113, 114, 115, 116, 117, 118, 119, 120, 121, 122, 123, 124, 125, 126, 127, 128, 129, 130, 131, 132, 133, 134, 135, 136, 6, 89, 90, 13], [14]⟩)], []⟩
theorem lback_calls (a0 : Option Addr) (n0 : Nat) (c0 : Nat) (x1_0 : Int) (x1_1 : Int) (a1_2 : Option Addr) (n1_2 : Nat) (c1_2 : Nat) (a1_3 : Option Addr) (n1_3 : Nat) (c1_3 : Nat) (x1_4 : Int) (b1_5 : Bool) (x1_6 : Int) (x1_7 : Int) (x1_8 : Int) (x1_9 : Int) (x1_10 : Int) (x2 : Int) (w : World) (K : Value → World → Prop) (h : lback_vc a0 n0 c0 x1_0 x1_1 a1_2 n1_2 c1_2 a1_3 n1_3 c1_3 x1_4 b1_5 x1_6 x1_7 x1_8 x1_9 x1_10 x2 w K) : Calls Try.prog 14 #[.slice a0 n0 c0, .agg #[.int .i64 x1_0, .int .i64 x1_1, .slice a1_2 n1_2 c1_2, .slice a1_3 n1_3 c1_3, .int .i64 x1_4, .bool b1_5, .int .i64 x1_6, .int .i64 x1_7, .int .i64 x1_8, .int .i64 x1_9, .int .i64 x1_10], .int .i64 x2] w fun e w' => ∃ v, e = .returned v ∧ K v w' :=
  calls_of_fvc envOk Try.func14 lback_notes [4, 14] [.slice a0 n0 c0, .agg #[.int .i64 x1_0, .int .i64 x1_1, .slice a1_2 n1_2 c1_2, .slice a1_3 n1_3 c1_3, .int .i64 x1_4, .bool b1_5, .int .i64 x1_6, .int .i64 x1_7, .int .i64 x1_8, .int .i64 x1_9, .int .i64 x1_10], .int .i64 x2] w K (use_vc h (by as_aux_lemma => kernel_rfl))
/-- purser/purserlaw14.FundsRolls -/
def lrolls_k1 (K : Value → World → Prop) (x1 : Int) (b2 : Bool) (p15 : Option Addr) (w_6 : World) : Prop :=
  (32 : Int) ≠ 0 ∧
  Calls Try.prog 21 #[.pointer p15, .int .i64 (IntKind.i64.wrap (1 + (IntKind.i64.wrap (Int.tmod (IntKind.u64.wrap x1) 32))))] w_6 fun e_3 w_7 => KeepG [] w_6 w_7 ∧
  ∃ (x43_0 : Int) (x43_1 : Int) (x43_2 : Int) (x43_3 : Int) (x43_4 : Int),
  e_3 = .returned (.agg #[.int .i64 x43_0, .int .i64 x43_1, .int .i64 x43_2, .int .i64 x43_3, .int .i64 x43_4]) ∧
  newO w_7 (.cells #[.int .i64 0, .int .i64 0, .int .i64 0, .int .i64 0, .int .i64 0] 44) fun g_2 w_8 =>
  ∀ w_9 : World, BoxSt g_2 w_8 w_9 →
  Calls Try.prog 22 #[.pointer p15, .int .i64 (IntKind.i64.wrap (1 + (IntKind.i64.wrap (Int.tmod (IntKind.u64.wrap x1) 32))))] w_9 fun e_4 w_10 => KeepG [g_2] w_9 w_10 ∧
  ∃ (x46 : Int),
  e_4 = .returned (.int .i64 x46) ∧
  Calls Try.prog 23 #[.pointer p15, .int .i64 (IntKind.i64.wrap (1 + (IntKind.i64.wrap (Int.tmod (IntKind.u64.wrap x1) 32)))), .bool b2] w_10 fun e_5 w_11 => KeepG [g_2] w_10 w_11 ∧
  ∃ (x51_0 : Int) (x51_1 : Int),
  e_5 = .returned (.tuple #[.int .i64 x51_0, .int .i64 x51_1]) ∧
  Calls Try.prog 21 #[.pointer p15, .int .i64 (IntKind.i64.wrap (1 + (IntKind.i64.wrap (Int.tmod (IntKind.u64.wrap x1) 32))))] w_11 fun e_6 w_12 => KeepG [g_2] w_11 w_12 ∧
  ∃ (x56_0 : Int) (x56_1 : Int) (x56_2 : Int) (x56_3 : Int) (x56_4 : Int),
  e_6 = .returned (.agg #[.int .i64 x56_0, .int .i64 x56_1, .int .i64 x56_2, .int .i64 x56_3, .int .i64 x56_4]) ∧
  newO w_12 (.cells #[.int .i64 0, .int .i64 0, .int .i64 0, .int .i64 0, .int .i64 0] 44) fun g_3 w_13 =>
  ∀ w_14 : World, BoxSt g_3 w_13 w_14 →
  Calls Try.prog 19 #[] w_14 fun e_7 w_15 => KeepG [g_3, g_2] w_14 w_15 ∧
  ∃ (b57 : Bool),
  e_7 = .returned (.bool b57) ∧
  br (!b57) (
    K (.bool false) w_15
  ) (
    br (decide (x51_1 ≠ 0)) (
      K (.bool false) w_15
    ) (
      br (decide (x56_4 ≠ x43_4)) (
        K (.bool false) w_15
      ) (
        br (decide (x56_0 ≠ 0)) (
          K (.bool false) w_15
        ) (
          br (decide (x56_3 ≠ 0)) (
            K (.bool false) w_15
          ) (
            br (decide (x56_2 ≠ 0)) (
              K (.bool false) w_15
            ) (
              Calls Try.prog 22 #[.pointer p15, .int .i64 (IntKind.i64.wrap (1 + (IntKind.i64.wrap (Int.tmod (IntKind.u64.wrap x1) 32))))] w_15 fun e_8 w_16 => KeepG [g_3, g_2] w_15 w_16 ∧
              ∃ (x88 : Int),
              e_8 = .returned (.int .i64 x88) ∧
              br (decide (x88 ≠ (IntKind.i64.wrap (x46 - x51_0)))) (
                K (.bool false) w_16
              ) (
                br b2 (
                  br (decide (x51_0 = 0)) (
                    K (.bool (decide (x56_1 = (IntKind.i64.wrap (x46 + x43_4))))) w_16
                  ) (
                    K (.bool false) w_16
                  )
                ) (
                  br (decide (x51_0 = x46)) (
                    br (decide (x56_1 = x43_4)) (
                      Calls Try.prog 22 #[.pointer p15, .int .i64 (IntKind.i64.wrap (1 + (IntKind.i64.wrap (Int.tmod (IntKind.u64.wrap x1) 32))))] w_16 fun e_9 w_17 => KeepG [g_3, g_2] w_16 w_17 ∧
                      ∃ (x119 : Int),
                      e_9 = .returned (.int .i64 x119) ∧
                      K (.bool (decide (x119 = 0))) w_17
                    ) (
                      K (.bool false) w_16
                    )
                  ) (
                    K (.bool false) w_16
                  )
                )
              )
            )
          )
        )
      )
    )
  )
def lrolls_vc (a0 : Option Addr) (n0 : Nat) (c0 : Nat) (x1 : Int) (b2 : Bool) (w : World) (K : Value → World → Prop) : Prop :=
  Calls Try.prog 15 #[] w fun e w_2 => KeepG [] w w_2 ∧
  ∃ (p15 : Option Addr),
  e = .returned (.pointer p15) ∧
  newO w_2 (.cells (List.replicate 165 (.int .i64 0)).toArray 33) fun g w_3 =>
  ∃ (I : Int → World → Prop) (μ : Int → World → Nat),
  I 0 w_3 ∧
  ∀ (x9 : Int) (w_4 : World), I x9 w_4 →
  br (decide (x9 < ((n0 : Nat) : Int))) (
    br (decide (x9 < 50)) (
      withP a0 fun g30 o30 =>
      (0 : Int) ≤ x9 ∧ x9 < (((n0 : Nat) : Int) : Int) ∧
      ∃ (x31_0 : Int) (x31_1 : Int) (a31_2 : Option Addr) (n31_2 : Nat) (c31_2 : Nat) (a31_3 : Option Addr) (n31_3 : Nat) (c31_3 : Nat) (x31_4 : Int) (b31_5 : Bool) (x31_6 : Int) (x31_7 : Int) (x31_8 : Int) (x31_9 : Int) (x31_10 : Int),
      cellsAt w_4 g30 (o30 + x9.toNat * 11) [.int .i64 x31_0, .int .i64 x31_1, .slice a31_2 n31_2 c31_2, .slice a31_3 n31_3 c31_3, .int .i64 x31_4, .bool b31_5, .int .i64 x31_6, .int .i64 x31_7, .int .i64 x31_8, .int .i64 x31_9, .int .i64 x31_10] ∧
      Calls Try.prog 16 #[.agg #[.int .i64 x31_0, .int .i64 x31_1, .slice a31_2 n31_2 c31_2, .slice a31_3 n31_3 c31_3, .int .i64 x31_4, .bool b31_5, .int .i64 x31_6, .int .i64 x31_7, .int .i64 x31_8, .int .i64 x31_9, .int .i64 x31_10], .pointer p15, .pointer (some ⟨g, 0, none⟩)] w_4 fun e_2 w_5 => KeepG [] w_4 w_5 ∧
      ∃ (b34 : Bool),
      e_2 = .returned (.bool b34) ∧
      br (!b34) (
        K (.bool false) w_5
      ) (
        I (IntKind.i64.wrap (x9 + 1)) w_5 ∧ μ (IntKind.i64.wrap (x9 + 1)) w_5 < μ x9 w_4
      )
    ) (
      lrolls_k1 K x1 b2 p15 w_4
    )
  ) (
    lrolls_k1 K x1 b2 p15 w_4
  )
def lrolls_notes : Notes := ⟨[], [(3, ⟨[(9, .lf (.int .i64))], [], [18, 19, 20, 21, 22, 23, 24, 25, 28, 29, 30, 31, 32, 33, 34, 35, 6, 26, 27, 9], []⟩)], []⟩
theorem lrolls_calls (a0 : Option Addr) (n0 : Nat) (c0 : Nat) (x1 : Int) (b2 : Bool) (w : World) (K : Value → World → Prop) (h : lrolls_vc a0 n0 c0 x1 b2 w K) : Calls Try.prog 4 #[.slice a0 n0 c0, .int .i64 x1, .bool b2] w fun e w' => ∃ v, e = .returned v ∧ K v w' :=
  calls_of_fvc envOk Try.func4 lrolls_notes [10, 14] [.slice a0 n0 c0, .int .i64 x1, .bool b2] w K (use_vc h (by as_aux_lemma => kernel_rfl))
/-- purser/purserref01.Same -/
def lsame_vc (a0 : Option Addr) (n0 : Nat) (c0 : Nat) (a1 : Option Addr) (n1 : Nat) (c1 : Nat) (w : World) (K : Value → World → Prop) : Prop :=
  br (decide (((n0 : Nat) : Int) ≠ ((n1 : Nat) : Int))) (
    K (.bool false) w
  ) (
    ∃ (I : Int → World → Prop) (μ : Int → World → Nat),
    I 0 w ∧
    ∀ (x5 : Int) (w_2 : World), I x5 w_2 →
    br (decide (x5 < ((n0 : Nat) : Int))) (
      drewO w_2 fun w_3 =>
      withP a0 fun g19 o19 =>
      (0 : Int) ≤ x5 ∧ x5 < (((n0 : Nat) : Int) : Int) ∧
      ∃ (x20 : Int), w_3.cell? ⟨g19, o19 + x5.toNat * 1, none⟩ = some (.int .i64 x20) ∧
      withP a1 fun g23 o23 =>
      (0 : Int) ≤ x5 ∧ x5 < (((n1 : Nat) : Int) : Int) ∧
      ∃ (x24 : Int), w_3.cell? ⟨g23, o23 + x5.toNat * 1, none⟩ = some (.int .i64 x24) ∧
      br (decide (x20 ≠ x24)) (
        K (.bool false) w_3
      ) (
        I (IntKind.i64.wrap (x5 + 1)) w_3 ∧ μ (IntKind.i64.wrap (x5 + 1)) w_3 < μ x5 w_2
      )
    ) (
      K (.bool true) w_2
    )
  )
def lsame_notes : Notes := ⟨[(6, ⟨[0, 0, 3, 7, 0, 0, 48, 112, 255], [], [0, 1, 2, 3, 4, 5, 6, 7, 8]⟩)], [(4, ⟨[(5, .lf (.int .i64))], [], [11, 12, 13, 14, 17, 18, 19, 20, 21, 22, 23, 24, 25, 4, 15, 16, 5], []⟩)], []⟩
theorem lsame_calls (a0 : Option Addr) (n0 : Nat) (c0 : Nat) (a1 : Option Addr) (n1 : Nat) (c1 : Nat) (w : World) (K : Value → World → Prop) (h : lsame_vc a0 n0 c0 a1 n1 c1 w K) : Calls Try.prog 39 #[.slice a0 n0 c0, .slice a1 n1 c1] w fun e w' => ∃ v, e = .returned v ∧ K v w' :=
  calls_of_fvc envOk Try.func39 lsame_notes [] [.slice a0 n0 c0, .slice a1 n1 c1] w K (use_vc h (by as_aux_lemma => kernel_rfl))
end GFuR
end Go.Proofs.Ytjcabccolkmlmaa
end
section
/- Conditions of functions, printed by a program of this claim's own (vcgen.py) out of the loaded code; each is proved to be enough. -/
set_option maxRecDepth 100000
namespace Go.Proofs.Ytjcabccolkmlmaa
open Go.RowKit
namespace GFu
def env : Env := ⟨[(3, ⟨.int .i64, 1, .int .i64 0, 8, [.int .i64]⟩), (23, ⟨.slice 3, 1, .slice none 0 0, 24, [.slice]⟩), (28, ⟨.ptr, 1, .pointer none, 8, [.ptr]⟩), (44, ⟨.struct [(0, 3), (1, 3), (2, 3), (3, 3), (4, 3)], 5, .agg #[.int .i64 0, .int .i64 0, .int .i64 0, .int .i64 0, .int .i64 0], 40, [.int .i64, .int .i64, .int .i64, .int .i64, .int .i64]⟩), (112, ⟨.map 3 44, 1, .map none, 8, [.map]⟩), (114, ⟨.struct [(0, 112)], 1, .agg #[.map none], 8, [.map]⟩)], [(21, [.agg [.int .i64, .int .i64, .int .i64, .int .i64, .int .i64]]), (76, [.lf (.bool)]), (77, [.lf (.int .i64)]), (78, [.lf (.int .i64)]), (79, [.lf (.bool)]), (80, []), (81, [.lf (.bool)]), (82, []), (87, [.lf (.slice)]), (96, [.lf (.bool)]), (101, [.lf (.bool)]), (102, [.lf (.any)]), (103, [.lf (.int .i64)]), (104, [.lf (.int .i64)]), (105, [.lf (.int .i64)]), (109, [.lf (.bool)]), (110, [.lf (.bool)]), (111, [.lf (.bool)]), (121, [.lf (.bool)]), (123, [.lf (.int .i64)])], [44]⟩
theorem ty3 : TyOk Try.prog 3 ⟨.int .i64, 1, .int .i64 0, 8, [.int .i64]⟩ := tyok (by kernel_rfl) (by kernel_rfl)
theorem ty23 : TyOk Try.prog 23 ⟨.slice 3, 1, .slice none 0 0, 24, [.slice]⟩ := tyok (by kernel_rfl) (by kernel_rfl)
theorem ty28 : TyOk Try.prog 28 ⟨.ptr, 1, .pointer none, 8, [.ptr]⟩ := tyok (by kernel_rfl) (by kernel_rfl)
theorem ty44 : TyOk Try.prog 44 ⟨.struct [(0, 3), (1, 3), (2, 3), (3, 3), (4, 3)], 5, .agg #[.int .i64 0, .int .i64 0, .int .i64 0, .int .i64 0, .int .i64 0], 40, [.int .i64, .int .i64, .int .i64, .int .i64, .int .i64]⟩ := tyok (by kernel_rfl) (by kernel_rfl)
theorem ty112 : TyOk Try.prog 112 ⟨.map 3 44, 1, .map none, 8, [.map]⟩ := tyok (by kernel_rfl) (by kernel_rfl)
theorem ty114 : TyOk Try.prog 114 ⟨.struct [(0, 112)], 1, .agg #[.map none], 8, [.map]⟩ := tyok (by kernel_rfl) (by kernel_rfl)
theorem fn21 : FnOk Try.prog 21 := fnok Try.func21 (by kernel_rfl) (by kernel_rfl)
theorem fn76 : FnOk Try.prog 76 := fnok Try.func76 (by kernel_rfl) (by kernel_rfl)
theorem fn77 : FnOk Try.prog 77 := fnok Try.func77 (by kernel_rfl) (by kernel_rfl)
theorem fn78 : FnOk Try.prog 78 := fnok Try.func78 (by kernel_rfl) (by kernel_rfl)
theorem fn79 : FnOk Try.prog 79 := fnok Try.func79 (by kernel_rfl) (by kernel_rfl)
theorem fn80 : FnOk Try.prog 80 := fnok Try.func80 (by kernel_rfl) (by kernel_rfl)
theorem fn81 : FnOk Try.prog 81 := fnok Try.func81 (by kernel_rfl) (by kernel_rfl)
theorem fn82 : FnOk Try.prog 82 := fnok Try.func82 (by kernel_rfl) (by kernel_rfl)
theorem fn87 : FnOk Try.prog 87 := fnok Try.func87 (by kernel_rfl) (by kernel_rfl)
theorem fn96 : FnOk Try.prog 96 := fnok Try.func96 (by kernel_rfl) (by kernel_rfl)
theorem fn101 : FnOk Try.prog 101 := fnok Try.func101 (by kernel_rfl) (by kernel_rfl)
theorem fn102 : FnOk Try.prog 102 := fnok Try.func102 (by kernel_rfl) (by kernel_rfl)
theorem fn103 : FnOk Try.prog 103 := fnok Try.func103 (by kernel_rfl) (by kernel_rfl)
theorem fn104 : FnOk Try.prog 104 := fnok Try.func104 (by kernel_rfl) (by kernel_rfl)
theorem fn105 : FnOk Try.prog 105 := fnok Try.func105 (by kernel_rfl) (by kernel_rfl)
theorem fn109 : FnOk Try.prog 109 := fnok Try.func109 (by kernel_rfl) (by kernel_rfl)
theorem fn110 : FnOk Try.prog 110 := fnok Try.func110 (by kernel_rfl) (by kernel_rfl)
theorem fn111 : FnOk Try.prog 111 := fnok Try.func111 (by kernel_rfl) (by kernel_rfl)
theorem fn121 : FnOk Try.prog 121 := fnok Try.func121 (by kernel_rfl) (by kernel_rfl)
theorem fn123 : FnOk Try.prog 123 := fnok Try.func123 (by kernel_rfl) (by kernel_rfl)
theorem eqt44 : EqTy Try.prog 44 := ⟨by kernel_rfl, by kernel_rfl, by kernel_rfl⟩
theorem envOk : EOk Try.prog env := ⟨(by simp only [env, List.forall_mem_cons, List.not_mem_nil, false_implies, implies_true, and_true]; exact ⟨ty3, ty23, ty28, ty44, ty112, ty114⟩), (by simp only [env, List.forall_mem_cons, List.not_mem_nil, false_implies, implies_true, and_true]; exact ⟨fn21, fn76, fn77, fn78, fn79, fn80, fn81, fn82, fn87, fn96, fn101, fn102, fn103, fn104, fn105, fn109, fn110, fn111, fn121, fn123⟩), by kernel_rfl, (by simp only [env, List.forall_mem_cons, List.not_mem_nil, false_implies, implies_true, and_true]; exact eqt44)⟩
/-- purser/funds.New -/
def fnew_vc  (w : World) (K : Value → World → Prop) : Prop :=
  newO w (.map #[] 0) fun g w_2 =>
  newO w_2 (.cells #[.map (some g)] 114) fun g_2 w_3 =>
  K (.pointer (some ⟨g_2, 0, none⟩)) w_3
def fnew_notes : Notes := ⟨[], [], []⟩
theorem fnew_calls  (w : World) (K : Value → World → Prop) (h : fnew_vc  w K) : Calls Try.prog 15 #[] w fun e w' => ∃ v, e = .returned v ∧ K v w' :=
  calls_of_fvc envOk Try.func15 fnew_notes [] [] w K (use_vc h (by as_aux_lemma => kernel_rfl))
/-- purser/funds.node -/
def fnode_vc (x0 : Int) (w : World) (K : Value → World → Prop) : Prop :=
  br (decide (x0 ≥ 1)) (
    K (.bool (decide (x0 ≤ 32))) w
  ) (
    K (.bool false) w
  )
def fnode_notes : Notes := ⟨[], [], []⟩
theorem fnode_calls (x0 : Int) (w : World) (K : Value → World → Prop) (h : fnode_vc x0 w K) : Calls Try.prog 81 #[.int .i64 x0] w fun e w' => ∃ v, e = .returned v ∧ K v w' :=
  calls_of_fvc envOk Try.func81 fnode_notes [] [.int .i64 x0] w K (use_vc h (by as_aux_lemma => kernel_rfl))
/-- purser/funds.amount -/
def famount_vc (x0 : Int) (w : World) (K : Value → World → Prop) : Prop :=
  br (decide (x0 ≥ 1)) (
    K (.bool (decide (x0 ≤ 9007199254740992))) w
  ) (
    K (.bool false) w
  )
def famount_notes : Notes := ⟨[], [], []⟩
theorem famount_calls (x0 : Int) (w : World) (K : Value → World → Prop) (h : famount_vc x0 w K) : Calls Try.prog 79 #[.int .i64 x0] w fun e w' => ∃ v, e = .returned v ∧ K v w' :=
  calls_of_fvc envOk Try.func79 famount_notes [] [.int .i64 x0] w K (use_vc h (by as_aux_lemma => kernel_rfl))
/-- purser/funds.within -/
def fwithin_vc (x0 : Int) (w : World) (K : Value → World → Prop) : Prop :=
  br (decide (x0 ≥ 0)) (
    K (.bool (decide (x0 ≤ 9007199254740992))) w
  ) (
    K (.bool false) w
  )
def fwithin_notes : Notes := ⟨[], [], []⟩
theorem fwithin_calls (x0 : Int) (w : World) (K : Value → World → Prop) (h : fwithin_vc x0 w K) : Calls Try.prog 121 #[.int .i64 x0] w fun e w' => ∃ v, e = .returned v ∧ K v w' :=
  calls_of_fvc envOk Try.func121 fwithin_notes [] [.int .i64 x0] w K (use_vc h (by as_aux_lemma => kernel_rfl))
/-- (purser/funds.Account).right -/
def fright_vc (x0_0 : Int) (x0_1 : Int) (x0_2 : Int) (x0_3 : Int) (x0_4 : Int) (w : World) (K : Value → World → Prop) : Prop :=
  newO w (.cells #[.int .i64 x0_0, .int .i64 x0_1, .int .i64 x0_2, .int .i64 x0_3, .int .i64 x0_4] 44) fun g w_2 =>
  newO w_2 (.cells #[.int .i64 x0_0, .int .i64 x0_1, .int .i64 x0_2, .int .i64 x0_3, .int .i64 x0_4] 3) fun g_2 w_3 =>
  ∃ (I : Int → World → Prop) (μ : Int → World → Nat),
  I 0 w_3 ∧
  ∀ (x17 : Int) (w_4 : World), I x17 w_4 →
  br (decide (x17 < ((5 : Nat) : Int))) (
    (0 : Int) ≤ x17 ∧ x17 < (((5 : Nat) : Int) : Int) ∧
    ∃ (x20 : Int), w_4.cell? ⟨g_2, 0 + x17.toNat * 1, none⟩ = some (.int .i64 x20) ∧
    Calls Try.prog 121 #[.int .i64 x20] w_4 fun e w_5 => KeepG [g] w_4 w_5 ∧
    ∃ (b22 : Bool),
    e = .returned (.bool b22) ∧
    br (!b22) (
      K (.bool false) w_5
    ) (
      I (IntKind.i64.wrap (x17 + 1)) w_5 ∧ μ (IntKind.i64.wrap (x17 + 1)) w_5 < μ x17 w_4
    )
  ) (
    Calls Try.prog 121 #[.int .i64 (IntKind.i64.wrap (x0_0 + x0_1))] w_4 fun e_2 w_6 => KeepG [g] w_4 w_6 ∧
    ∃ (b30 : Bool),
    e_2 = .returned (.bool b30) ∧
    br b30 (
      Calls Try.prog 77 #[.agg #[.int .i64 x0_0, .int .i64 x0_1, .int .i64 x0_2, .int .i64 x0_3, .int .i64 x0_4]] w_6 fun e_3 w_7 => KeepG [g] w_6 w_7 ∧
      ∃ (x33 : Int),
      e_3 = .returned (.int .i64 x33) ∧
      K (.bool (decide (x33 ≥ 0))) w_7
    ) (
      K (.bool false) w_6
    )
  )
def fright_notes : Notes := ⟨[], [(2, ⟨[(17, .lf (.int .i64))], [], [18, 19, 20, 4, 21, 22, 23, 2, 24, 17], []⟩)], []⟩
theorem fright_calls (x0_0 : Int) (x0_1 : Int) (x0_2 : Int) (x0_3 : Int) (x0_4 : Int) (w : World) (K : Value → World → Prop) (h : fright_vc x0_0 x0_1 x0_2 x0_3 x0_4 w K) : Calls Try.prog 101 #[.agg #[.int .i64 x0_0, .int .i64 x0_1, .int .i64 x0_2, .int .i64 x0_3, .int .i64 x0_4]] w fun e w' => ∃ v, e = .returned v ∧ K v w' :=
  calls_of_fvc envOk Try.func101 fright_notes [1] [.agg #[.int .i64 x0_0, .int .i64 x0_1, .int .i64 x0_2, .int .i64 x0_3, .int .i64 x0_4]] w K (use_vc h (by as_aux_lemma => kernel_rfl))
/-- (purser/funds.Account).left -/
def fleft_vc (x0_0 : Int) (x0_1 : Int) (x0_2 : Int) (x0_3 : Int) (x0_4 : Int) (w : World) (K : Value → World → Prop) : Prop :=
  newO w (.cells #[.int .i64 x0_0, .int .i64 x0_1, .int .i64 x0_2, .int .i64 x0_3, .int .i64 x0_4] 44) fun g w_2 =>
  K (.int .i64 (IntKind.i64.wrap ((IntKind.i64.wrap ((IntKind.i64.wrap ((IntKind.i64.wrap (x0_0 + x0_1)) - x0_2)) - x0_3)) - x0_4))) w_2
def fleft_notes : Notes := ⟨[], [], []⟩
theorem fleft_calls (x0_0 : Int) (x0_1 : Int) (x0_2 : Int) (x0_3 : Int) (x0_4 : Int) (w : World) (K : Value → World → Prop) (h : fleft_vc x0_0 x0_1 x0_2 x0_3 x0_4 w K) : Calls Try.prog 77 #[.agg #[.int .i64 x0_0, .int .i64 x0_1, .int .i64 x0_2, .int .i64 x0_3, .int .i64 x0_4]] w fun e w' => ∃ v, e = .returned v ∧ K v w' :=
  calls_of_fvc envOk Try.func77 fleft_notes [1] [.agg #[.int .i64 x0_0, .int .i64 x0_1, .int .i64 x0_2, .int .i64 x0_3, .int .i64 x0_4]] w K (use_vc h (by as_aux_lemma => kernel_rfl))
/-- (purser/funds.Account).spend -/
def fspend_vc (x0_0 : Int) (x0_1 : Int) (x0_2 : Int) (x0_3 : Int) (x0_4 : Int) (x1 : Int) (w : World) (K : Value → World → Prop) : Prop :=
  newO w (.cells #[.int .i64 x0_0, .int .i64 x0_1, .int .i64 x0_2, .int .i64 x0_3, .int .i64 x0_4] 44) fun g w_2 =>
  br (decide (x1 = (-1))) (
    K (.int .i64 9007199254740992) w_2
  ) (
    K (.int .i64 (max (IntKind.i64.wrap ((IntKind.i64.wrap (x1 - x0_3)) - x0_4)) 0)) w_2
  )
def fspend_notes : Notes := ⟨[], [], []⟩
theorem fspend_calls (x0_0 : Int) (x0_1 : Int) (x0_2 : Int) (x0_3 : Int) (x0_4 : Int) (x1 : Int) (w : World) (K : Value → World → Prop) (h : fspend_vc x0_0 x0_1 x0_2 x0_3 x0_4 x1 w K) : Calls Try.prog 78 #[.agg #[.int .i64 x0_0, .int .i64 x0_1, .int .i64 x0_2, .int .i64 x0_3, .int .i64 x0_4], .int .i64 x1] w fun e w' => ∃ v, e = .returned v ∧ K v w' :=
  calls_of_fvc envOk Try.func78 fspend_notes [2] [.agg #[.int .i64 x0_0, .int .i64 x0_1, .int .i64 x0_2, .int .i64 x0_3, .int .i64 x0_4], .int .i64 x1] w K (use_vc h (by as_aux_lemma => kernel_rfl))
/-- (*purser/funds.Book).path -/
def fpath_vc (p0 : Option Addr) (a1 : Option Addr) (n1 : Nat) (c1 : Nat) (w : World) (K : Value → World → Prop) : Prop :=
  br (Option.isNone p0) (
    K (.bool false) w
  ) (
    br (decide (((n1 : Nat) : Int) < 1)) (
      K (.bool false) w
    ) (
      br (decide (((n1 : Nat) : Int) > 3)) (
        K (.bool false) w
      ) (
        ∃ (I : Int → World → Prop) (μ : Int → World → Nat),
        I 0 w ∧
        ∀ (x21 : Int) (w_2 : World), I x21 w_2 →
        br (decide (x21 < ((n1 : Nat) : Int))) (
          withP a1 fun g24 o24 =>
          (0 : Int) ≤ x21 ∧ x21 < (((n1 : Nat) : Int) : Int) ∧
          ∃ (x25 : Int), w_2.cell? ⟨g24, o24 + x21.toNat * 1, none⟩ = some (.int .i64 x25) ∧
          Calls Try.prog 81 #[.int .i64 x25] w_2 fun e w_3 => KeepG [] w_2 w_3 ∧
          ∃ (b27 : Bool),
          e = .returned (.bool b27) ∧
          br (!b27) (
            K (.bool false) w_3
          ) (
            (0 : Int) ≤ x21 ∧ x21 ≤ (((c1 : Nat) : Int) : Int) ∧
            Calls Try.prog 96 #[.slice a1 x21.toNat c1, .int .i64 x25] w_3 fun e_2 w_4 => KeepG [] w_3 w_4 ∧
            ∃ (b34 : Bool),
            e_2 = .returned (.bool b34) ∧
            br b34 (
              K (.bool false) w_4
            ) (
              I (IntKind.i64.wrap (x21 + 1)) w_4 ∧ μ (IntKind.i64.wrap (x21 + 1)) w_4 < μ x21 w_2
            )
          )
        ) (
          K (.bool true) w_2
        )
      )
    )
  )
def fpath_notes : Notes := ⟨[], [(4, ⟨[(21, .lf (.int .i64))], [], [22, 23, 24, 25, 5, 6, 26, 27, 28, 29, 30, 31, 32, 33, 34, 35, 4, 36, 21], []⟩)], []⟩
theorem fpath_calls (p0 : Option Addr) (a1 : Option Addr) (n1 : Nat) (c1 : Nat) (w : World) (K : Value → World → Prop) (h : fpath_vc p0 a1 n1 c1 w K) : Calls Try.prog 109 #[.pointer p0, .slice a1 n1 c1] w fun e w' => ∃ v, e = .returned v ∧ K v w' :=
  calls_of_fvc envOk Try.func109 fpath_notes [] [.pointer p0, .slice a1 n1 c1] w K (use_vc h (by as_aux_lemma => kernel_rfl))
/-- (*purser/funds.Book).limited -/
def flimited_vc (p0 : Option Addr) (a1 : Option Addr) (n1 : Nat) (c1 : Nat) (a2 : Option Addr) (n2 : Nat) (c2 : Nat) (w : World) (K : Value → World → Prop) : Prop :=
  Calls Try.prog 109 #[.pointer p0, .slice a1 n1 c1] w fun e w_2 => KeepG [] w w_2 ∧
  ∃ (b9 : Bool),
  e = .returned (.bool b9) ∧
  br (!b9) (
    K (.bool false) w_2
  ) (
    br (decide (((n2 : Nat) : Int) ≠ ((n1 : Nat) : Int))) (
      K (.bool false) w_2
    ) (
      Calls Try.prog 110 #[.slice a2 n2 c2, .func (.func 111) #[] #[]] w_2 fun e_2 w_3 => KeepG [] w_2 w_3 ∧
      ∃ (b19 : Bool),
      e_2 = .returned (.bool b19) ∧
      K (.bool (!b19)) w_3
    )
  )
def flimited_notes : Notes := ⟨[], [], []⟩
theorem flimited_calls (p0 : Option Addr) (a1 : Option Addr) (n1 : Nat) (c1 : Nat) (a2 : Option Addr) (n2 : Nat) (c2 : Nat) (w : World) (K : Value → World → Prop) (h : flimited_vc p0 a1 n1 c1 a2 n2 c2 w K) : Calls Try.prog 76 #[.pointer p0, .slice a1 n1 c1, .slice a2 n2 c2] w fun e w' => ∃ v, e = .returned v ∧ K v w' :=
  calls_of_fvc envOk Try.func76 flimited_notes [] [.pointer p0, .slice a1 n1 c1, .slice a2 n2 c2] w K (use_vc h (by as_aux_lemma => kernel_rfl))
/-- (*purser/funds.Book).limited$1 -/
def flim1_vc (x0 : Int) (w : World) (K : Value → World → Prop) : Prop :=
  br (decide (x0 < (-1))) (
    K (.bool true) w
  ) (
    K (.bool (decide (x0 > 9007199254740992))) w
  )
def flim1_notes : Notes := ⟨[], [], []⟩
theorem flim1_calls (x0 : Int) (w : World) (K : Value → World → Prop) (h : flim1_vc x0 w K) : Calls Try.prog 111 #[.int .i64 x0] w fun e w' => ∃ v, e = .returned v ∧ K v w' :=
  calls_of_fvc envOk Try.func111 flim1_notes [] [.int .i64 x0] w K (use_vc h (by as_aux_lemma => kernel_rfl))
/-- slices.ContainsFunc[[]int,int] -/
def fcf_vc (a0 : Option Addr) (n0 : Nat) (c0 : Nat) (w : World) (K : Value → World → Prop) : Prop :=
  Calls Try.prog 123 #[.slice a0 n0 c0, .func (.func 111) #[] #[]] w fun e w_2 => KeepG [] w w_2 ∧
  ∃ (x7 : Int),
  e = .returned (.int .i64 x7) ∧
  K (.bool (decide (x7 ≥ 0))) w_2
def fcf_notes : Notes := ⟨[], [], []⟩
theorem fcf_calls (a0 : Option Addr) (n0 : Nat) (c0 : Nat) (w : World) (K : Value → World → Prop) (h : fcf_vc a0 n0 c0 w K) : Calls Try.prog 110 #[.slice a0 n0 c0, .func (.func 111) #[] #[]] w fun e w' => ∃ v, e = .returned v ∧ K v w' :=
  calls_of_fvc envOk Try.func110 fcf_notes [] [.slice a0 n0 c0, .func (.func 111) #[] #[]] w K (use_vc h (by as_aux_lemma => kernel_rfl))
/-- slices.IndexFunc[[]int,int] -/
def fif_vc (a0 : Option Addr) (n0 : Nat) (c0 : Nat) (w : World) (K : Value → World → Prop) : Prop :=
  ∃ (I : Int → World → Prop) (μ : Int → World → Nat),
  I 0 w ∧
  ∀ (x8 : Int) (w_2 : World), I x8 w_2 →
  br (decide (x8 < ((n0 : Nat) : Int))) (
    withP a0 fun g14 o14 =>
    (0 : Int) ≤ x8 ∧ x8 < (((n0 : Nat) : Int) : Int) ∧
    ∃ (x15 : Int), w_2.cell? ⟨g14, o14 + x8.toNat * 1, none⟩ = some (.int .i64 x15) ∧
    Calls Try.prog 111 #[.int .i64 x15] w_2 fun e w_3 => KeepG [] w_2 w_3 ∧
    ∃ (b16 : Bool),
    e = .returned (.bool b16) ∧
    br b16 (
      K (.int .i64 x8) w_3
    ) (
      I (IntKind.i64.wrap (x8 + 1)) w_3 ∧ μ (IntKind.i64.wrap (x8 + 1)) w_3 < μ x8 w_2
    )
  ) (
    K (.int .i64 (-1)) w_2
  )
def fif_notes : Notes := ⟨[], [(2, ⟨[(8, .lf (.int .i64))], [], [9, 10, 5, 11, 12, 13, 14, 15, 16, 17, 4, 18, 8], []⟩)], []⟩
theorem fif_calls (a0 : Option Addr) (n0 : Nat) (c0 : Nat) (w : World) (K : Value → World → Prop) (h : fif_vc a0 n0 c0 w K) : Calls Try.prog 123 #[.slice a0 n0 c0, .func (.func 111) #[] #[]] w fun e w' => ∃ v, e = .returned v ∧ K v w' :=
  calls_of_fvc envOk Try.func123 fif_notes [] [.slice a0 n0 c0, .func (.func 111) #[] #[]] w K (use_vc h (by as_aux_lemma => kernel_rfl))
/-- (*purser/funds.Book).set -/
def fset_vc (p0 : Option Addr) (x1 : Int) (x2_0 : Int) (x2_1 : Int) (x2_2 : Int) (x2_3 : Int) (x2_4 : Int) (w : World) (K : Value → World → Prop) : Prop :=
  newO w (.cells #[.int .i64 x2_0, .int .i64 x2_1, .int .i64 x2_2, .int .i64 x2_3, .int .i64 x2_4] 44) fun g w_2 =>
  br ((decide (x2_0 = 0)) && ((decide (x2_1 = 0)) && ((decide (x2_2 = 0)) && ((decide (x2_3 = 0)) && ((decide (x2_4 = 0)) && true))))) (
    withP p0 fun g10 o10 =>
    ∃ (mb12 : Option Nat), w_2.cell? ⟨g10, o10, none⟩ = some (.map mb12) ∧
    ((mb12 = none ∧
      K (.tuple #[]) w_2
    ) ∨ (mapO w_2 mb12 (fun m => delM m x1) fun w_3 =>
      K (.tuple #[]) w_3
    ))
  ) (
    drewO w_2 fun w_4 =>
    withP p0 fun g15 o15 =>
    ∃ (mb17 : Option Nat), w_4.cell? ⟨g15, o15, none⟩ = some (.map mb17) ∧
    mapO w_4 mb17 (fun m => putM m x1 (.agg #[.int .i64 x2_0, .int .i64 x2_1, .int .i64 x2_2, .int .i64 x2_3, .int .i64 x2_4])) fun w_5 =>
    K (.tuple #[]) w_5
  )
def fset_notes : Notes := ⟨[(3, ⟨[0, 1, 3, 7, 0, 0, 63], [6], [0, 1, 2, 3, 4, 5]⟩)], [], []⟩
theorem fset_calls (p0 : Option Addr) (x1 : Int) (x2_0 : Int) (x2_1 : Int) (x2_2 : Int) (x2_3 : Int) (x2_4 : Int) (w : World) (K : Value → World → Prop) (h : fset_vc p0 x1 x2_0 x2_1 x2_2 x2_3 x2_4 w K) : Calls Try.prog 82 #[.pointer p0, .int .i64 x1, .agg #[.int .i64 x2_0, .int .i64 x2_1, .int .i64 x2_2, .int .i64 x2_3, .int .i64 x2_4]] w fun e w' => ∃ v, e = .returned v ∧ K v w' :=
  calls_of_fvc envOk Try.func82 fset_notes [5] [.pointer p0, .int .i64 x1, .agg #[.int .i64 x2_0, .int .i64 x2_1, .int .i64 x2_2, .int .i64 x2_3, .int .i64 x2_4]] w K (use_vc h (by as_aux_lemma => kernel_rfl))
/-- (*purser/funds.Book).Available -/
def favail_vc (p0 : Option Addr) (x1 : Int) (w : World) (K : Value → World → Prop) : Prop :=
  Calls Try.prog 21 #[.pointer p0, .int .i64 x1] w fun e w_2 => KeepG [] w w_2 ∧
  ∃ (x7_0 : Int) (x7_1 : Int) (x7_2 : Int) (x7_3 : Int) (x7_4 : Int),
  e = .returned (.agg #[.int .i64 x7_0, .int .i64 x7_1, .int .i64 x7_2, .int .i64 x7_3, .int .i64 x7_4]) ∧
  Calls Try.prog 77 #[.agg #[.int .i64 x7_0, .int .i64 x7_1, .int .i64 x7_2, .int .i64 x7_3, .int .i64 x7_4]] w_2 fun e_2 w_3 => KeepG [] w_2 w_3 ∧
  ∃ (x8 : Int),
  e_2 = .returned (.int .i64 x8) ∧
  K (.int .i64 x8) w_3
def favail_notes : Notes := ⟨[], [], []⟩
theorem favail_calls (p0 : Option Addr) (x1 : Int) (w : World) (K : Value → World → Prop) (h : favail_vc p0 x1 w K) : Calls Try.prog 22 #[.pointer p0, .int .i64 x1] w fun e w' => ∃ v, e = .returned v ∧ K v w' :=
  calls_of_fvc envOk Try.func22 favail_notes [] [.pointer p0, .int .i64 x1] w K (use_vc h (by as_aux_lemma => kernel_rfl))
/-- (*purser/funds.Book).Get -/
def fget_vc (p0 : Option Addr) (x1 : Int) (w : World) (K : Value → World → Prop) : Prop :=
  newO w (.cells #[.int .i64 0, .int .i64 0, .int .i64 0, .int .i64 0, .int .i64 0] 44) fun g w_2 =>
  br (Option.isNone p0) (
    ∀ w_3 : World, BoxSt g w_2 w_3 →
    K (.agg #[.int .i64 0, .int .i64 0, .int .i64 0, .int .i64 0, .int .i64 0]) w_3
  ) (
    withP p0 fun g9 o9 =>
    ∃ (mb11 : Option Nat), w_2.cell? ⟨g9, o9, none⟩ = some (.map mb11) ∧
    ∃ (x13_0 : Int) (x13_1 : Int) (x13_2 : Int) (x13_3 : Int) (x13_4 : Int),
    (∃ r, MLk w_2 mb11 x1 r ∧ r.getD (.agg #[.int .i64 0, .int .i64 0, .int .i64 0, .int .i64 0, .int .i64 0]) = (.agg #[.int .i64 x13_0, .int .i64 x13_1, .int .i64 x13_2, .int .i64 x13_3, .int .i64 x13_4])) ∧
    ∀ w_4 : World, BoxSt g w_2 w_4 →
    K (.agg #[.int .i64 x13_0, .int .i64 x13_1, .int .i64 x13_2, .int .i64 x13_3, .int .i64 x13_4]) w_4
  )
def fget_notes : Notes := ⟨[], [], []⟩
theorem fget_calls (p0 : Option Addr) (x1 : Int) (w : World) (K : Value → World → Prop) (h : fget_vc p0 x1 w K) : Calls Try.prog 21 #[.pointer p0, .int .i64 x1] w fun e w' => ∃ v, e = .returned v ∧ K v w' :=
  calls_of_fvc envOk Try.func21 fget_notes [4] [.pointer p0, .int .i64 x1] w K (use_vc h (by as_aux_lemma => kernel_rfl))
/-- (*purser/funds.Book).Set -/
def fseta_vc (p0 : Option Addr) (x1 : Int) (x2_0 : Int) (x2_1 : Int) (x2_2 : Int) (x2_3 : Int) (x2_4 : Int) (w : World) (K : Value → World → Prop) : Prop :=
  newO w (.cells #[.int .i64 x2_0, .int .i64 x2_1, .int .i64 x2_2, .int .i64 x2_3, .int .i64 x2_4] 44) fun g w_2 =>
  br (Option.isNone p0) (
    K (.int .i64 1) w_2
  ) (
    Calls Try.prog 81 #[.int .i64 x1] w_2 fun e w_3 => KeepG [g] w_2 w_3 ∧
    ∃ (b11 : Bool),
    e = .returned (.bool b11) ∧
    br (!b11) (
      K (.int .i64 1) w_3
    ) (
      Calls Try.prog 101 #[.agg #[.int .i64 x2_0, .int .i64 x2_1, .int .i64 x2_2, .int .i64 x2_3, .int .i64 x2_4]] w_3 fun e_2 w_4 => KeepG [g] w_3 w_4 ∧
      ∃ (b16 : Bool),
      e_2 = .returned (.bool b16) ∧
      br (!b16) (
        K (.int .i64 1) w_4
      ) (
        Calls Try.prog 82 #[.pointer p0, .int .i64 x1, .agg #[.int .i64 x2_0, .int .i64 x2_1, .int .i64 x2_2, .int .i64 x2_3, .int .i64 x2_4]] w_4 fun e_3 w_5 => KeepG [g] w_4 w_5 ∧
        e_3 = .returned (.tuple #[]) ∧
        K (.int .i64 0) w_5
      )
    )
  )
def fseta_notes : Notes := ⟨[], [], []⟩
theorem fseta_calls (p0 : Option Addr) (x1 : Int) (x2_0 : Int) (x2_1 : Int) (x2_2 : Int) (x2_3 : Int) (x2_4 : Int) (w : World) (K : Value → World → Prop) (h : fseta_vc p0 x1 x2_0 x2_1 x2_2 x2_3 x2_4 w K) : Calls Try.prog 60 #[.pointer p0, .int .i64 x1, .agg #[.int .i64 x2_0, .int .i64 x2_1, .int .i64 x2_2, .int .i64 x2_3, .int .i64 x2_4]] w fun e w' => ∃ v, e = .returned v ∧ K v w' :=
  calls_of_fvc envOk Try.func60 fseta_notes [5] [.pointer p0, .int .i64 x1, .agg #[.int .i64 x2_0, .int .i64 x2_1, .int .i64 x2_2, .int .i64 x2_3, .int .i64 x2_4]] w K (use_vc h (by as_aux_lemma => kernel_rfl))
/-- (*purser/funds.Book).Nodes -/
def fnodes_vc (p0 : Option Addr) (w : World) (K : Value → World → Prop) : Prop :=
  br (Option.isNone p0) (
    K (.slice none 0 0) w
  ) (
    withP p0 fun g6 o6 =>
    ∃ (mb8 : Option Nat), w.cell? ⟨g6, o6, none⟩ = some (.map mb8) ∧
    Calls Try.prog 102 #[.map mb8] w fun e w_2 => KeepG [] w w_2 ∧
    ∃ (v9 : Value),
    e = .returned (v9) ∧
    Calls Try.prog 87 #[v9] w_2 fun e_2 w_3 => KeepG [] w_2 w_3 ∧
    ∃ (a10 : Option Addr) (n10 : Nat) (c10 : Nat),
    e_2 = .returned (.slice a10 n10 c10) ∧
    K (.slice a10 n10 c10) w_3
  )
def fnodes_notes : Notes := ⟨[], [], []⟩
theorem fnodes_calls (p0 : Option Addr) (w : World) (K : Value → World → Prop) (h : fnodes_vc p0 w K) : Calls Try.prog 61 #[.pointer p0] w fun e w' => ∃ v, e = .returned v ∧ K v w' :=
  calls_of_fvc envOk Try.func61 fnodes_notes [] [.pointer p0] w K (use_vc h (by as_aux_lemma => kernel_rfl))
/-- (*purser/funds.Book).Room -/
def froom_vc (p0 : Option Addr) (a1 : Option Addr) (n1 : Nat) (c1 : Nat) (a2 : Option Addr) (n2 : Nat) (c2 : Nat) (w : World) (K : Value → World → Prop) : Prop :=
  Calls Try.prog 76 #[.pointer p0, .slice a1 n1 c1, .slice a2 n2 c2] w fun e w_2 => KeepG [] w w_2 ∧
  ∃ (b15 : Bool),
  e = .returned (.bool b15) ∧
  br (!b15) (
    K (.tuple #[.int .i64 0, .int .i64 1]) w_2
  ) (
    ∃ (I : Int → Int → World → Prop) (μ : Int → Int → World → Nat),
    I 9007199254740992 0 w_2 ∧
    ∀ (x8 : Int) (x19 : Int) (w_3 : World), I x8 x19 w_3 →
    br (decide (x19 < ((n1 : Nat) : Int))) (
      withP a1 fun g22 o22 =>
      (0 : Int) ≤ x19 ∧ x19 < (((n1 : Nat) : Int) : Int) ∧
      ∃ (x23 : Int), w_3.cell? ⟨g22, o22 + x19.toNat * 1, none⟩ = some (.int .i64 x23) ∧
      withP p0 fun g25 o25 =>
      ∃ (mb27 : Option Nat), w_3.cell? ⟨g25, o25, none⟩ = some (.map mb27) ∧
      ∃ (x29_0 : Int) (x29_1 : Int) (x29_2 : Int) (x29_3 : Int) (x29_4 : Int),
      (∃ r, MLk w_3 mb27 x23 r ∧ r.getD (.agg #[.int .i64 0, .int .i64 0, .int .i64 0, .int .i64 0, .int .i64 0]) = (.agg #[.int .i64 x29_0, .int .i64 x29_1, .int .i64 x29_2, .int .i64 x29_3, .int .i64 x29_4])) ∧
      newO w_3 (.cells #[.int .i64 0, .int .i64 0, .int .i64 0, .int .i64 0, .int .i64 0] 44) fun g w_4 =>
      ∀ w_5 : World, BoxSt g w_4 w_5 →
      drewO w_5 fun w_6 =>
      withP a2 fun g36 o36 =>
      (0 : Int) ≤ x19 ∧ x19 < (((n2 : Nat) : Int) : Int) ∧
      ∃ (x37 : Int), w_6.cell? ⟨g36, o36 + x19.toNat * 1, none⟩ = some (.int .i64 x37) ∧
      Calls Try.prog 77 #[.agg #[.int .i64 x29_0, .int .i64 x29_1, .int .i64 x29_2, .int .i64 x29_3, .int .i64 x29_4]] w_6 fun e_2 w_7 => KeepG [g] w_6 w_7 ∧
      ∃ (x32 : Int),
      e_2 = .returned (.int .i64 x32) ∧
      w_7.cell? ⟨g36, o36 + x19.toNat * 1, none⟩ = some (.int .i64 x37) ∧
      Calls Try.prog 78 #[.agg #[.int .i64 x29_0, .int .i64 x29_1, .int .i64 x29_2, .int .i64 x29_3, .int .i64 x29_4], .int .i64 x37] w_7 fun e_3 w_8 => KeepG [g] w_7 w_8 ∧
      ∃ (x38 : Int),
      e_3 = .returned (.int .i64 x38) ∧
      I (min (min x8 x32) x38) (IntKind.i64.wrap (x19 + 1)) w_8 ∧ μ (min (min x8 x32) x38) (IntKind.i64.wrap (x19 + 1)) w_8 < μ x8 x19 w_3
    ) (
      K (.tuple #[.int .i64 x8, .int .i64 0]) w_3
    )
  )
def froom_notes : Notes := ⟨[(8, ⟨[0, 0, 2, 0, 0, 0, 48, 112, 254, 511, 1023], [2, 8], [0, 1, 3, 4, 5, 6, 7, 9, 10]⟩)], [(5, ⟨[(8, .lf (.int .i64)), (19, .lf (.int .i64))], [], [20, 21, 22, 23, 9, 10, 24, 25, 26, 27, 28, 29, 11, 30, 31, 32, 33, 34, 35, 36, 37, 38, 39, 8, 40, 19], [11]⟩)], []⟩
theorem froom_calls (p0 : Option Addr) (a1 : Option Addr) (n1 : Nat) (c1 : Nat) (a2 : Option Addr) (n2 : Nat) (c2 : Nat) (w : World) (K : Value → World → Prop) (h : froom_vc p0 a1 n1 c1 a2 n2 c2 w K) : Calls Try.prog 18 #[.pointer p0, .slice a1 n1 c1, .slice a2 n2 c2] w fun e w' => ∃ v, e = .returned v ∧ K v w' :=
  calls_of_fvc envOk Try.func18 froom_notes [11] [.pointer p0, .slice a1 n1 c1, .slice a2 n2 c2] w K (use_vc h (by as_aux_lemma => kernel_rfl))
/-- (*purser/funds.Book).TopUp -/
def ftop_vc (p0 : Option Addr) (x1 : Int) (x2 : Int) (w : World) (K : Value → World → Prop) : Prop :=
  br (Option.isNone p0) (
    K (.int .i64 1) w
  ) (
    Calls Try.prog 81 #[.int .i64 x1] w fun e w_2 => KeepG [] w w_2 ∧
    ∃ (b12 : Bool),
    e = .returned (.bool b12) ∧
    br (!b12) (
      K (.int .i64 1) w_2
    ) (
      Calls Try.prog 79 #[.int .i64 x2] w_2 fun e_2 w_3 => KeepG [] w_2 w_3 ∧
      ∃ (b17 : Bool),
      e_2 = .returned (.bool b17) ∧
      br (!b17) (
        K (.int .i64 1) w_3
      ) (
        withP p0 fun g21 o21 =>
        ∃ (mb23 : Option Nat), w_3.cell? ⟨g21, o21, none⟩ = some (.map mb23) ∧
        ∃ (x25_0 : Int) (x25_1 : Int) (x25_2 : Int) (x25_3 : Int) (x25_4 : Int),
        (∃ r, MLk w_3 mb23 x1 r ∧ r.getD (.agg #[.int .i64 0, .int .i64 0, .int .i64 0, .int .i64 0, .int .i64 0]) = (.agg #[.int .i64 x25_0, .int .i64 x25_1, .int .i64 x25_2, .int .i64 x25_3, .int .i64 x25_4])) ∧
        newO w_3 (.cells #[.int .i64 0, .int .i64 0, .int .i64 0, .int .i64 0, .int .i64 0] 44) fun g w_4 =>
        ∀ w_5 : World, BoxSt g w_4 w_5 →
        br (decide ((IntKind.i64.wrap (x25_0 + x25_1)) > (IntKind.i64.wrap (9007199254740992 - x2)))) (
          K (.int .i64 6) w_5
        ) (
          ∀ w_6 : World, BoxSt g w_5 w_6 →
          Calls Try.prog 82 #[.pointer p0, .int .i64 x1, .agg #[.int .i64 (IntKind.i64.wrap (x25_0 + x2)), .int .i64 x25_1, .int .i64 x25_2, .int .i64 x25_3, .int .i64 x25_4]] w_6 fun e_3 w_7 => KeepG [g] w_6 w_7 ∧
          e_3 = .returned (.tuple #[]) ∧
          K (.int .i64 0) w_7
        )
      )
    )
  )
def ftop_notes : Notes := ⟨[], [], []⟩
theorem ftop_calls (p0 : Option Addr) (x1 : Int) (x2 : Int) (w : World) (K : Value → World → Prop) (h : ftop_vc p0 x1 x2 w K) : Calls Try.prog 62 #[.pointer p0, .int .i64 x1, .int .i64 x2] w fun e w' => ∃ v, e = .returned v ∧ K v w' :=
  calls_of_fvc envOk Try.func62 ftop_notes [7] [.pointer p0, .int .i64 x1, .int .i64 x2] w K (use_vc h (by as_aux_lemma => kernel_rfl))
/-- (*purser/funds.Book).Hold -/
def fhold_vc (p0 : Option Addr) (a1 : Option Addr) (n1 : Nat) (c1 : Nat) (a2 : Option Addr) (n2 : Nat) (c2 : Nat) (x3 : Int) (w : World) (K : Value → World → Prop) : Prop :=
  Calls Try.prog 76 #[.pointer p0, .slice a1 n1 c1, .slice a2 n2 c2] w fun e w_2 => KeepG [] w w_2 ∧
  ∃ (b15 : Bool),
  e = .returned (.bool b15) ∧
  br (!b15) (
    K (.int .i64 1) w_2
  ) (
    Calls Try.prog 79 #[.int .i64 x3] w_2 fun e_2 w_3 => KeepG [] w_2 w_3 ∧
    ∃ (b19 : Bool),
    e_2 = .returned (.bool b19) ∧
    br (!b19) (
      K (.int .i64 1) w_3
    ) (
      ∃ (I : Int → World → Prop) (μ : Int → World → Nat),
      I 0 w_3 ∧
      ∀ (x24 : Int) (w_4 : World), I x24 w_4 →
      br (decide (x24 < ((n1 : Nat) : Int))) (
        withP a1 fun g27 o27 =>
        (0 : Int) ≤ x24 ∧ x24 < (((n1 : Nat) : Int) : Int) ∧
        ∃ (x28 : Int), w_4.cell? ⟨g27, o27 + x24.toNat * 1, none⟩ = some (.int .i64 x28) ∧
        withP p0 fun g30 o30 =>
        ∃ (mb32 : Option Nat), w_4.cell? ⟨g30, o30, none⟩ = some (.map mb32) ∧
        ∃ (x34_0 : Int) (x34_1 : Int) (x34_2 : Int) (x34_3 : Int) (x34_4 : Int),
        (∃ r, MLk w_4 mb32 x28 r ∧ r.getD (.agg #[.int .i64 0, .int .i64 0, .int .i64 0, .int .i64 0, .int .i64 0]) = (.agg #[.int .i64 x34_0, .int .i64 x34_1, .int .i64 x34_2, .int .i64 x34_3, .int .i64 x34_4])) ∧
        newO w_4 (.cells #[.int .i64 0, .int .i64 0, .int .i64 0, .int .i64 0, .int .i64 0] 44) fun g w_5 =>
        ∀ w_6 : World, BoxSt g w_5 w_6 →
        Calls Try.prog 77 #[.agg #[.int .i64 x34_0, .int .i64 x34_1, .int .i64 x34_2, .int .i64 x34_3, .int .i64 x34_4]] w_6 fun e_3 w_7 => KeepG [g] w_6 w_7 ∧
        ∃ (x37 : Int),
        e_3 = .returned (.int .i64 x37) ∧
        br (decide (x37 < x3)) (
          K (.int .i64 9) w_7
        ) (
          drewO w_7 fun w_8 =>
          withP a2 fun g43 o43 =>
          (0 : Int) ≤ x24 ∧ x24 < (((n2 : Nat) : Int) : Int) ∧
          ∃ (x44 : Int), w_8.cell? ⟨g43, o43 + x24.toNat * 1, none⟩ = some (.int .i64 x44) ∧
          br (decide (x44 ≠ (-1))) (
            withP a2 fun g56 o56 =>
            (0 : Int) ≤ x24 ∧ x24 < (((n2 : Nat) : Int) : Int) ∧
            ∃ (x57 : Int), w_8.cell? ⟨g56, o56 + x24.toNat * 1, none⟩ = some (.int .i64 x57) ∧
            br (decide ((IntKind.i64.wrap ((IntKind.i64.wrap (x34_3 + x34_4)) + x3)) > x57)) (
              K (.int .i64 18) w_8
            ) (
              I (IntKind.i64.wrap (x24 + 1)) w_8 ∧ μ (IntKind.i64.wrap (x24 + 1)) w_8 < μ x24 w_4
            )
          ) (
            I (IntKind.i64.wrap (x24 + 1)) w_8 ∧ μ (IntKind.i64.wrap (x24 + 1)) w_8 < μ x24 w_4
          )
        )
      ) (
        Calls Try.prog 80 #[.pointer p0, .slice a1 n1 c1, .agg #[.int .i64 0, .int .i64 0, .int .i64 0, .int .i64 0, .int .i64 x3]] w_4 fun e_4 w_10 => KeepG [] w_4 w_10 ∧
        e_4 = .returned (.tuple #[]) ∧
        K (.int .i64 0) w_10
      )
    )
  )
def fhold_notes : Notes := ⟨[(9, ⟨[0, 0, 3, 7, 15, 31, 63, 127, 63, 319, 1023, 63, 4095, 63, 63, 24639, 57407, 131071, 262143, 524287], [], [0, 1, 2, 3, 4, 5, 6, 7, 8, 9, 10, 11, 12, 13, 14, 15, 16, 17, 18, 19]⟩)], [(4, ⟨[(24, .lf (.int .i64))], [], [25, 26, 27, 28, 9, 10, 29, 30, 31, 32, 33, 34, 11, 36, 37, 38, 39, 35, 8, 41, 42, 43, 44, 45, 46, 47, 48, 49, 50, 51, 52, 53, 54, 55, 56, 57, 58, 59, 40, 60, 24], [11]⟩)], []⟩
theorem fhold_calls (p0 : Option Addr) (a1 : Option Addr) (n1 : Nat) (c1 : Nat) (a2 : Option Addr) (n2 : Nat) (c2 : Nat) (x3 : Int) (w : World) (K : Value → World → Prop) (h : fhold_vc p0 a1 n1 c1 a2 n2 c2 x3 w K) : Calls Try.prog 20 #[.pointer p0, .slice a1 n1 c1, .slice a2 n2 c2, .int .i64 x3] w fun e w' => ∃ v, e = .returned v ∧ K v w' :=
  calls_of_fvc envOk Try.func20 fhold_notes [11] [.pointer p0, .slice a1 n1 c1, .slice a2 n2 c2, .int .i64 x3] w K (use_vc h (by as_aux_lemma => kernel_rfl))
/-- (*purser/funds.Book).move -/
def fmove_vc (p0 : Option Addr) (a1 : Option Addr) (n1 : Nat) (c1 : Nat) (x2_0 : Int) (x2_1 : Int) (x2_2 : Int) (x2_3 : Int) (x2_4 : Int) (w : World) (K : Value → World → Prop) : Prop :=
  newO w (.cells #[.int .i64 x2_0, .int .i64 x2_1, .int .i64 x2_2, .int .i64 x2_3, .int .i64 x2_4] 44) fun g w_2 =>
  ∃ (I : Int → World → Prop) (μ : Int → World → Nat),
  I 0 w_2 ∧
  ∀ (x11 : Int) (w_3 : World), I x11 w_3 →
  br (decide (x11 < ((n1 : Nat) : Int))) (
    withP a1 fun g13 o13 =>
    (0 : Int) ≤ x11 ∧ x11 < (((n1 : Nat) : Int) : Int) ∧
    ∃ (x14 : Int), w_3.cell? ⟨g13, o13 + x11.toNat * 1, none⟩ = some (.int .i64 x14) ∧
    withP p0 fun g16 o16 =>
    ∃ (mb18 : Option Nat), w_3.cell? ⟨g16, o16, none⟩ = some (.map mb18) ∧
    ∃ (x20_0 : Int) (x20_1 : Int) (x20_2 : Int) (x20_3 : Int) (x20_4 : Int),
    (∃ r, MLk w_3 mb18 x14 r ∧ r.getD (.agg #[.int .i64 0, .int .i64 0, .int .i64 0, .int .i64 0, .int .i64 0]) = (.agg #[.int .i64 x20_0, .int .i64 x20_1, .int .i64 x20_2, .int .i64 x20_3, .int .i64 x20_4])) ∧
    newO w_3 (.cells #[.int .i64 0, .int .i64 0, .int .i64 0, .int .i64 0, .int .i64 0] 44) fun g_2 w_4 =>
    ∀ w_5 : World, BoxSt g_2 w_4 w_5 →
    ∀ w_6 : World, BoxSt g_2 w_5 w_6 →
    ∀ w_7 : World, BoxSt g_2 w_6 w_7 →
    Calls Try.prog 82 #[.pointer p0, .int .i64 x14, .agg #[.int .i64 x20_0, .int .i64 x20_1, .int .i64 x20_2, .int .i64 (IntKind.i64.wrap (x20_3 + x2_3)), .int .i64 (IntKind.i64.wrap (x20_4 + x2_4))]] w_7 fun e w_8 => KeepG [g_2, g] w_7 w_8 ∧
    e = .returned (.tuple #[]) ∧
    I (IntKind.i64.wrap (x11 + 1)) w_8 ∧ μ (IntKind.i64.wrap (x11 + 1)) w_8 < μ x11 w_3
  ) (
    K (.tuple #[]) w_3
  )
def fmove_notes : Notes := ⟨[], [(2, ⟨[(11, .lf (.int .i64))], [], [12, 13, 14, 7, 15, 16, 17, 18, 19, 20, 8, 21, 22, 23, 24, 25, 26, 27, 28, 29, 30, 31, 32, 33, 34, 35, 36, 37, 11], [8]⟩)], []⟩
theorem fmove_calls (p0 : Option Addr) (a1 : Option Addr) (n1 : Nat) (c1 : Nat) (x2_0 : Int) (x2_1 : Int) (x2_2 : Int) (x2_3 : Int) (x2_4 : Int) (w : World) (K : Value → World → Prop) (h : fmove_vc p0 a1 n1 c1 x2_0 x2_1 x2_2 x2_3 x2_4 w K) : Calls Try.prog 80 #[.pointer p0, .slice a1 n1 c1, .agg #[.int .i64 x2_0, .int .i64 x2_1, .int .i64 x2_2, .int .i64 x2_3, .int .i64 x2_4]] w fun e w' => ∃ v, e = .returned v ∧ K v w' :=
  calls_of_fvc envOk Try.func80 fmove_notes [5, 8] [.pointer p0, .slice a1 n1 c1, .agg #[.int .i64 x2_0, .int .i64 x2_1, .int .i64 x2_2, .int .i64 x2_3, .int .i64 x2_4]] w K (use_vc h (by as_aux_lemma => kernel_rfl))
/-- (*purser/funds.Book).away -/
def fawayh_vc (p0 : Option Addr) (a1 : Option Addr) (n1 : Nat) (c1 : Nat) (x2 : Int) (x4_0 : Int) (x4_1 : Int) (x4_2 : Int) (x4_3 : Int) (x4_4 : Int) (w : World) (K : Value → World → Prop) : Prop :=
  newO w (.cells #[.int .i64 x4_0, .int .i64 x4_1, .int .i64 x4_2, .int .i64 x4_3, .int .i64 x4_4] 44) fun g w_2 =>
  Calls Try.prog 109 #[.pointer p0, .slice a1 n1 c1] w_2 fun e w_3 => KeepG [g] w_2 w_3 ∧
  ∃ (b15 : Bool),
  e = .returned (.bool b15) ∧
  br (!b15) (
    K (.int .i64 1) w_3
  ) (
    Calls Try.prog 79 #[.int .i64 x2] w_3 fun e_2 w_4 => KeepG [g] w_3 w_4 ∧
    ∃ (b19 : Bool),
    e_2 = .returned (.bool b19) ∧
    br (!b19) (
      K (.int .i64 1) w_4
    ) (
      ∃ (I : Int → World → Prop) (μ : Int → World → Nat),
      I 0 w_4 ∧
      ∀ (x24 : Int) (w_5 : World), I x24 w_5 →
      br (decide (x24 < ((n1 : Nat) : Int))) (
        withP a1 fun g26 o26 =>
        (0 : Int) ≤ x24 ∧ x24 < (((n1 : Nat) : Int) : Int) ∧
        ∃ (x27 : Int), w_5.cell? ⟨g26, o26 + x24.toNat * 1, none⟩ = some (.int .i64 x27) ∧
        withP p0 fun g30 o30 =>
        ∃ (mb32 : Option Nat), w_5.cell? ⟨g30, o30, none⟩ = some (.map mb32) ∧
        ∃ (x34_0 : Int) (x34_1 : Int) (x34_2 : Int) (x34_3 : Int) (x34_4 : Int),
        (∃ r, MLk w_5 mb32 x27 r ∧ r.getD (.agg #[.int .i64 0, .int .i64 0, .int .i64 0, .int .i64 0, .int .i64 0]) = (.agg #[.int .i64 x34_0, .int .i64 x34_1, .int .i64 x34_2, .int .i64 x34_3, .int .i64 x34_4])) ∧
        Calls Try.prog 104 #[.agg #[.int .i64 x34_0, .int .i64 x34_1, .int .i64 x34_2, .int .i64 x34_3, .int .i64 x34_4]] w_5 fun e_3 w_6 => KeepG [g] w_5 w_6 ∧
        ∃ (x35 : Int),
        e_3 = .returned (.int .i64 x35) ∧
        br (decide (x35 < x2)) (
          K (.int .i64 20) w_6
        ) (
          I (IntKind.i64.wrap (x24 + 1)) w_6 ∧ μ (IntKind.i64.wrap (x24 + 1)) w_6 < μ x24 w_5
        )
      ) (
        Calls Try.prog 80 #[.pointer p0, .slice a1 n1 c1, .agg #[.int .i64 x4_0, .int .i64 x4_1, .int .i64 x4_2, .int .i64 x4_3, .int .i64 x4_4]] w_5 fun e_4 w_7 => KeepG [g] w_5 w_7 ∧
        e_4 = .returned (.tuple #[]) ∧
        K (.int .i64 0) w_7
      )
    )
  )
def fawayh_notes : Notes := ⟨[], [(4, ⟨[(24, .lf (.int .i64))], [], [25, 26, 27, 12, 28, 29, 30, 31, 32, 33, 34, 35, 36, 37, 10, 38, 24], []⟩)], []⟩
theorem fawayh_calls (p0 : Option Addr) (a1 : Option Addr) (n1 : Nat) (c1 : Nat) (x2 : Int) (x4_0 : Int) (x4_1 : Int) (x4_2 : Int) (x4_3 : Int) (x4_4 : Int) (w : World) (K : Value → World → Prop) (h : fawayh_vc p0 a1 n1 c1 x2 x4_0 x4_1 x4_2 x4_3 x4_4 w K) : Calls Try.prog 103 #[.pointer p0, .slice a1 n1 c1, .int .i64 x2, .func (.func 104) #[] #[], .agg #[.int .i64 x4_0, .int .i64 x4_1, .int .i64 x4_2, .int .i64 x4_3, .int .i64 x4_4]] w fun e w' => ∃ v, e = .returned v ∧ K v w' :=
  calls_of_fvc envOk Try.func103 fawayh_notes [9] [.pointer p0, .slice a1 n1 c1, .int .i64 x2, .func (.func 104) #[] #[], .agg #[.int .i64 x4_0, .int .i64 x4_1, .int .i64 x4_2, .int .i64 x4_3, .int .i64 x4_4]] w K (use_vc h (by as_aux_lemma => kernel_rfl))
/-- (*purser/funds.Book).away -/
def fawayu_vc (p0 : Option Addr) (a1 : Option Addr) (n1 : Nat) (c1 : Nat) (x2 : Int) (x4_0 : Int) (x4_1 : Int) (x4_2 : Int) (x4_3 : Int) (x4_4 : Int) (w : World) (K : Value → World → Prop) : Prop :=
  newO w (.cells #[.int .i64 x4_0, .int .i64 x4_1, .int .i64 x4_2, .int .i64 x4_3, .int .i64 x4_4] 44) fun g w_2 =>
  Calls Try.prog 109 #[.pointer p0, .slice a1 n1 c1] w_2 fun e w_3 => KeepG [g] w_2 w_3 ∧
  ∃ (b15 : Bool),
  e = .returned (.bool b15) ∧
  br (!b15) (
    K (.int .i64 1) w_3
  ) (
    Calls Try.prog 79 #[.int .i64 x2] w_3 fun e_2 w_4 => KeepG [g] w_3 w_4 ∧
    ∃ (b19 : Bool),
    e_2 = .returned (.bool b19) ∧
    br (!b19) (
      K (.int .i64 1) w_4
    ) (
      ∃ (I : Int → World → Prop) (μ : Int → World → Nat),
      I 0 w_4 ∧
      ∀ (x24 : Int) (w_5 : World), I x24 w_5 →
      br (decide (x24 < ((n1 : Nat) : Int))) (
        withP a1 fun g26 o26 =>
        (0 : Int) ≤ x24 ∧ x24 < (((n1 : Nat) : Int) : Int) ∧
        ∃ (x27 : Int), w_5.cell? ⟨g26, o26 + x24.toNat * 1, none⟩ = some (.int .i64 x27) ∧
        withP p0 fun g30 o30 =>
        ∃ (mb32 : Option Nat), w_5.cell? ⟨g30, o30, none⟩ = some (.map mb32) ∧
        ∃ (x34_0 : Int) (x34_1 : Int) (x34_2 : Int) (x34_3 : Int) (x34_4 : Int),
        (∃ r, MLk w_5 mb32 x27 r ∧ r.getD (.agg #[.int .i64 0, .int .i64 0, .int .i64 0, .int .i64 0, .int .i64 0]) = (.agg #[.int .i64 x34_0, .int .i64 x34_1, .int .i64 x34_2, .int .i64 x34_3, .int .i64 x34_4])) ∧
        Calls Try.prog 105 #[.agg #[.int .i64 x34_0, .int .i64 x34_1, .int .i64 x34_2, .int .i64 x34_3, .int .i64 x34_4]] w_5 fun e_3 w_6 => KeepG [g] w_5 w_6 ∧
        ∃ (x35 : Int),
        e_3 = .returned (.int .i64 x35) ∧
        br (decide (x35 < x2)) (
          K (.int .i64 20) w_6
        ) (
          I (IntKind.i64.wrap (x24 + 1)) w_6 ∧ μ (IntKind.i64.wrap (x24 + 1)) w_6 < μ x24 w_5
        )
      ) (
        Calls Try.prog 80 #[.pointer p0, .slice a1 n1 c1, .agg #[.int .i64 x4_0, .int .i64 x4_1, .int .i64 x4_2, .int .i64 x4_3, .int .i64 x4_4]] w_5 fun e_4 w_7 => KeepG [g] w_5 w_7 ∧
        e_4 = .returned (.tuple #[]) ∧
        K (.int .i64 0) w_7
      )
    )
  )
def fawayu_notes : Notes := ⟨[], [(4, ⟨[(24, .lf (.int .i64))], [], [25, 26, 27, 12, 28, 29, 30, 31, 32, 33, 34, 35, 36, 37, 10, 38, 24], []⟩)], []⟩
theorem fawayu_calls (p0 : Option Addr) (a1 : Option Addr) (n1 : Nat) (c1 : Nat) (x2 : Int) (x4_0 : Int) (x4_1 : Int) (x4_2 : Int) (x4_3 : Int) (x4_4 : Int) (w : World) (K : Value → World → Prop) (h : fawayu_vc p0 a1 n1 c1 x2 x4_0 x4_1 x4_2 x4_3 x4_4 w K) : Calls Try.prog 103 #[.pointer p0, .slice a1 n1 c1, .int .i64 x2, .func (.func 105) #[] #[], .agg #[.int .i64 x4_0, .int .i64 x4_1, .int .i64 x4_2, .int .i64 x4_3, .int .i64 x4_4]] w fun e w' => ∃ v, e = .returned v ∧ K v w' :=
  calls_of_fvc envOk Try.func103 fawayu_notes [9] [.pointer p0, .slice a1 n1 c1, .int .i64 x2, .func (.func 105) #[] #[], .agg #[.int .i64 x4_0, .int .i64 x4_1, .int .i64 x4_2, .int .i64 x4_3, .int .i64 x4_4]] w K (use_vc h (by as_aux_lemma => kernel_rfl))
/-- purser/funds.held -/
def fheld_vc (x0_0 : Int) (x0_1 : Int) (x0_2 : Int) (x0_3 : Int) (x0_4 : Int) (w : World) (K : Value → World → Prop) : Prop :=
  newO w (.cells #[.int .i64 x0_0, .int .i64 x0_1, .int .i64 x0_2, .int .i64 x0_3, .int .i64 x0_4] 44) fun g w_2 =>
  K (.int .i64 x0_4) w_2
def fheld_notes : Notes := ⟨[], [], []⟩
theorem fheld_calls (x0_0 : Int) (x0_1 : Int) (x0_2 : Int) (x0_3 : Int) (x0_4 : Int) (w : World) (K : Value → World → Prop) (h : fheld_vc x0_0 x0_1 x0_2 x0_3 x0_4 w K) : Calls Try.prog 104 #[.agg #[.int .i64 x0_0, .int .i64 x0_1, .int .i64 x0_2, .int .i64 x0_3, .int .i64 x0_4]] w fun e w' => ∃ v, e = .returned v ∧ K v w' :=
  calls_of_fvc envOk Try.func104 fheld_notes [1] [.agg #[.int .i64 x0_0, .int .i64 x0_1, .int .i64 x0_2, .int .i64 x0_3, .int .i64 x0_4]] w K (use_vc h (by as_aux_lemma => kernel_rfl))
/-- purser/funds.used -/
def fused_vc (x0_0 : Int) (x0_1 : Int) (x0_2 : Int) (x0_3 : Int) (x0_4 : Int) (w : World) (K : Value → World → Prop) : Prop :=
  newO w (.cells #[.int .i64 x0_0, .int .i64 x0_1, .int .i64 x0_2, .int .i64 x0_3, .int .i64 x0_4] 44) fun g w_2 =>
  K (.int .i64 x0_3) w_2
def fused_notes : Notes := ⟨[], [], []⟩
theorem fused_calls (x0_0 : Int) (x0_1 : Int) (x0_2 : Int) (x0_3 : Int) (x0_4 : Int) (w : World) (K : Value → World → Prop) (h : fused_vc x0_0 x0_1 x0_2 x0_3 x0_4 w K) : Calls Try.prog 105 #[.agg #[.int .i64 x0_0, .int .i64 x0_1, .int .i64 x0_2, .int .i64 x0_3, .int .i64 x0_4]] w fun e w' => ∃ v, e = .returned v ∧ K v w' :=
  calls_of_fvc envOk Try.func105 fused_notes [1] [.agg #[.int .i64 x0_0, .int .i64 x0_1, .int .i64 x0_2, .int .i64 x0_3, .int .i64 x0_4]] w K (use_vc h (by as_aux_lemma => kernel_rfl))
/-- (*purser/funds.Book).Release -/
def frel_vc (p0 : Option Addr) (a1 : Option Addr) (n1 : Nat) (c1 : Nat) (x2 : Int) (w : World) (K : Value → World → Prop) : Prop :=
  Calls Try.prog 103 #[.pointer p0, .slice a1 n1 c1, .int .i64 x2, .func (.func 104) #[] #[], .agg #[.int .i64 0, .int .i64 0, .int .i64 0, .int .i64 0, .int .i64 (IntKind.i64.wrap (0 - x2))]] w fun e w_2 => KeepG [] w w_2 ∧
  ∃ (x13 : Int),
  e = .returned (.int .i64 x13) ∧
  K (.int .i64 x13) w_2
def frel_notes : Notes := ⟨[], [], []⟩
theorem frel_calls (p0 : Option Addr) (a1 : Option Addr) (n1 : Nat) (c1 : Nat) (x2 : Int) (w : World) (K : Value → World → Prop) (h : frel_vc p0 a1 n1 c1 x2 w K) : Calls Try.prog 63 #[.pointer p0, .slice a1 n1 c1, .int .i64 x2] w fun e w' => ∃ v, e = .returned v ∧ K v w' :=
  calls_of_fvc envOk Try.func63 frel_notes [] [.pointer p0, .slice a1 n1 c1, .int .i64 x2] w K (use_vc h (by as_aux_lemma => kernel_rfl))
/-- (*purser/funds.Book).Commit -/
def fcom_vc (p0 : Option Addr) (a1 : Option Addr) (n1 : Nat) (c1 : Nat) (x2 : Int) (w : World) (K : Value → World → Prop) : Prop :=
  Calls Try.prog 103 #[.pointer p0, .slice a1 n1 c1, .int .i64 x2, .func (.func 104) #[] #[], .agg #[.int .i64 0, .int .i64 0, .int .i64 0, .int .i64 x2, .int .i64 (IntKind.i64.wrap (0 - x2))]] w fun e w_2 => KeepG [] w w_2 ∧
  ∃ (x14 : Int),
  e = .returned (.int .i64 x14) ∧
  K (.int .i64 x14) w_2
def fcom_notes : Notes := ⟨[], [], []⟩
theorem fcom_calls (p0 : Option Addr) (a1 : Option Addr) (n1 : Nat) (c1 : Nat) (x2 : Int) (w : World) (K : Value → World → Prop) (h : fcom_vc p0 a1 n1 c1 x2 w K) : Calls Try.prog 64 #[.pointer p0, .slice a1 n1 c1, .int .i64 x2] w fun e w' => ∃ v, e = .returned v ∧ K v w' :=
  calls_of_fvc envOk Try.func64 fcom_notes [] [.pointer p0, .slice a1 n1 c1, .int .i64 x2] w K (use_vc h (by as_aux_lemma => kernel_rfl))
/-- (*purser/funds.Book).Refund -/
def fref_vc (p0 : Option Addr) (a1 : Option Addr) (n1 : Nat) (c1 : Nat) (x2 : Int) (w : World) (K : Value → World → Prop) : Prop :=
  Calls Try.prog 103 #[.pointer p0, .slice a1 n1 c1, .int .i64 x2, .func (.func 105) #[] #[], .agg #[.int .i64 0, .int .i64 0, .int .i64 0, .int .i64 (IntKind.i64.wrap (0 - x2)), .int .i64 0]] w fun e w_2 => KeepG [] w w_2 ∧
  ∃ (x13 : Int),
  e = .returned (.int .i64 x13) ∧
  K (.int .i64 x13) w_2
def fref_notes : Notes := ⟨[], [], []⟩
theorem fref_calls (p0 : Option Addr) (a1 : Option Addr) (n1 : Nat) (c1 : Nat) (x2 : Int) (w : World) (K : Value → World → Prop) (h : fref_vc p0 a1 n1 c1 x2 w K) : Calls Try.prog 65 #[.pointer p0, .slice a1 n1 c1, .int .i64 x2] w fun e w' => ∃ v, e = .returned v ∧ K v w' :=
  calls_of_fvc envOk Try.func65 fref_notes [] [.pointer p0, .slice a1 n1 c1, .int .i64 x2] w K (use_vc h (by as_aux_lemma => kernel_rfl))
/-- (*purser/funds.Book).Roll -/
def froll_k1 (K : Value → World → Prop) (p0 : Option Addr) (x1 : Int) (x22_0 : Int) (x22_1 : Int) (x22_2 : Int) (x22_3 : Int) (x22_4 : Int) (g : Nat) (x9 : Int) (w_6 : World) : Prop :=
  drewO w_6 fun w_7 =>
  Calls Try.prog 77 #[.agg #[.int .i64 x22_0, .int .i64 x22_1, .int .i64 x22_2, .int .i64 x22_3, .int .i64 x22_4]] w_7 fun e_3 w_8 => KeepG [g] w_7 w_8 ∧
  ∃ (x30 : Int),
  e_3 = .returned (.int .i64 x30) ∧
  Calls Try.prog 82 #[.pointer p0, .int .i64 x1, .agg #[.int .i64 0, .int .i64 (IntKind.i64.wrap ((IntKind.i64.wrap (x30 + x22_4)) - x9)), .int .i64 0, .int .i64 0, .int .i64 x22_4]] w_8 fun e_4 w_9 => KeepG [g] w_8 w_9 ∧
  e_4 = .returned (.tuple #[]) ∧
  K (.tuple #[.int .i64 x9, .int .i64 0]) w_9
def froll_vc (p0 : Option Addr) (x1 : Int) (b2 : Bool) (w : World) (K : Value → World → Prop) : Prop :=
  br (Option.isNone p0) (
    K (.tuple #[.int .i64 0, .int .i64 1]) w
  ) (
    Calls Try.prog 81 #[.int .i64 x1] w fun e w_2 => KeepG [] w w_2 ∧
    ∃ (b14 : Bool),
    e = .returned (.bool b14) ∧
    br (!b14) (
      K (.tuple #[.int .i64 0, .int .i64 1]) w_2
    ) (
      withP p0 fun g18 o18 =>
      ∃ (mb20 : Option Nat), w_2.cell? ⟨g18, o18, none⟩ = some (.map mb20) ∧
      ∃ (x22_0 : Int) (x22_1 : Int) (x22_2 : Int) (x22_3 : Int) (x22_4 : Int),
      (∃ r, MLk w_2 mb20 x1 r ∧ r.getD (.agg #[.int .i64 0, .int .i64 0, .int .i64 0, .int .i64 0, .int .i64 0]) = (.agg #[.int .i64 x22_0, .int .i64 x22_1, .int .i64 x22_2, .int .i64 x22_3, .int .i64 x22_4])) ∧
      newO w_2 (.cells #[.int .i64 0, .int .i64 0, .int .i64 0, .int .i64 0, .int .i64 0] 44) fun g w_3 =>
      ∀ w_4 : World, BoxSt g w_3 w_4 →
      br (!b2) (
        Calls Try.prog 77 #[.agg #[.int .i64 x22_0, .int .i64 x22_1, .int .i64 x22_2, .int .i64 x22_3, .int .i64 x22_4]] w_4 fun e_2 w_5 => KeepG [g] w_4 w_5 ∧
        ∃ (x26 : Int),
        e_2 = .returned (.int .i64 x26) ∧
        froll_k1 K p0 x1 x22_0 x22_1 x22_2 x22_3 x22_4 g x26 w_5
      ) (
        froll_k1 K p0 x1 x22_0 x22_1 x22_2 x22_3 x22_4 g 0 w_4
      )
    )
  )
def froll_notes : Notes := ⟨[(7, ⟨[0, 0, 0, 4, 0, 16, 60, 0, 252, 0, 512, 2044, 4095], [3, 12], [0, 1, 2, 4, 5, 6, 7, 8, 9, 10, 11]⟩)], [], []⟩
theorem froll_calls (p0 : Option Addr) (x1 : Int) (b2 : Bool) (w : World) (K : Value → World → Prop) (h : froll_vc p0 x1 b2 w K) : Calls Try.prog 23 #[.pointer p0, .int .i64 x1, .bool b2] w fun e w' => ∃ v, e = .returned v ∧ K v w' :=
  calls_of_fvc envOk Try.func23 froll_notes [8] [.pointer p0, .int .i64 x1, .bool b2] w K (use_vc h (by as_aux_lemma => kernel_rfl))
end GFu
end Go.Proofs.Ytjcabccolkmlmaa
end
section
/- Arguments as the walks want them: bytes, rows of bytes. No program in sight. -/
namespace Go.Proofs.Ytjcabccolkmlmaa
open Go.RowKit Go.ChangeShapes
variable {H : Type} {enc : TypeId × Value → H} {P : Program} {W : World}
theorem addr_plain {w : World} {a : Addr} {v : Value} (h : w.cell? (a.add 0) = some v) : a = ⟨a.block, a.off, none⟩ := by
  have h0 : a.add 0 = a := by unfold Addr.add; rfl
  rw [h0] at h
  unfold World.cell? at h
  split at h
  · split at h
    · cases h
    · rename_i hs
      obtain ⟨b, o, s⟩ := a
      cases s with
      | none => rfl
      | some x => simp at hs
  · cases h
def ofI (zs : List Int) : List UInt8 := zs.map fun z => UInt8.ofNat z.toNat
theorem bV_ofI {z : Int} (h : (Lit.int .u8 z).wf = true) : bV (UInt8.ofNat z.toNat) = .int .u8 z := by
  have hz : 0 ≤ z ∧ z < 256 := by
    have e1 : IntKind.u8.min = 0 := rfl
    have e2 : IntKind.u8.max = 255 := rfl
    simp [Lit.wf] at h
    omega
  unfold bV
  rw [UInt8.toNat_ofNat', Nat.mod_eq_of_lt (by omega)]
  congr 1
  omega
theorem row_of_cells {a : Addr} {zs : List Int} {len : Nat} (hl : len ≤ zs.length) (hc : ∀ i, i < zs.length → W.cell? (a.add i) = some (.int .u8 (zs.getD i 0))) (hw : ∀ n ∈ zs, (Lit.int .u8 n).wf = true) : (ofI (zs.take len)).length = len ∧ RowAt W (some a) ((ofI (zs.take len)).map bV) := by
  refine ⟨by simp [ofI]; omega, ?_⟩
  cases hz : zs with
  | nil => exact .inl (by simp [ofI])
  | cons z0 r =>
    rw [← hz]
    have h0 := hc 0 (by rw [hz]; simp)
    have ha := addr_plain h0
    refine .inr ⟨a.block, a.off, by rw [← ha], fun i v hv => ?_⟩
    rw [List.getElem?_map, ofI, List.getElem?_map, List.getElem?_take] at hv
    split at hv
    · rcases hq : zs[i]? with _ | z
      · rw [hq] at hv; cases hv
      · rw [hq] at hv
        simp only [Option.map_some, Option.some.injEq] at hv
        have hi : i < zs.length := (List.getElem?_eq_some_iff.1 hq).1
        have h1 := hc i hi
        rw [ha, Addr.add_lit, List.getD_eq_getElem?_getD, hq] at h1
        rw [← hv, bV_ofI (hw z (List.mem_of_getElem? hq))]
        exact h1
    · cases hv
theorem open_bytes {t e : TypeId} {v : Value} {d : DataW H} {p : List MemPlace} (ht : P.underlying t = some (.slice e)) (he : P.underlying e = some (.int .u8)) (hc : P.cellsOf e = 1)
    (hv : ∃ a l c, v = .slice a l c) (h : DataW.Trod enc P W 0 (fun _ => true) true t v d p) : ∃ (bs : List UInt8) (a : Option Addr) (c : Nat), v = .slice a bs.length c ∧ bs.length ≤ c ∧ c ≤ maxLen ∧ RowAt W a (bs.map bV) := by
  obtain ⟨a, l, c, rfl⟩ := hv
  obtain ⟨fuel, hf⟩ := h
  rcases open_ints ht he hc hf with ⟨hcs, _⟩ | ⟨x, l', c', zs, hcs, _, hl, hm, hz, _, hcell, hwz⟩
  · simp [Value.cells] at hcs
    obtain ⟨rfl, rfl, rfl⟩ := hcs
    exact ⟨[], none, 0, rfl, Nat.le_refl _, by decide, .inl rfl⟩
  · simp [Value.cells] at hcs
    obtain ⟨rfl, rfl, rfl⟩ := hcs
    simp only [if_true] at hz
    obtain ⟨h1, h2⟩ := row_of_cells (len := l) (by omega) hcell hwz
    exact ⟨ofI (zs.take l), some x, c, by rw [h1], by rw [h1]; exact hl, hm, h2⟩
theorem open_parts {t e q : TypeId} {v : Value} {d : DataW H} {p : List MemPlace} (ht : P.underlying t = some (.slice e)) (he : P.underlying e = some (.slice q)) (hq : P.underlying q = some (.int .u8)) (ce : P.cellsOf e = 1) (cq : P.cellsOf q = 1)
    (hv : ∃ a l c, v = .slice a l c) (h : DataW.Trod enc P W 0 (fun _ => true) true t v d p) : ∃ (ps : List (List UInt8)) (a : Option Addr) (c : Nat), v = .slice a ps.length c ∧ ps.length ≤ c ∧ c ≤ maxLen ∧ PartsAt W a ps := by
  obtain ⟨a, l, c, rfl⟩ := hv
  obtain ⟨fuel, hf⟩ := h
  rcases Deep.open_int_rows ht he hq ce cq hf with ⟨hcs, _⟩ | ⟨x, l', c', A, L, C, Z, hcs, _, hl, hm, _, hrow⟩
  · simp [Value.cells] at hcs
    obtain ⟨rfl, rfl, rfl⟩ := hcs
    exact ⟨[], none, 0, rfl, Nat.le_refl _, by decide, .nil⟩
  · simp [Value.cells] at hcs
    obtain ⟨rfl, rfl, rfl⟩ := hcs
    have each : ∀ r, r < c → (ofI ((Z r).take (L r))).length = L r ∧ RowAt W (A r) ((ofI ((Z r).take (L r))).map bV) := fun r hr => by
      obtain ⟨_, h2, _, h4, h5, h6, h7⟩ := hrow r hr
      cases hA : A r with
      | none =>
        have hC := h6 hA
        have hL : L r = 0 := by omega
        rw [hL]
        exact ⟨by simp [ofI], .inl (by simp [ofI])⟩
      | some a' => exact row_of_cells (by omega) (fun i hi => (h7 a' hA).2 i (by omega)) h5
    let ps : List (List UInt8) := (List.range l).map fun r => ofI ((Z r).take (L r))
    let vs : List (Option Addr × Nat) := (List.range l).map fun r => (A r, C r)
    have hps : ps.length = l := by simp [ps]
    refine ⟨ps, some x, c, by rw [hps], by rw [hps]; exact hl, hm, vs, ?_, by simp [ps, vs], ?_⟩
    · by_cases h0 : l = 0
      · exact .inl (by rw [List.map_eq_nil_iff]; simp [ps, vs, h0])
      · have ha := addr_plain (hrow 0 (by omega)).1
        refine .inr ⟨x.block, x.off, by rw [← ha], fun i v hv => ?_⟩
        rw [List.getElem?_map] at hv
        rcases hz : (vs.zip ps)[i]? with _ | ⟨v1, p1⟩
        · rw [hz] at hv; cases hv
        · rw [hz] at hv
          simp only [Option.map_some, Option.some.injEq] at hv
          rw [List.getElem?_zip_eq_some] at hz
          obtain ⟨z1, z2⟩ := hz
          have hi : i < l := by
            have := (List.getElem?_eq_some_iff.1 z2).1
            omega
          simp only [vs, ps, List.getElem?_map, List.getElem?_range hi, Option.map_some, Option.some.injEq] at z1 z2
          rw [← hv, ← z1, ← z2, (each i (by omega)).1]
          have h1 := (hrow i (by omega)).1
          rw [ha, Addr.add_lit] at h1
          exact h1
    · intro v1 p1 hm1
      obtain ⟨i, hi⟩ := List.getElem?_of_mem hm1
      rw [List.getElem?_zip_eq_some] at hi
      obtain ⟨z1, z2⟩ := hi
      have hi : i < l := by
        have := (List.getElem?_eq_some_iff.1 z2).1
        omega
      simp only [vs, ps, List.getElem?_map, List.getElem?_range hi, Option.map_some, Option.some.injEq] at z1 z2
      obtain ⟨_, h2, h3, _⟩ := hrow i (by omega)
      rw [← z1, ← z2, (each i (by omega)).1]
      exact ⟨(each i (by omega)).2, h2, Nat.le_trans h2 h3⟩
theorem int_nat {z : Int} (h : 0 ≤ z) : ∃ n : Nat, z = (n : Int) := ⟨z.toNat, by omega⟩
theorem u32_nat {z : Int} (h : (Lit.int .u32 z).wf = true) : ∃ n : Nat, z = (n : Int) ∧ n < 4294967296 := by
  have hz : 0 ≤ z ∧ z < 4294967296 := by
    have e1 : IntKind.u32.min = 0 := rfl
    have e2 : IntKind.u32.max = 4294967295 := rfl
    simp [Lit.wf] at h
    omega
  exact ⟨z.toNat, by omega, by omega⟩
theorem i64_range {z : Int} (h : (Lit.int .i64 z).wf = true) : -9223372036854775808 ≤ z ∧ z ≤ 9223372036854775807 := by
  have e1 : IntKind.i64.min = -9223372036854775808 := rfl
  have e2 : IntKind.i64.max = 9223372036854775807 := rfl
  simp [Lit.wf] at h
  omega
end Go.Proofs.Ytjcabccolkmlmaa
end
section
/- Data that came in, opened by their shape. No program in sight. -/
namespace Go.Proofs.Ytjcabccolkmlmaa
open Go.RowKit Go.WideShapes Go.ChangeShapes
/-- What a type looks like; a struct's fields one behind the other: offset, cells, shape. -/
inductive Sh where
  | int (k : IntKind)
  | bool
  | str
  | slice (e : Sh) (n : Nat)
  | arr (len : Nat) (e : Sh) (n : Nat)
  | agg (fs : Sh)
  | fnil
  | fcons (off n : Nat) (f r : Sh)
mutual
def fitsB (P : Program) : Sh → TypeId → Bool
  | .int k, t => match P.underlying t with | some (.int k') => k == k' | _ => false
  | .bool, t => match P.underlying t with | some .bool => true | _ => false
  | .str, t => match P.underlying t with | some .string => true | _ => false
  | .slice e n, t => match P.underlying t with | some (.slice et) => P.cellsOf et == n && fitsB P e et | _ => false
  | .arr len e n, t => match P.underlying t with | some (.array l et) => l == len && P.cellsOf et == n && fitsB P e et | _ => false
  | .agg fs, t => match P.underlying t with | some (.struct fl) => fitsF P fs fl 0 | _ => false
  | .fnil, _ => false
  | .fcons _ _ _ _, _ => false
def fitsF (P : Program) : Sh → Array Field → Nat → Bool
  | .fnil, _, _ => true
  | .fcons off n f r, fl, i => (match fl[i]? with | some fd => fd.offset == off && P.cellsOf fd.type == n && fitsB P f fd.type | none => false) && fitsF P r fl (i + 1)
  | _, _, _ => false
end
/-- What the cells of a shape hold, in a world. -/
def Sh.Has (w : World) : Sh → List Value → Prop
  | .int k, cs => ∃ z, cs = [.int k z] ∧ (Lit.int k z).wf = true
  | .bool, cs => ∃ b, cs = [.bool b]
  | .str, cs => ∃ s : ByteArray, cs = [.string s] ∧ s.size ≤ maxLen
  | .slice e n, cs => cs = [.slice none 0 0] ∨ ∃ a len cap, cs = [.slice (some a) len cap] ∧ len ≤ cap ∧ cap ≤ maxLen ∧ ∀ i, i < len → ∃ cs', (cs'.length = n ∧ ∀ j, j < n → w.cell? (a.add (i * n + j)) = cs'[j]?) ∧ e.Has w cs'
  | .arr len e n, cs => ∀ i, i < len → e.Has w ((cs.drop (i * n)).take n)
  | .agg fs, cs => fs.Has w cs
  | .fnil, _ => True
  | .fcons off n f r, cs => f.Has w ((cs.drop off).take n) ∧ r.Has w cs
section
variable {H : Type} {enc : TypeId × Value → H} {P : Program} {W : World}
mutual
theorem has_of (sh : Sh) : ∀ (t : TypeId) (fuel : Nat) (cs : List Value) (x : DataW H × List MemPlace), fitsB P sh t = true → DataW.trod enc P W 0 (fun _ => true) true fuel t cs = some x → sh.Has W cs := by
  intro t fuel cs x hf h
  cases sh with
  | int k =>
    simp only [fitsB] at hf
    split at hf
    · rename_i k' hu
      have : k = k' := eq_of_beq hf
      subst this
      obtain ⟨n, h1, _, h2⟩ := DataW.trod_int hu h
      exact ⟨n, h1, h2⟩
    · cases hf
  | bool =>
    simp only [fitsB] at hf
    split at hf
    · rename_i hu
      obtain ⟨b, h1, _⟩ := DataW.trod_bool hu h
      exact ⟨b, h1⟩
    · cases hf
  | str =>
    simp only [fitsB] at hf
    split at hf
    · rename_i hu
      obtain ⟨s, h1, _, h2⟩ := DataW.trod_string hu h
      exact ⟨s, h1, h2⟩
    · cases hf
  | slice e n =>
    simp only [fitsB] at hf
    split at hf
    · rename_i et hu
      rw [Bool.and_eq_true] at hf
      have hn : P.cellsOf et = n := eq_of_beq hf.1
      rcases Deep.open_slice hu h with ⟨h1, _⟩ | ⟨a, len, cap, m, nf, D, Pl, h1, _, hl, hm, hmm, _, hall⟩
      · exact .inl h1
      · refine .inr ⟨a, len, cap, h1, hl, hm, fun i hi => ?_⟩
        simp only [if_true] at hmm
        obtain ⟨cs', hc, ht⟩ := hall i (by omega)
        rw [hn] at hc
        obtain ⟨_, c1, c2⟩ := World.cells?_some hc
        refine ⟨cs', ⟨c1, fun j hj => ?_⟩, has_of e et _ _ _ hf.2 ht⟩
        rw [← c2 j hj, Addr.add_add]
    · cases hf
  | arr len e n =>
    simp only [fitsB] at hf
    split at hf
    · rename_i l et hu
      rw [Bool.and_eq_true, Bool.and_eq_true] at hf
      have hl : l = len := eq_of_beq hf.1.1
      have hn : P.cellsOf et = n := eq_of_beq hf.1.2
      subst hl
      obtain ⟨xs, m, _, _, _, hxl, hall⟩ := DataW.trod_array hu h
      intro i hi
      have := hall i hi
      rw [hn] at this
      rw [List.getElem?_eq_getElem (by omega)] at this
      exact has_of e et _ _ _ hf.2 this
    · cases hf
  | agg fs =>
    simp only [fitsB] at hf
    split at hf
    · rename_i fl hu
      obtain ⟨xs, n, _, _, _, hxl, hall⟩ := DataW.trod_struct hu h
      exact hasF_of fs fl 0 n cs xs hf hxl hall
    · cases hf
  | fnil => simp [fitsB] at hf
  | fcons off n f r => simp [fitsB] at hf
theorem hasF_of (sh : Sh) : ∀ (fl : Array Field) (i n : Nat) (cs : List Value) (xs : List (DataW H × List MemPlace)), fitsF P sh fl i = true → xs.length = fl.size →
    (∀ (i : Nat) (f : Field), fl[i]? = some f → DataW.trod enc P W 0 (fun _ => true) true n f.type ((cs.drop f.offset).take (P.cellsOf f.type)) = xs[i]?) → sh.Has W cs := by
  intro fl i n cs xs hf hl hall
  cases sh with
  | fnil => trivial
  | fcons off m f r =>
    simp only [fitsF, Bool.and_eq_true] at hf
    obtain ⟨h1, h2⟩ := hf
    refine ⟨?_, hasF_of r fl (i + 1) n cs xs h2 hl hall⟩
    split at h1
    · rename_i fd hfd
      rw [Bool.and_eq_true, Bool.and_eq_true] at h1
      have ho : fd.offset = off := eq_of_beq h1.1.1
      have hm : P.cellsOf fd.type = m := eq_of_beq h1.1.2
      have ht := hall i fd hfd
      have hi : i < xs.length := by rw [hl]; exact (Array.getElem?_eq_some_iff.1 hfd).1
      rw [List.getElem?_eq_getElem hi, ho, hm] at ht
      exact has_of f fd.type _ _ _ h1.2 ht
    · cases h1
  | int k => simp [fitsF] at hf
  | bool => simp [fitsF] at hf
  | str => simp [fitsF] at hf
  | slice e n => simp [fitsF] at hf
  | arr l e n => simp [fitsF] at hf
  | agg fs => simp [fitsF] at hf
end
theorem open_sh {sh : Sh} {t : TypeId} {v : Value} {d : DataW H} {p : List MemPlace} (hf : fitsB P sh t = true) (h : DataW.Trod enc P W 0 (fun _ => true) true t v d p) : sh.Has W v.cells.toList := by
  obtain ⟨fuel, hf'⟩ := h
  exact has_of sh t fuel _ _ hf hf'
end
theorem exists_list {α : Type} {p : Nat → α → Prop} : ∀ (n : Nat), (∀ i, i < n → ∃ x, p i x) → ∃ l : List α, l.length = n ∧ ∀ i x, l[i]? = some x → p i x := by
  intro n
  induction n with
  | zero => intro _; exact ⟨[], rfl, fun i x h => by cases h⟩
  | succ n ih =>
    intro h
    obtain ⟨l, hl, hp⟩ := ih fun i hi => h i (by omega)
    obtain ⟨x, hx⟩ := h n (by omega)
    refine ⟨l ++ [x], by simp [hl], fun i y hy => ?_⟩
    by_cases hi : i < l.length
    · rw [List.getElem?_append_left hi] at hy; exact hp i y hy
    · rw [List.getElem?_append_right (by omega)] at hy
      have h0 : i - l.length = 0 := by
        have := (List.getElem?_eq_some_iff.1 hy).1; simp at this; omega
      rw [h0] at hy
      simp at hy
      subst hy
      rw [show i = n by omega]; exact hx
/-- Where a slice's elements lie. -/
theorem slice_addr {w : World} {a : Addr} {v : Value} (h : w.cell? (a.add 0) = some v) : a = ⟨a.block, a.off, none⟩ := addr_plain h
def shBytes : Sh := .slice (.int .u8) 1
theorem has_bytes {w : World} {cs : List Value} (h : shBytes.Has w cs) : ∃ (bs : List UInt8) (a : Option Addr) (c : Nat), cs = [.slice a bs.length c] ∧ bs.length ≤ c ∧ c ≤ maxLen ∧ RowAt w a (bs.map bV) := by
  rcases h with rfl | ⟨a, len, cap, rfl, hl, hm, hall⟩
  · exact ⟨[], none, 0, rfl, Nat.le_refl _, by decide, .inl rfl⟩
  · obtain ⟨zs, hz, hp⟩ := exists_list (p := fun i z => w.cell? (a.add i) = some (.int .u8 z) ∧ (Lit.int .u8 z).wf = true) len (fun i hi => by
      obtain ⟨cs', ⟨h1, h2⟩, z, rfl, hw⟩ := hall i hi
      have := h2 0 (by omega)
      simp at this
      exact ⟨z, this, hw⟩)
    obtain ⟨h1, h2⟩ := row_of_cells (W := w) (a := a) (zs := zs) (len := len) (by omega) (fun i hi => by
      have := (hp i zs[i] (List.getElem?_eq_getElem hi)).1
      rw [this]; congr 2; simp [List.getD, List.getElem?_eq_getElem hi]) (fun n hn => by
      obtain ⟨i, hi⟩ := List.getElem?_of_mem hn
      exact (hp i n hi).2)
    exact ⟨ofI (zs.take len), some a, cap, by rw [h1], by rw [h1]; exact hl, hm, h2⟩
theorem has_int {w : World} {k : IntKind} {cs : List Value} (h : (Sh.int k).Has w cs) : ∃ z, cs = [.int k z] ∧ (Lit.int k z).wf = true := h
end Go.Proofs.Ytjcabccolkmlmaa
end
section
/- Small words for using printed conditions. No program in sight. -/
namespace Go.Proofs.Ytjcabccolkmlmaa
open Go.RowKit
theorem keepG_nil (w w1 : World) : KeepG [] w w1 := fun _ g hg => by cases hg
theorem keepG_below {gs : List Nat} {w w1 : World} (h : Below w.heap.size w w1) : KeepG gs w w1 := fun hu g hg => h.block g (hu g hg)
theorem keepG_fr {gs L : List Nat} {w w1 : World} (h : Fr L w w1) (ha : ∀ g ∈ gs, g ∉ L) : KeepG gs w w1 := fun hu g hg => h.block g (hu g hg) (ha g hg)
/-- A call whose contract tells one value. -/
theorem wr64 {z : Int} (h1 : -9223372036854775808 ≤ z) (h2 : z ≤ 9223372036854775807) : IntKind.i64.wrap z = z := IntWalk.i64_in z ⟨h1, h2⟩
theorem wru64 {z : Int} (h1 : 0 ≤ z) (h2 : z ≤ 18446744073709551615) : IntKind.u64.wrap z = z := by rw [IntKind.wrap_u64]; omega
theorem wru8 {z : Int} (h1 : 0 ≤ z) (h2 : z ≤ 255) : IntKind.u8.wrap z = z := by rw [IntKind.wrap_u8]; omega
theorem u64_mod (z : Int) (k : Nat) (hk : 0 < k) : ∃ m : Nat, m < k ∧ Int.tmod (IntKind.u64.wrap z) (k : Int) = (m : Int) := by
  have h0 : 0 ≤ IntKind.u64.wrap z := by rw [IntKind.wrap_u64]; omega
  have h1 := Int.emod_nonneg (IntKind.u64.wrap z) (show (k : Int) ≠ 0 by omega)
  have h2 := Int.emod_lt_of_pos (IntKind.u64.wrap z) (show (0 : Int) < (k : Int) by omega)
  exact ⟨(IntKind.u64.wrap z % (k : Int)).toNat, by omega, by rw [Int.tmod_eq_emod_of_nonneg h0]; omega⟩
theorem br_t {b : Bool} {A B : Prop} (hb : b = true) (h : A) : br b A B := by rw [br_true hb]; exact h
theorem br_f {b : Bool} {A B : Prop} (hb : b = false) (h : B) : br b A B := by rw [br_false hb]; exact h
theorem br_y {p : Prop} [Decidable p] {A B : Prop} (hp : p) (h : A) : br (decide p) A B := br_t (decide_eq_true hp) h
theorem br_n {p : Prop} [Decidable p] {A B : Prop} (hp : ¬ p) (h : B) : br (decide p) A B := br_f (decide_eq_false hp) h
theorem br_not {b : Bool} {A B : Prop} (h : br b B A) : br (!b) A B := by cases b <;> exact h
/-- A new block. -/
theorem newO_mk {w : World} {o : Obj} {K : Nat → World → Prop} (h : K w.heap.size (w.alloc o)) : newO w o K := by rintro g w1 rfl rfl; exact h
theorem newO_in {w : World} {o : Obj} {K : Nat → World → Prop} (h : ∀ w1, w1.heap[w.heap.size]? = some o → Below w.heap.size w w1 → w1.heap.size = w.heap.size + 1 → K w.heap.size w1) : newO w o K := by
  rintro g w1 rfl rfl; exact h _ (al_new rfl) (Below_one o) (by simp)
theorem drewO_in {w : World} {K : World → Prop} (h : ∀ w1, Below w.heap.size w w1 → w1.heap = w.heap → K w1) : drewO w K := fun w1 h1 h2 => h w1 h2 h1
theorem cellsAt_row {w : World} {g : Nat} {cs : Array Value} {t : TypeId} {fr : Nat × Nat} (h : w.heap[g]? = some (.cells cs t fr)) {off : Nat} {vs : List Value} (hv : (cs.toList.drop off).take vs.length = vs) : cellsAt w g off vs :=
  cellsAt_of fun j v hj => by
    rw [cell_of_row _ _ _ _ _ _ h]
    rw [← hv, List.getElem?_take] at hj
    split at hj
    · rw [List.getElem?_drop] at hj; simpa using hj
    · cases hj
theorem row_of_block {w : World} {g : Nat} {bs : List UInt8} {t : TypeId} {fr : Nat × Nat} (h : w.heap[g]? = some (.cells (bs.map bV).toArray t fr)) : RowAt w (some ⟨g, 0, none⟩) (bs.map bV) := RowAt.ofWhole h
/-- A block's cells, as what is appended. -/
theorem src_block {P : Program} {W : World} {tx e' : TypeId} (hk : P.underlying tx = some (.slice e')) {g n c size : Nat} {cs : List Value} {t : TypeId} {fr : Nat × Nat} (h : W.heap[g]? = some (.cells cs.toArray t fr)) (hl : cs.length = n * size) (h1 : allOne cs = true) :
    Src P size tx (.slice (some ⟨g, 0, none⟩) n c) n cs W :=
  Src.ofSlice _ hk _ n c _ hl (fun j u hj => by
    rw [Addr.add_lit, Nat.zero_add, cell_of_row _ _ _ _ _ _ h]
    simpa using hj) (allOne_spec h1)
theorem own_cell {w : World} {b : Nat} {e : TypeId} {a : Option Addr} {n c : Nat} {xs : List Value} (h : Own w b e 1 (.slice a n c) n xs) {i : Nat} {v : Value} (hi : xs[i]? = some v) : ∃ g off, a = some ⟨g, off, none⟩ ∧ w.cell? ⟨g, off + i * 1, none⟩ = some v := by
  have hlt : i < xs.length := (List.getElem?_eq_some_iff.1 hi).1
  have hl := h.1
  rcases h.2 with ⟨h0, h1⟩ | ⟨g, off, cap, cur, hv, _⟩
  · omega
  · injection hv with h1 h2 h3
    subst h1
    exact ⟨g, off, rfl, by rw [Nat.mul_one]; exact h.cells g off _ rfl i v hi⟩
theorem Bk.there {w : World} {g : Nat} {cs : Array Value} {t : TypeId} (h : Bk w g cs t) {i n : Nat} (hi : i + n ≤ cs.size) : w.there g i n := fun j hj => by
  refine ⟨?_, h.frozen _⟩
  rw [h.cell]
  rw [Array.getElem?_eq_getElem (by omega)]
  rfl
theorem stO_bk {gs : List Nat} {w : World} {g i : Nat} {cs : Array Value} {t : TypeId} {v : Value} {K : World → Prop} (h : Bk w g cs t) (hi : i < cs.size) (hg : ∀ x ∈ gs, x ≠ g) (hk : ∀ w1, Bk w1 g (cs.setIfInBounds i v) t → Fr [g] w w1 → w1.heap.size = w.heap.size → K w1) : stO gs w g i [v] K :=
  ⟨hg, h.there (by simp; omega), fun w1 e => by
    subst e
    exact hk _ (h.setCell i v) ((Fr.refl [g] w).setCell (p := ⟨g, i, none⟩) (.inl (by simp)) v) (by simp [World.setCells, World.setCell])⟩
theorem stO_set {gs : List Nat} {w : World} {g i : Nat} {cs : Array Value} {t : TypeId} {v : Value} {K : World → Prop} (h : Bk w g cs t) (hi : i < cs.size) (hg : ∀ x ∈ gs, x ≠ g) (hk : K (w.setCell ⟨g, i, none⟩ v)) : stO gs w g i [v] K :=
  ⟨hg, h.there (by simp; omega), fun w1 e => by subst e; exact hk⟩
theorem sliceBase_cell {w : World} {b off c l s j : Nat} {v : Value} (hlt : l ≠ c) (h : w.cell? ⟨b, off + l * s + j, none⟩ = some v) : ∃ b' off', sliceBase (some ⟨b, off, none⟩) c l s = some ⟨b', off', none⟩ ∧ w.cell? ⟨b', off' + j, none⟩ = some v := by
  refine ⟨b, off + l * s, ?_, h⟩
  unfold sliceBase
  rw [if_neg (fun e => hlt e.symm)]
  simp [Addr.add_lit]
theorem own_empty {w : World} {g : Nat} {e : TypeId} (s : Nat) (h : w.heap[g]? = some (.cells #[] e (0, 0))) : Own w 0 e s (.slice (some ⟨g, 0, none⟩) 0 0) 0 [] :=
  ⟨by simp, .inr ⟨g, 0, 0, #[], rfl, Nat.zero_le _, h, Nat.le_refl _, Nat.zero_le _, by simp, by simp⟩⟩
theorem Own.store {w : World} {b : Nat} {e : TypeId} {a : Option Addr} {n c : Nat} {xs : List Value} (h : Own w b e 1 (.slice a n c) n xs) {i : Nat} (hi : i < n) {gs : List Nat} {v : Value} {K : World → Prop} (hgs : ∀ k, (Value.slice a n c).ownBlock = some k → ∀ x ∈ gs, x ≠ k)
    (hk : ∀ w1, Own w1 b e 1 (.slice a n c) n (xs.set i v) → Fr (Value.slice a n c).ownBlock.toList w w1 → w1.heap.size = w.heap.size → K w1) : ∃ g off, a = some ⟨g, off, none⟩ ∧ stO gs w g (off + i * 1) [v] K := by
  rcases h.2 with ⟨h0, h1⟩ | ⟨g, off, cap, cur, hv, hb, hg, hn, hm, hs, ht⟩
  · omega
  · injection hv with h1 h2 h3
    subst h1; subst h3
    have hB : Bk w g cur e := hg
    refine ⟨g, off, rfl, ?_⟩
    rw [Nat.mul_one]
    refine stO_bk hB (by omega) (fun x hx => hgs g rfl x hx) fun w1 hb1 hf hsz => ?_
    refine hk w1 ⟨by rw [List.length_set]; exact h.1, .inr ⟨g, off, c, _, rfl, hb, hb1, hn, hm, by simpa using hs, ?_⟩⟩ hf hsz
    rw [← ht, Array.toList_setIfInBounds, List.drop_set]
    rw [if_neg (by omega), show off + i - off = i by omega, List.take_set]
theorem Own.storeAt {w : World} {b : Nat} {e : TypeId} {g off n c : Nat} {xs : List Value} (h : Own w b e 1 (.slice (some ⟨g, off, none⟩) n c) n xs) {i : Nat} (hi : i < n) {gs : List Nat} {v : Value} {K : World → Prop} (hgs : ∀ x ∈ gs, x ≠ g)
    (hk : ∀ w1, Own w1 b e 1 (.slice (some ⟨g, off, none⟩) n c) n (xs.set i v) → Fr [g] w w1 → w1.heap.size = w.heap.size → K w1) : stO gs w g (off + i * 1) [v] K := by
  obtain ⟨g', off', he, hst⟩ := Own.store (K := K) (v := v) h hi (fun k hk x hx => by injection hk with hk; subst hk; exact hgs x hx) hk
  injection he with he
  injection he with e1 e2
  subst e1; subst e2
  exact hst
/-- One byte more or other. -/
theorem bits_byte (op : BinOp) (x y : Int) : ∃ b : UInt8, bitsV op .u8 x y = (b.toNat : Int) := by
  have key : ∀ z : Int, ∃ b : UInt8, IntKind.u8.wrap z = (b.toNat : Int) := fun z => by
    have h : 0 ≤ IntKind.u8.wrap z ∧ IntKind.u8.wrap z < 256 := by rw [IntKind.wrap_u8]; omega
    refine ⟨UInt8.ofNat (IntKind.u8.wrap z).toNat, ?_⟩
    rw [show (UInt8.ofNat (IntKind.u8.wrap z).toNat).toNat = (IntKind.u8.wrap z).toNat % 256 from rfl, Nat.mod_eq_of_lt (by omega)]
    omega
  unfold bitsV
  cases op <;> exact key _
theorem strOf_cat (xs ys : List UInt8) : strOf xs ++ strOf ys = strOf (xs ++ ys) := by
  apply ByteArray.ext
  simp [strOf, ByteArray.data_append]
theorem strOf_extract (xs : List UInt8) (i j : Nat) : (strOf xs).extract i j = strOf ((xs.drop i).take (j - i)) := by
  apply ByteArray.ext
  simp [strOf, ByteArray.data_extract, List.take_drop]
theorem byteAt_strOf (xs : List UInt8) (i : Nat) : byteAt (strOf xs) (i : Int) = ((xs.getD i 0).toNat : Int) := by unfold byteAt; rw [strOf_list]; rfl
end Go.Proofs.Ytjcabccolkmlmaa
end
section
/- Slices of structs that came in: their elements, one behind the other. No program in sight. -/
namespace Go.Proofs.Ytjcabccolkmlmaa
open Go.RowKit Go.WideShapes Go.ChangeShapes
/-- Elements of n cells each, of which R tells where they lie. -/
def RowsAt {α : Type} (R : World → Nat → Nat → α → Prop) (n : Nat) (w : World) (a : Option Addr) (xs : List α) : Prop := xs = [] ∨ ∃ b off, a = some ⟨b, off, none⟩ ∧ ∀ i x, xs[i]? = some x → R w b (off + i * n) x
theorem RowsAt.mono {α : Type} {R : World → Nat → Nat → α → Prop} {n : Nat} {w w' : World} {a : Option Addr} {xs : List α} (h : RowsAt R n w a xs) (hm : ∀ b off x, R w b off x → R w' b off x) : RowsAt R n w' a xs := by
  rcases h with h | ⟨b, off, ha, h⟩
  · exact .inl h
  · exact .inr ⟨b, off, ha, fun i x hx => hm _ _ _ (h i x hx)⟩
theorem RowsAt.get {α : Type} {R : World → Nat → Nat → α → Prop} {n : Nat} {w : World} {a : Option Addr} {xs : List α} (h : RowsAt R n w a xs) {i : Nat} (hi : i < xs.length) : ∃ b off, a = some ⟨b, off, none⟩ ∧ R w b (off + i * n) xs[i] := by
  rcases h with rfl | ⟨b, off, ha, h⟩
  · simp at hi
  · exact ⟨b, off, ha, h i _ (List.getElem?_eq_getElem hi)⟩
theorem has_rows {α : Type} {e : Sh} {n : Nat} (hn : 0 < n) {R : World → Nat → Nat → α → Prop} {w : World} (elem : ∀ (cs' : List Value) (b off : Nat), cs'.length = n → cellsAt w b off cs' → e.Has w cs' → ∃ x, R w b off x) {cs : List Value} (h : (Sh.slice e n).Has w cs) :
    ∃ (xs : List α) (a : Option Addr) (c : Nat), cs = [.slice a xs.length c] ∧ xs.length ≤ c ∧ c ≤ maxLen ∧ RowsAt R n w a xs := by
  rcases h with rfl | ⟨a, len, cap, rfl, hl, hm, hall⟩
  · exact ⟨[], none, 0, rfl, Nat.le_refl _, by decide, .inl rfl⟩
  · obtain ⟨xs, hz, hp⟩ := exists_list (p := fun i (x : α) => R w a.block (a.off + i * n) x ∧ a = ⟨a.block, a.off, none⟩) len (fun i hi => by
      obtain ⟨cs0, ⟨h01, h02⟩, _⟩ := hall 0 (by omega)
      have ha : a = ⟨a.block, a.off, none⟩ := by
        have := h02 0 (by omega)
        rw [List.getElem?_eq_getElem (by omega)] at this
        simp only [Nat.zero_mul, Nat.zero_add] at this
        exact addr_plain this
      obtain ⟨cs', ⟨h1, h2⟩, h3⟩ := hall i hi
      obtain ⟨x, hx⟩ := elem cs' a.block (a.off + i * n) h1 (cellsAt_of fun j v hj => by
        have hjn : j < n := by have := (List.getElem?_eq_some_iff.1 hj).1; omega
        have := h2 j hjn
        rw [ha, Addr.add_lit, ← Nat.add_assoc, hj] at this
        exact this) h3
      exact ⟨x, hx, ha⟩)
    refine ⟨xs, some a, cap, by rw [hz], by omega, hm, ?_⟩
    by_cases h0 : xs = []
    · exact .inl h0
    · have h1 : 0 < xs.length := List.length_pos_iff.2 h0
      have ha := (hp 0 _ (List.getElem?_eq_getElem h1)).2
      exact .inr ⟨a.block, a.off, by rw [← ha], fun i p hi => (hp i p hi).1⟩
theorem cellsAt_below {w w' : World} {b off : Nat} {vs : List Value} (h : cellsAt w b off vs) {B : Nat} (hb : Below B w w') (hB : w.heap.size ≤ B) : cellsAt w' b off vs :=
  cellsAt_of fun j v hj => by
    have h1 := cellsAt_get h j v hj
    exact (hb.cell (p := ⟨b, off + j, none⟩) (Nat.lt_of_lt_of_le (block_lt_of_cell h1) hB)).trans h1
theorem open_rows {P : Program} {α : Type} {e : Sh} {n : Nat} {R : World → Nat → Nat → α → Prop} {H : Type} {enc : TypeId × Value → H} {W : World} {t : TypeId} {v : Value} {d : DataW H} {p : List MemPlace} (hn : 0 < n) (elem : ∀ (cs' : List Value) (b off : Nat), cs'.length = n → cellsAt W b off cs' → e.Has W cs' → ∃ x, R W b off x)
    (hf : fitsB P (.slice e n) t = true) (hv : ∃ a l c, v = .slice a l c) (h : DataW.Trod enc P W 0 (fun _ => true) true t v d p) : ∃ (xs : List α) (a : Option Addr) (c : Nat), v = .slice a xs.length c ∧ RowsAt R n W a xs ∧ xs.length ≤ c ∧ c ≤ maxLen := by
  obtain ⟨a, l, c, rfl⟩ := hv
  obtain ⟨xs, a', c', h1, h2, h3, h4⟩ := has_rows hn elem (open_sh hf h)
  simp [Value.cells] at h1
  obtain ⟨rfl, rfl, rfl⟩ := h1
  exact ⟨xs, a, c, rfl, h4, h2, h3⟩
end Go.Proofs.Ytjcabccolkmlmaa
end
section
/- An object with a list of its own: each element so many cells, what an element refers to in blocks that the object owns. No program in sight. -/
namespace Go.Proofs.Ytjcabccolkmlmaa
open Go.RowKit
theorem cell_keep {w w' : World} {b : Nat} (hk : w'.heap[b]? = w.heap[b]?) (o : Nat) : w'.cell? ⟨b, o, none⟩ = w.cell? ⟨b, o, none⟩ := by unfold World.cell?; simp only [hk]
theorem cellsAt_keep {w w' : World} {b : Nat} (hk : w'.heap[b]? = w.heap[b]?) : ∀ {vs : List Value} {off : Nat}, cellsAt w b off vs → cellsAt w' b off vs
  | [], _, _ => trivial
  | _ :: _, _, h => ⟨(cell_keep hk _).trans h.1, cellsAt_keep hk h.2⟩
theorem cellsAt_list {w : World} {b : Nat} : ∀ {vs : List Value} {off : Nat}, (∀ j v, vs[j]? = some v → w.cell? ⟨b, off + j, none⟩ = some v) → cellsAt w b off vs
  | [], _, _ => trivial
  | v :: r, off, h => ⟨by simpa using h 0 v rfl, cellsAt_list fun j u hu => by have := h (j + 1) u (by simpa using hu); rwa [show off + (j + 1) = off + 1 + j by omega] at this⟩
structure RStable {α : Type} (R : World → List Nat → α → List Value → Prop) (k : Nat) : Prop where
  len : ∀ {w : World} {M : List Nat} {e : α} {cs : List Value}, R w M e cs → cs.length = k
  keep : ∀ {w w' : World} {M : List Nat} {e : α} {cs : List Value}, R w M e cs → (∀ b ∈ M, w'.heap[b]? = w.heap[b]?) → R w' M e cs
  mono : ∀ {w : World} {M K : List Nat} {e : α} {cs : List Value}, R w M e cs → (∀ b ∈ M, b ∈ K) → R w K e cs
def ElsOk {α : Type} (R : World → List Nat → α → List Value → Prop) (k : Nat) (w : World) (M : List Nat) (es : List α) (xs : List Value) : Prop :=
  xs.length = es.length * k ∧ ∀ (i : Nat) (e : α), es[i]? = some e → R w M e ((xs.drop (i * k)).take k)
section
variable {α : Type} {R : World → List Nat → α → List Value → Prop} {k : Nat} {w w' : World} {M K : List Nat} {es : List α} {xs : List Value}
theorem ElsOk.nil : ElsOk R k w M [] [] := ⟨by simp, fun i e h => by cases h⟩
theorem ElsOk.keep (hR : RStable R k) (h : ElsOk R k w M es xs) (hk : ∀ b ∈ M, w'.heap[b]? = w.heap[b]?) : ElsOk R k w' M es xs := ⟨h.1, fun i e he => hR.keep (h.2 i e he) hk⟩
theorem ElsOk.mono (hR : RStable R k) (h : ElsOk R k w M es xs) (hs : ∀ b ∈ M, b ∈ K) : ElsOk R k w K es xs := ⟨h.1, fun i e he => hR.mono (h.2 i e he) hs⟩
theorem ElsOk.app (hR : RStable R k) (h : ElsOk R k w M es xs) {e : α} {cs : List Value} (he : R w M e cs) : ElsOk R k w M (es ++ [e]) (xs ++ cs) := by
  have hc := hR.len he
  refine ⟨by rw [List.length_append, List.length_append, h.1, hc, List.length_singleton, Nat.add_mul, Nat.one_mul], fun i x hx => ?_⟩
  by_cases hi : i < es.length
  · rw [List.getElem?_append_left hi] at hx
    have := h.2 i x hx
    have hm : i * k + k ≤ xs.length := by
      rw [h.1]
      have := Nat.mul_le_mul_right k (show i + 1 ≤ es.length from hi)
      rw [Nat.add_mul, Nat.one_mul] at this
      exact this
    rwa [List.drop_append_of_le_length (by omega), List.take_append_of_le_length (by rw [List.length_drop]; omega)]
  · have hlt := (List.getElem?_eq_some_iff.1 hx).1
    rw [List.length_append, List.length_singleton] at hlt
    obtain rfl : i = es.length := by omega
    rw [List.getElem?_append_right (Nat.le_refl _), Nat.sub_self] at hx
    injection hx with hx; subst hx
    rw [← h.1, List.drop_left, List.take_of_length_le (by omega)]
    exact he
theorem ElsOk.erase (h : ElsOk R k w M es xs) {i : Nat} (hi : i < es.length) : ElsOk R k w M (es.eraseIdx i) (xs.take (i * k) ++ xs.drop ((i + 1) * k)) := by
  have e1 : (i + 1) * k = i * k + k := by rw [Nat.add_mul, Nat.one_mul]
  have e2 : (es.length - 1) * k + k = es.length * k := by
    rw [← Nat.add_one_mul]; congr 1; omega
  have hm : i * k + k ≤ xs.length := by
    rw [h.1]
    have := Nat.mul_le_mul_right k (show i + 1 ≤ es.length from hi)
    omega
  have hxl := h.1
  refine ⟨by rw [List.length_append, List.length_take, List.length_drop, List.length_eraseIdx_of_lt hi]; omega, fun j x hx => ?_⟩
  rw [List.getElem?_eraseIdx] at hx
  split at hx
  · rename_i hj
    have := h.2 j x hx
    have hjk : j * k + k ≤ i * k := by
      have := Nat.mul_le_mul_right k (show j + 1 ≤ i from hj)
      rw [Nat.add_mul, Nat.one_mul] at this; exact this
    rw [List.drop_append_of_le_length (by rw [List.length_take]; omega), List.take_append_of_le_length (by rw [List.length_drop, List.length_take]; omega), List.drop_take, List.take_take]
    rwa [Nat.min_eq_left (by omega)]
  · rename_i hj
    have := h.2 (j + 1) x hx
    have hjk : i * k ≤ j * k := Nat.mul_le_mul_right k (by omega)
    have e3 : (j + 1) * k = j * k + k := by rw [Nat.add_mul, Nat.one_mul]
    have hlt : (xs.take (i * k)).length = i * k := by rw [List.length_take]; omega
    rw [List.drop_append, hlt, List.drop_eq_nil_of_le (by omega), List.nil_append, List.drop_drop]
    rwa [show (i + 1) * k + (j * k - i * k) = (j + 1) * k by omega]
theorem ElsOk.cells (hR : RStable R k) (h : ElsOk R k w M es xs) {te : TypeId} {b0 c : Nat} {a : Option Addr} (hO : Own w b0 te k (.slice a es.length c) es.length xs) {i : Nat} {e : α} (he : es[i]? = some e) :
    ∃ cs, R w M e cs ∧ ∃ b off, a = some ⟨b, off, none⟩ ∧ (b0 ≤ b ∧ b < w.heap.size) ∧ cellsAt w b (off + i * k) cs := by
  have hr := h.2 i e he
  refine ⟨_, hr, ?_⟩
  have hlt := (List.getElem?_eq_some_iff.1 he).1
  rcases hO.2 with ⟨_, h0⟩ | ⟨g, off, cap, cur, hv, hb, hg, _⟩
  · omega
  · injection hv with q1 q2 q3
    subst q1
    refine ⟨g, off, rfl, ⟨hb, heap_lt hg⟩, cellsAt_list fun j v hv => ?_⟩
    rw [List.getElem?_take] at hv
    split at hv
    · rw [List.getElem?_drop] at hv
      rw [Nat.add_assoc]
      exact hO.cells g off c rfl _ v hv
    · cases hv
/-- The object under way: what it owns lies in L, or is new. -/
structure LRaw (R : World → List Nat → α → List Value → Prop) (k : Nat) (te tp : TypeId) (w : World) (L : List Nat) (n0 p : Nat) (f : Value → Array Value) (es : List α) (kv : Value) (xs : List Value) (M : List Nat) : Prop where
  bk : Bk w p (f kv) tp
  own : Own w 0 te k kv es.length xs
  els : ElsOk R k w M es xs
  far : ∀ b ∈ M, (b ∈ L ∨ n0 ≤ b) ∧ b ≠ p ∧ kv.ownBlock ≠ some b
  mine : ∀ b, kv.ownBlock = some b → b ∈ L ∨ n0 ≤ b
  under : Under M w.heap.size
variable {te tp : TypeId} {L : List Nat} {n0 p : Nat} {f : Value → Array Value} {kv : Value}
theorem own_apart {g : Nat} {cs : Array Value} {t e : TypeId} {size n b0 : Nat} {v : Value} {xs : List Value} (h1 : Bk w g cs t) (h2 : Own w b0 e size v n xs) (hne : t ≠ e) : v.ownBlock ≠ some g := by
  intro h
  rcases h2.2 with ⟨rfl, _⟩ | ⟨g', off, cap, cur, rfl, hb, hg, _⟩
  · cases h
  · simp [Value.ownBlock] at h
    subst h
    unfold Bk at h1
    rw [h1] at hg
    injection hg with hg
    injection hg with h3 h4 h5
    exact hne h4
theorem LRaw.keep (hR : RStable R k) (h : LRaw R k te tp w L n0 p f es kv xs M) (hk : ∀ b, (b = p ∨ kv.ownBlock = some b ∨ b ∈ M) → w'.heap[b]? = w.heap[b]?) (hs : w.heap.size ≤ w'.heap.size) : LRaw R k te tp w' L n0 p f es kv xs M :=
  ⟨h.bk.keep (hk p (.inl rfl)), h.own.keep fun b hb => hk b (.inr (.inl hb)), h.els.keep hR fun b hb => hk b (.inr (.inr hb)), h.far, h.mine, h.under.mono hs⟩
theorem LRaw.lt (h : LRaw R k te tp w L n0 p f es kv xs M) {b : Nat} (hb : b = p ∨ kv.ownBlock = some b ∨ b ∈ M) : b < w.heap.size := by
  rcases hb with rfl | hb | hb
  · exact h.bk.lt
  · exact (h.own.lt b hb).2
  · exact h.under b hb
theorem LRaw.below (hR : RStable R k) (h : LRaw R k te tp w L n0 p f es kv xs M) (hb : Below w.heap.size w w') : LRaw R k te tp w' L n0 p f es kv xs M := h.keep hR (fun b hb' => hb.block b (h.lt hb')) hb.size
theorem LRaw.more (hR : RStable R k) (h : LRaw R k te tp w L n0 p f es kv xs M) (B : List Nat) (hB : ∀ b ∈ B, (b ∈ L ∨ n0 ≤ b) ∧ b < w.heap.size ∧ b ≠ p ∧ kv.ownBlock ≠ some b) : LRaw R k te tp w L n0 p f es kv xs (M ++ B) :=
  ⟨h.bk, h.own, h.els.mono hR fun _ hk => List.mem_append_left _ hk, fun b hb => (List.mem_append.1 hb).elim (h.far b) fun hb => ⟨(hB b hb).1, (hB b hb).2.2⟩, h.mine, fun b hb => (List.mem_append.1 hb).elim (h.under b) fun hb => (hB b hb).2.1⟩
theorem LRaw.wider (h : LRaw R k te tp w L n0 p f es kv xs M) (hs : ∀ b ∈ L, b ∈ K) : LRaw R k te tp w K n0 p f es kv xs M :=
  ⟨h.bk, h.own, h.els, fun b hb => ⟨(h.far b hb).1.imp (hs b) id, (h.far b hb).2⟩, fun b hb => (h.mine b hb).imp (hs b) id, h.under⟩
/-- The list has turned, and is stored: appended to, cut, or new. -/
theorem LRaw.turn (hR : RStable R k) (hne : tp ≠ te) (h : LRaw R k te tp w L n0 p f es kv xs M) (hn : n0 ≤ w.heap.size) {es' : List α} {xs' : List Value} (he : ElsOk R k w M es' xs') {v1 : Value} (ho : Own w' 0 te k v1 es'.length xs') (hp : w'.heap[p]? = w.heap[p]?) (hM : ∀ b ∈ M, w'.heap[b]? = w.heap[b]?) (hs : w.heap.size ≤ w'.heap.size)
    (hn1 : v1.ownBlock = kv.ownBlock ∨ ∃ g, v1.ownBlock = some g ∧ w.heap.size ≤ g) {j : Nat} (hj : (f kv).setIfInBounds j v1 = f v1) : LRaw R k te tp (w'.setCell ⟨p, j, none⟩ v1) L n0 p f es' v1 xs' M := by
  have b1 := h.bk.keep hp
  have hk1 : ∀ b, b ≠ p → (w'.setCell ⟨p, j, none⟩ v1).heap[b]? = w'.heap[b]? := fun b hb => Below.heap_setCell _ _ _ _ hb
  have hfar : ∀ b ∈ M, v1.ownBlock ≠ some b := fun b hb e => by
    rcases hn1 with h1 | ⟨g, h1, hg1⟩
    · exact (h.far b hb).2.2 (h1 ▸ e)
    · rw [h1] at e; injection e with e; have := h.under b hb; omega
  refine ⟨hj ▸ b1.setCell j v1, ho.keep fun b hb => hk1 b fun e2 => own_apart b1 ho hne (e2 ▸ hb), (he.keep hR hM).keep hR fun b hb => hk1 b (h.far b hb).2.1, fun b hb => ⟨(h.far b hb).1, (h.far b hb).2.1, hfar b hb⟩, fun b hb => ?_, (h.under.mono hs).mono (by simp)⟩
  rcases hn1 with h1 | ⟨g, h1, hg1⟩
  · exact h.mine b (h1 ▸ hb)
  · rw [h1] at hb; injection hb with hb; exact .inr (by omega)
/-- Another cell of the object is stored. -/
theorem LRaw.cell (hR : RStable R k) (hne : tp ≠ te) (h : LRaw R k te tp w L n0 p f es kv xs M) {j : Nat} {v : Value} {f' : Value → Array Value} (hj : (f kv).setIfInBounds j v = f' kv) : LRaw R k te tp (w.setCell ⟨p, j, none⟩ v) L n0 p f' es kv xs M := by
  have hk1 : ∀ b, b ≠ p → (w.setCell ⟨p, j, none⟩ v).heap[b]? = w.heap[b]? := fun b hb => Below.heap_setCell _ _ _ _ hb
  exact ⟨hj ▸ h.bk.setCell j v, h.own.keep fun b hb => hk1 b fun e2 => own_apart h.bk h.own hne (e2 ▸ hb), h.els.keep hR fun b hb => hk1 b (h.far b hb).2.1, h.far, h.mine, h.under.mono (by simp)⟩
/-- The object, with all that it owns. -/
structure LAt (R : World → List Nat → α → List Value → Prop) (k : Nat) (te tp : TypeId) (w : World) (L : List Nat) (p : Nat) (f : Value → Array Value) (es : List α) : Prop where
  ex : ∃ kv xs M, Bk w p (f kv) tp ∧ Own w 0 te k kv es.length xs ∧ ElsOk R k w M es xs ∧ (∀ b ∈ M, b ∈ L ∧ b ≠ p ∧ kv.ownBlock ≠ some b) ∧ ∀ b, kv.ownBlock = some b → b ∈ L
  mem : p ∈ L
  under : Under L w.heap.size
theorem LAt.raw (h : LAt R k te tp w L p f es) (n0 : Nat) : ∃ kv xs M, LRaw R k te tp w L n0 p f es kv xs M := by
  obtain ⟨⟨kv, xs, M, h1, h2, h3, h4, h5⟩, hm, hu⟩ := h
  exact ⟨kv, xs, M, h1, h2, h3, fun b hb => ⟨.inl (h4 b hb).1, (h4 b hb).2⟩, fun b hb => .inl (h5 b hb), fun b hb => hu b (h4 b hb).1⟩
theorem LRaw.at (h : LRaw R k te tp w L n0 p f es kv xs M) (hp : p ∈ L) : ∃ L', LAt R k te tp w L' p f es ∧ Gr L L' n0 := by
  refine ⟨p :: (kv.ownBlock.toList ++ M), ⟨⟨kv, xs, M, h.bk, h.own, h.els, fun b hb => ⟨by simp [hb], (h.far b hb).2⟩, fun b hb => by simp [hb]⟩, by simp, fun b hb => ?_⟩, fun b hb => ?_⟩
  · rcases List.mem_cons.1 hb with rfl | hb
    · exact h.bk.lt
    · rcases List.mem_append.1 hb with hb | hb
      · exact (h.own.lt b (by simpa using hb)).2
      · exact h.under b hb
  · rcases List.mem_cons.1 hb with rfl | hb
    · exact .inl hp
    · rcases List.mem_append.1 hb with hb | hb
      · exact h.mine b (by simpa using hb)
      · exact (h.far b hb).1
theorem LAt.keep (hR : RStable R k) (h : LAt R k te tp w L p f es) (hk : ∀ b ∈ L, w'.heap[b]? = w.heap[b]?) (hs : w.heap.size ≤ w'.heap.size) : LAt R k te tp w' L p f es := by
  obtain ⟨⟨kv, xs, M, h1, h2, h3, h4, h5⟩, hm, hu⟩ := h
  exact ⟨⟨kv, xs, M, h1.keep (hk p hm), h2.keep (fun b e => hk b (h5 b e)), h3.keep hR (fun b e => hk b (h4 b e).1), h4, h5⟩, hm, hu.mono hs⟩
theorem LAt.fr (hR : RStable R k) (h : LAt R k te tp w L p f es) (hf : Fr K w w') (ha : Apart L K) : LAt R k te tp w' L p f es := h.keep hR (hf.keep ha h.under) hf.size
theorem LAt.below (hR : RStable R k) (h : LAt R k te tp w L p f es) (hb : Below w.heap.size w w') : LAt R k te tp w' L p f es := h.keep hR (fun b hk => hb.block b (h.under b hk)) hb.size
end
end Go.Proofs.Ytjcabccolkmlmaa
end
