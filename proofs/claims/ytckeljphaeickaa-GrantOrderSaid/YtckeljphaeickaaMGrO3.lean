import Derived.Test.YtckeljphaeickaaProg
import Derived.Test.YtckeljphaeickaaMGrO2
set_option linter.unusedVariables false
section
/- Conditions of functions, printed by a program of this claim's own (vcgen.py) out of the loaded code; each is proved to be enough. -/
set_option maxRecDepth 100000
namespace Go.Proofs.Ytckeljphaeickaa
open Go.RowKit
namespace GGrant
def env : Env := ⟨[(3, ⟨.int .i64, 1, .int .i64 0, 8, [.int .i64]⟩), (4, ⟨.bool, 1, .bool false, 1, [.bool]⟩), (23, ⟨.slice 3, 1, .slice none 0 0, 24, [.slice]⟩), (43, ⟨.int .u64, 1, .int .u64 0, 8, [.int .u64]⟩), (49, ⟨.slice 114, 1, .slice none 0 0, 24, [.slice]⟩), (51, ⟨.struct [(0, 3), (1, 3), (2, 3), (3, 49)], 4, .agg #[.int .i64 0, .int .i64 0, .int .i64 0, .slice none 0 0], 48, [.int .i64, .int .i64, .int .i64, .slice]⟩), (53, ⟨.struct [(0, 3), (1, 3), (2, 3), (3, 51), (7, 51)], 11, .agg #[.int .i64 0, .int .i64 0, .int .i64 0, .int .i64 0, .int .i64 0, .int .i64 0, .slice none 0 0, .int .i64 0, .int .i64 0, .int .i64 0, .slice none 0 0], 120, [.int .i64, .int .i64, .int .i64, .int .i64, .int .i64, .int .i64, .slice, .int .i64, .int .i64, .int .i64, .slice]⟩), (56, ⟨.struct [(0, 3), (1, 3), (2, 3), (3, 4)], 4, .agg #[.int .i64 0, .int .i64 0, .int .i64 0, .bool false], 32, [.int .i64, .int .i64, .int .i64, .bool]⟩), (59, ⟨.struct [(0, 3), (1, 3), (2, 3), (3, 51), (7, 51)], 11, .agg #[.int .i64 0, .int .i64 0, .int .i64 0, .int .i64 0, .int .i64 0, .int .i64 0, .slice none 0 0, .int .i64 0, .int .i64 0, .int .i64 0, .slice none 0 0], 120, [.int .i64, .int .i64, .int .i64, .int .i64, .int .i64, .int .i64, .slice, .int .i64, .int .i64, .int .i64, .slice]⟩), (61, ⟨.struct [(0, 3), (1, 3), (2, 3), (3, 4)], 4, .agg #[.int .i64 0, .int .i64 0, .int .i64 0, .bool false], 32, [.int .i64, .int .i64, .int .i64, .bool]⟩), (66, ⟨.arr 4 3, 4, .agg #[.int .i64 0, .int .i64 0, .int .i64 0, .int .i64 0], 32, [.int .i64, .int .i64, .int .i64, .int .i64]⟩), (68, ⟨.slice 120, 1, .slice none 0 0, 24, [.slice]⟩), (70, ⟨.struct [(0, 68), (1, 3), (2, 3), (3, 3)], 4, .agg #[.slice none 0 0, .int .i64 0, .int .i64 0, .int .i64 0], 48, [.slice, .int .i64, .int .i64, .int .i64]⟩), (74, ⟨.arr 3 3, 3, .agg #[.int .i64 0, .int .i64 0, .int .i64 0], 24, [.int .i64, .int .i64, .int .i64]⟩), (75, ⟨.struct [(0, 68), (1, 3), (2, 3), (3, 3)], 4, .agg #[.slice none 0 0, .int .i64 0, .int .i64 0, .int .i64 0], 48, [.slice, .int .i64, .int .i64, .int .i64]⟩), (80, ⟨.slice 56, 1, .slice none 0 0, 24, [.slice]⟩), (82, ⟨.slice 61, 1, .slice none 0 0, 24, [.slice]⟩), (88, ⟨.slice 59, 1, .slice none 0 0, 24, [.slice]⟩), (90, ⟨.slice 53, 1, .slice none 0 0, 24, [.slice]⟩), (114, ⟨.struct [(0, 3), (1, 3)], 2, .agg #[.int .i64 0, .int .i64 0], 16, [.int .i64, .int .i64]⟩)], [(21, [.agg [.int .i64, .int .i64, .int .i64, .int .i64, .int .i64, .int .i64, .slice, .int .i64, .int .i64, .int .i64, .slice]]), (22, [.agg [.int .i64, .int .i64, .int .i64, .bool], .lf (.int .i64)]), (23, [.agg [.int .i64, .int .i64, .int .i64, .int .i64, .int .i64, .int .i64, .slice, .int .i64, .int .i64, .int .i64, .slice]]), (24, [.agg [.int .i64, .int .i64, .int .i64, .bool], .lf (.int .i64)]), (25, [.lf (.bool)]), (26, [.lf (.bool)]), (27, [.agg [.slice, .int .i64, .int .i64, .int .i64], .lf (.int .i64), .lf (.int .i64)]), (28, [.agg [.slice, .int .i64, .int .i64, .int .i64], .lf (.int .i64), .lf (.int .i64)]), (29, [.lf (.bool)]), (30, [.lf (.int .i64)]), (31, [.lf (.int .i64)]), (32, [.lf (.slice), .lf (.int .i64)]), (33, [.lf (.slice), .lf (.int .i64)]), (58, [.lf (.int .i64), .lf (.int .i64), .lf (.int .i64)]), (59, [.lf (.int .i64), .lf (.int .i64), .lf (.int .i64)]), (60, [.agg [.slice, .int .i64, .int .i64, .int .i64], .lf (.int .i64)]), (61, [.agg [.slice, .int .i64, .int .i64, .int .i64], .lf (.int .i64)]), (62, [.lf (.int .i64), .lf (.bool)]), (63, [.lf (.int .i64), .lf (.bool)]), (64, [.lf (.bool)]), (97, [.lf (.bool)]), (98, [.lf (.bool)]), (123, [.lf (.int .i64)])], [56]⟩
theorem ty3 : TyOk Try.prog 3 ⟨.int .i64, 1, .int .i64 0, 8, [.int .i64]⟩ := tyok (by kernel_rfl) (by kernel_rfl)
theorem ty4 : TyOk Try.prog 4 ⟨.bool, 1, .bool false, 1, [.bool]⟩ := tyok (by kernel_rfl) (by kernel_rfl)
theorem ty23 : TyOk Try.prog 23 ⟨.slice 3, 1, .slice none 0 0, 24, [.slice]⟩ := tyok (by kernel_rfl) (by kernel_rfl)
theorem ty43 : TyOk Try.prog 43 ⟨.int .u64, 1, .int .u64 0, 8, [.int .u64]⟩ := tyok (by kernel_rfl) (by kernel_rfl)
theorem ty49 : TyOk Try.prog 49 ⟨.slice 114, 1, .slice none 0 0, 24, [.slice]⟩ := tyok (by kernel_rfl) (by kernel_rfl)
theorem ty51 : TyOk Try.prog 51 ⟨.struct [(0, 3), (1, 3), (2, 3), (3, 49)], 4, .agg #[.int .i64 0, .int .i64 0, .int .i64 0, .slice none 0 0], 48, [.int .i64, .int .i64, .int .i64, .slice]⟩ := tyok (by kernel_rfl) (by kernel_rfl)
theorem ty53 : TyOk Try.prog 53 ⟨.struct [(0, 3), (1, 3), (2, 3), (3, 51), (7, 51)], 11, .agg #[.int .i64 0, .int .i64 0, .int .i64 0, .int .i64 0, .int .i64 0, .int .i64 0, .slice none 0 0, .int .i64 0, .int .i64 0, .int .i64 0, .slice none 0 0], 120, [.int .i64, .int .i64, .int .i64, .int .i64, .int .i64, .int .i64, .slice, .int .i64, .int .i64, .int .i64, .slice]⟩ := tyok (by kernel_rfl) (by kernel_rfl)
theorem ty56 : TyOk Try.prog 56 ⟨.struct [(0, 3), (1, 3), (2, 3), (3, 4)], 4, .agg #[.int .i64 0, .int .i64 0, .int .i64 0, .bool false], 32, [.int .i64, .int .i64, .int .i64, .bool]⟩ := tyok (by kernel_rfl) (by kernel_rfl)
theorem ty59 : TyOk Try.prog 59 ⟨.struct [(0, 3), (1, 3), (2, 3), (3, 51), (7, 51)], 11, .agg #[.int .i64 0, .int .i64 0, .int .i64 0, .int .i64 0, .int .i64 0, .int .i64 0, .slice none 0 0, .int .i64 0, .int .i64 0, .int .i64 0, .slice none 0 0], 120, [.int .i64, .int .i64, .int .i64, .int .i64, .int .i64, .int .i64, .slice, .int .i64, .int .i64, .int .i64, .slice]⟩ := tyok (by kernel_rfl) (by kernel_rfl)
theorem ty61 : TyOk Try.prog 61 ⟨.struct [(0, 3), (1, 3), (2, 3), (3, 4)], 4, .agg #[.int .i64 0, .int .i64 0, .int .i64 0, .bool false], 32, [.int .i64, .int .i64, .int .i64, .bool]⟩ := tyok (by kernel_rfl) (by kernel_rfl)
theorem ty66 : TyOk Try.prog 66 ⟨.arr 4 3, 4, .agg #[.int .i64 0, .int .i64 0, .int .i64 0, .int .i64 0], 32, [.int .i64, .int .i64, .int .i64, .int .i64]⟩ := tyok (by kernel_rfl) (by kernel_rfl)
theorem ty68 : TyOk Try.prog 68 ⟨.slice 120, 1, .slice none 0 0, 24, [.slice]⟩ := tyok (by kernel_rfl) (by kernel_rfl)
theorem ty70 : TyOk Try.prog 70 ⟨.struct [(0, 68), (1, 3), (2, 3), (3, 3)], 4, .agg #[.slice none 0 0, .int .i64 0, .int .i64 0, .int .i64 0], 48, [.slice, .int .i64, .int .i64, .int .i64]⟩ := tyok (by kernel_rfl) (by kernel_rfl)
theorem ty74 : TyOk Try.prog 74 ⟨.arr 3 3, 3, .agg #[.int .i64 0, .int .i64 0, .int .i64 0], 24, [.int .i64, .int .i64, .int .i64]⟩ := tyok (by kernel_rfl) (by kernel_rfl)
theorem ty75 : TyOk Try.prog 75 ⟨.struct [(0, 68), (1, 3), (2, 3), (3, 3)], 4, .agg #[.slice none 0 0, .int .i64 0, .int .i64 0, .int .i64 0], 48, [.slice, .int .i64, .int .i64, .int .i64]⟩ := tyok (by kernel_rfl) (by kernel_rfl)
theorem ty80 : TyOk Try.prog 80 ⟨.slice 56, 1, .slice none 0 0, 24, [.slice]⟩ := tyok (by kernel_rfl) (by kernel_rfl)
theorem ty82 : TyOk Try.prog 82 ⟨.slice 61, 1, .slice none 0 0, 24, [.slice]⟩ := tyok (by kernel_rfl) (by kernel_rfl)
theorem ty88 : TyOk Try.prog 88 ⟨.slice 59, 1, .slice none 0 0, 24, [.slice]⟩ := tyok (by kernel_rfl) (by kernel_rfl)
theorem ty90 : TyOk Try.prog 90 ⟨.slice 53, 1, .slice none 0 0, 24, [.slice]⟩ := tyok (by kernel_rfl) (by kernel_rfl)
theorem ty114 : TyOk Try.prog 114 ⟨.struct [(0, 3), (1, 3)], 2, .agg #[.int .i64 0, .int .i64 0], 16, [.int .i64, .int .i64]⟩ := tyok (by kernel_rfl) (by kernel_rfl)
theorem fn21 : FnOk Try.prog 21 := fnok Try.func21 (by kernel_rfl) (by kernel_rfl)
theorem fn22 : FnOk Try.prog 22 := fnok Try.func22 (by kernel_rfl) (by kernel_rfl)
theorem fn23 : FnOk Try.prog 23 := fnok Try.func23 (by kernel_rfl) (by kernel_rfl)
theorem fn24 : FnOk Try.prog 24 := fnok Try.func24 (by kernel_rfl) (by kernel_rfl)
theorem fn25 : FnOk Try.prog 25 := fnok Try.func25 (by kernel_rfl) (by kernel_rfl)
theorem fn26 : FnOk Try.prog 26 := fnok Try.func26 (by kernel_rfl) (by kernel_rfl)
theorem fn27 : FnOk Try.prog 27 := fnok Try.func27 (by kernel_rfl) (by kernel_rfl)
theorem fn28 : FnOk Try.prog 28 := fnok Try.func28 (by kernel_rfl) (by kernel_rfl)
theorem fn29 : FnOk Try.prog 29 := fnok Try.func29 (by kernel_rfl) (by kernel_rfl)
theorem fn30 : FnOk Try.prog 30 := fnok Try.func30 (by kernel_rfl) (by kernel_rfl)
theorem fn31 : FnOk Try.prog 31 := fnok Try.func31 (by kernel_rfl) (by kernel_rfl)
theorem fn32 : FnOk Try.prog 32 := fnok Try.func32 (by kernel_rfl) (by kernel_rfl)
theorem fn33 : FnOk Try.prog 33 := fnok Try.func33 (by kernel_rfl) (by kernel_rfl)
theorem fn58 : FnOk Try.prog 58 := fnok Try.func58 (by kernel_rfl) (by kernel_rfl)
theorem fn59 : FnOk Try.prog 59 := fnok Try.func59 (by kernel_rfl) (by kernel_rfl)
theorem fn60 : FnOk Try.prog 60 := fnok Try.func60 (by kernel_rfl) (by kernel_rfl)
theorem fn61 : FnOk Try.prog 61 := fnok Try.func61 (by kernel_rfl) (by kernel_rfl)
theorem fn62 : FnOk Try.prog 62 := fnok Try.func62 (by kernel_rfl) (by kernel_rfl)
theorem fn63 : FnOk Try.prog 63 := fnok Try.func63 (by kernel_rfl) (by kernel_rfl)
theorem fn64 : FnOk Try.prog 64 := fnok Try.func64 (by kernel_rfl) (by kernel_rfl)
theorem fn97 : FnOk Try.prog 97 := fnok Try.func97 (by kernel_rfl) (by kernel_rfl)
theorem fn98 : FnOk Try.prog 98 := fnok Try.func98 (by kernel_rfl) (by kernel_rfl)
theorem fn123 : FnOk Try.prog 123 := fnok Try.func123 (by kernel_rfl) (by kernel_rfl)
theorem eqt56 : EqTy Try.prog 56 := ⟨by kernel_rfl, by kernel_rfl, by kernel_rfl⟩
theorem envOk : EOk Try.prog env := ⟨(by simp only [env, List.forall_mem_cons, List.not_mem_nil, false_implies, implies_true, and_true]; exact ⟨ty3, ty4, ty23, ty43, ty49, ty51, ty53, ty56, ty59, ty61, ty66, ty68, ty70, ty74, ty75, ty80, ty82, ty88, ty90, ty114⟩), (by simp only [env, List.forall_mem_cons, List.not_mem_nil, false_implies, implies_true, and_true]; exact ⟨fn21, fn22, fn23, fn24, fn25, fn26, fn27, fn28, fn29, fn30, fn31, fn32, fn33, fn58, fn59, fn60, fn61, fn62, fn63, fn64, fn97, fn98, fn123⟩), by kernel_rfl, (by simp only [env, List.forall_mem_cons, List.not_mem_nil, false_implies, implies_true, and_true]; exact eqt56)⟩
/-- purser/grant.Make -/
def make_vc (x0_0 : Int) (x0_1 : Int) (x0_2 : Int) (x0_3 : Int) (x0_4 : Int) (x0_5 : Int) (a0_6 : Option Addr) (n0_6 : Nat) (c0_6 : Nat) (x0_7 : Int) (x0_8 : Int) (x0_9 : Int) (a0_10 : Option Addr) (n0_10 : Nat) (c0_10 : Nat) (x1 : Int) (x2 : Int) (w : World) (K : Value → World → Prop) : Prop :=
  newO w (.cells #[.int .i64 x0_0, .int .i64 x0_1, .int .i64 x0_2, .int .i64 x0_3, .int .i64 x0_4, .int .i64 x0_5, .slice a0_6 n0_6 c0_6, .int .i64 x0_7, .int .i64 x0_8, .int .i64 x0_9, .slice a0_10 n0_10 c0_10] 59) fun g w_2 =>
  newO w_2 (.cells #[.int .i64 0, .int .i64 0, .int .i64 0, .bool false] 56) fun g_2 w_3 =>
  Calls Try.prog 58 #[.agg #[.int .i64 x0_0, .int .i64 x0_1, .int .i64 x0_2, .int .i64 x0_3, .int .i64 x0_4, .int .i64 x0_5, .slice a0_6 n0_6 c0_6, .int .i64 x0_7, .int .i64 x0_8, .int .i64 x0_9, .slice a0_10 n0_10 c0_10], .int .i64 x1, .int .i64 x2] w_3 fun e w_4 => KeepG [g_2, g] w_3 w_4 ∧
  ∃ (x15_0 : Int) (x15_1 : Int) (x15_2 : Int),
  e = .returned (.tuple #[.int .i64 x15_0, .int .i64 x15_1, .int .i64 x15_2]) ∧
  br (decide (x15_2 ≠ 0)) (
    ∀ w_5 : World, BoxSt g_2 w_4 w_5 →
    K (.tuple #[.agg #[.int .i64 0, .int .i64 0, .int .i64 0, .bool false], .int .i64 1]) w_5
  ) (
    br (decide (x2 < 1)) (
      ∀ w_6 : World, BoxSt g_2 w_4 w_6 →
      K (.tuple #[.agg #[.int .i64 0, .int .i64 0, .int .i64 0, .bool false], .int .i64 1]) w_6
    ) (
      br (decide (x15_0 = 0)) (
        ∀ w_7 : World, BoxSt g_2 w_4 w_7 →
        K (.tuple #[.agg #[.int .i64 0, .int .i64 0, .int .i64 0, .bool false], .int .i64 9]) w_7
      ) (
        ∀ w_8 : World, BoxSt g_2 w_4 w_8 →
        K (.tuple #[.agg #[.int .i64 x0_3, .int .i64 x15_0, .int .i64 x15_1, .bool (decide (x15_0 < x2))], .int .i64 0]) w_8
      )
    )
  )
def make_notes : Notes := ⟨[], [], []⟩
theorem make_calls (x0_0 : Int) (x0_1 : Int) (x0_2 : Int) (x0_3 : Int) (x0_4 : Int) (x0_5 : Int) (a0_6 : Option Addr) (n0_6 : Nat) (c0_6 : Nat) (x0_7 : Int) (x0_8 : Int) (x0_9 : Int) (a0_10 : Option Addr) (n0_10 : Nat) (c0_10 : Nat) (x1 : Int) (x2 : Int) (w : World) (K : Value → World → Prop) (h : make_vc x0_0 x0_1 x0_2 x0_3 x0_4 x0_5 a0_6 n0_6 c0_6 x0_7 x0_8 x0_9 a0_10 n0_10 c0_10 x1 x2 w K) : Calls Try.prog 22 #[.agg #[.int .i64 x0_0, .int .i64 x0_1, .int .i64 x0_2, .int .i64 x0_3, .int .i64 x0_4, .int .i64 x0_5, .slice a0_6 n0_6 c0_6, .int .i64 x0_7, .int .i64 x0_8, .int .i64 x0_9, .slice a0_10 n0_10 c0_10], .int .i64 x1, .int .i64 x2] w fun e w' => ∃ v, e = .returned v ∧ K v w' :=
  calls_of_fvc envOk Try.func22 make_notes [3, 6] [.agg #[.int .i64 x0_0, .int .i64 x0_1, .int .i64 x0_2, .int .i64 x0_3, .int .i64 x0_4, .int .i64 x0_5, .slice a0_6 n0_6 c0_6, .int .i64 x0_7, .int .i64 x0_8, .int .i64 x0_9, .slice a0_10 n0_10 c0_10], .int .i64 x1, .int .i64 x2] w K (use_vc h (by as_aux_lemma => kernel_rfl))
/-- purser/grant.apart$1 -/
def apart1_vc (x0_0 : Int) (x0_1 : Int) (x0_2 : Int) (x0_3 : Int) (x0_4 : Int) (x0_5 : Int) (a0_6 : Option Addr) (n0_6 : Nat) (c0_6 : Nat) (x0_7 : Int) (x0_8 : Int) (x0_9 : Int) (a0_10 : Option Addr) (n0_10 : Nat) (c0_10 : Nat) (p1 : Option Addr) (w : World) (K : Value → World → Prop) : Prop :=
  newO w (.cells #[.int .i64 x0_0, .int .i64 x0_1, .int .i64 x0_2, .int .i64 x0_3, .int .i64 x0_4, .int .i64 x0_5, .slice a0_6 n0_6 c0_6, .int .i64 x0_7, .int .i64 x0_8, .int .i64 x0_9, .slice a0_10 n0_10 c0_10] 59) fun g w_2 =>
  withP p1 fun g7 o7 =>
  ∃ (x9 : Int), w_2.cell? ⟨g7, o7 + 3, none⟩ = some (.int .i64 x9) ∧
  K (.bool (decide (x0_3 = x9))) w_2
def apart1_notes : Notes := ⟨[], [], []⟩
theorem apart1_calls (x0_0 : Int) (x0_1 : Int) (x0_2 : Int) (x0_3 : Int) (x0_4 : Int) (x0_5 : Int) (a0_6 : Option Addr) (n0_6 : Nat) (c0_6 : Nat) (x0_7 : Int) (x0_8 : Int) (x0_9 : Int) (a0_10 : Option Addr) (n0_10 : Nat) (c0_10 : Nat) (p1 : Option Addr) (w : World) (K : Value → World → Prop) (h : apart1_vc x0_0 x0_1 x0_2 x0_3 x0_4 x0_5 a0_6 n0_6 c0_6 x0_7 x0_8 x0_9 a0_10 n0_10 c0_10 p1 w K) : Calls Try.prog 98 #[.agg #[.int .i64 x0_0, .int .i64 x0_1, .int .i64 x0_2, .int .i64 x0_3, .int .i64 x0_4, .int .i64 x0_5, .slice a0_6 n0_6 c0_6, .int .i64 x0_7, .int .i64 x0_8, .int .i64 x0_9, .slice a0_10 n0_10 c0_10], .pointer p1] w fun e w' => ∃ v, e = .returned v ∧ K v w' :=
  calls_of_fvc envOk Try.func98 apart1_notes [2] [.agg #[.int .i64 x0_0, .int .i64 x0_1, .int .i64 x0_2, .int .i64 x0_3, .int .i64 x0_4, .int .i64 x0_5, .slice a0_6 n0_6 c0_6, .int .i64 x0_7, .int .i64 x0_8, .int .i64 x0_9, .slice a0_10 n0_10 c0_10], .pointer p1] w K (use_vc h (by as_aux_lemma => kernel_rfl))
/-- slices.IndexFunc[[]purser/tariff.Plan,purser/tariff.Plan] -/
def gindex_vc (a0 : Option Addr) (n0 : Nat) (c0 : Nat) (p1_0 : Option Addr) (w : World) (K : Value → World → Prop) : Prop :=
  ∃ (I : Int → World → Prop) (μ : Int → World → Nat),
  I 0 w ∧
  ∀ (x8 : Int) (w_2 : World), I x8 w_2 →
  br (decide (x8 < ((n0 : Nat) : Int))) (
    withP a0 fun g14 o14 =>
    (0 : Int) ≤ x8 ∧ x8 < (((n0 : Nat) : Int) : Int) ∧
    ∃ (x15_0 : Int) (x15_1 : Int) (x15_2 : Int) (x15_3 : Int) (x15_4 : Int) (x15_5 : Int) (a15_6 : Option Addr) (n15_6 : Nat) (c15_6 : Nat) (x15_7 : Int) (x15_8 : Int) (x15_9 : Int) (a15_10 : Option Addr) (n15_10 : Nat) (c15_10 : Nat),
    cellsAt w_2 g14 (o14 + x8.toNat * 11) [.int .i64 x15_0, .int .i64 x15_1, .int .i64 x15_2, .int .i64 x15_3, .int .i64 x15_4, .int .i64 x15_5, .slice a15_6 n15_6 c15_6, .int .i64 x15_7, .int .i64 x15_8, .int .i64 x15_9, .slice a15_10 n15_10 c15_10] ∧
    Calls Try.prog 98 #[.agg #[.int .i64 x15_0, .int .i64 x15_1, .int .i64 x15_2, .int .i64 x15_3, .int .i64 x15_4, .int .i64 x15_5, .slice a15_6 n15_6 c15_6, .int .i64 x15_7, .int .i64 x15_8, .int .i64 x15_9, .slice a15_10 n15_10 c15_10], .pointer p1_0] w_2 fun e w_3 => KeepG [] w_2 w_3 ∧
    ∃ (b16 : Bool),
    e = .returned (.bool b16) ∧
    br b16 (
      K (.int .i64 x8) w_3
    ) (
      I (IntKind.i64.wrap (x8 + 1)) w_3 ∧ μ (IntKind.i64.wrap (x8 + 1)) w_3 < μ x8 w_2
    )
  ) (
    K (.int .i64 (-1)) w_2
  )
def gindex_notes : Notes := ⟨[], [(2, ⟨[(8, .lf (.int .i64))], [], [9, 10, 5, 11, 12, 13, 14, 15, 16, 17, 4, 18, 8], []⟩)], []⟩
theorem gindex_calls (a0 : Option Addr) (n0 : Nat) (c0 : Nat) (p1_0 : Option Addr) (w : World) (K : Value → World → Prop) (h : gindex_vc a0 n0 c0 p1_0 w K) : Calls Try.prog 123 #[.slice a0 n0 c0, .func (.func 98) #[] #[.pointer p1_0]] w fun e w' => ∃ v, e = .returned v ∧ K v w' :=
  calls_of_fvc envOk Try.func123 gindex_notes [] [.slice a0 n0 c0, .func (.func 98) #[] #[.pointer p1_0]] w K (use_vc h (by as_aux_lemma => kernel_rfl))
/-- slices.ContainsFunc[[]purser/tariff.Plan,purser/tariff.Plan] -/
def gcontains_vc (a0 : Option Addr) (n0 : Nat) (c0 : Nat) (p1_0 : Option Addr) (w : World) (K : Value → World → Prop) : Prop :=
  Calls Try.prog 123 #[.slice a0 n0 c0, .func (.func 98) #[] #[.pointer p1_0]] w fun e w_2 => KeepG [] w w_2 ∧
  ∃ (x7 : Int),
  e = .returned (.int .i64 x7) ∧
  K (.bool (decide (x7 ≥ 0))) w_2
def gcontains_notes : Notes := ⟨[], [], []⟩
theorem gcontains_calls (a0 : Option Addr) (n0 : Nat) (c0 : Nat) (p1_0 : Option Addr) (w : World) (K : Value → World → Prop) (h : gcontains_vc a0 n0 c0 p1_0 w K) : Calls Try.prog 97 #[.slice a0 n0 c0, .func (.func 98) #[] #[.pointer p1_0]] w fun e w' => ∃ v, e = .returned v ∧ K v w' :=
  calls_of_fvc envOk Try.func97 gcontains_notes [] [.slice a0 n0 c0, .func (.func 98) #[] #[.pointer p1_0]] w K (use_vc h (by as_aux_lemma => kernel_rfl))
/-- purser/grant.apart -/
def apart_vc (a0 : Option Addr) (n0 : Nat) (c0 : Nat) (w : World) (K : Value → World → Prop) : Prop :=
  ∃ (I : Int → World → Prop) (μ : Int → World → Nat),
  I 0 w ∧
  ∀ (x7 : Int) (w_2 : World), I x7 w_2 →
  br (decide (x7 < ((n0 : Nat) : Int))) (
    withP a0 fun g10 o10 =>
    (0 : Int) ≤ x7 ∧ x7 < (((n0 : Nat) : Int) : Int) ∧
    ∃ (x11_0 : Int) (x11_1 : Int) (x11_2 : Int) (x11_3 : Int) (x11_4 : Int) (x11_5 : Int) (a11_6 : Option Addr) (n11_6 : Nat) (c11_6 : Nat) (x11_7 : Int) (x11_8 : Int) (x11_9 : Int) (a11_10 : Option Addr) (n11_10 : Nat) (c11_10 : Nat),
    cellsAt w_2 g10 (o10 + x7.toNat * 11) [.int .i64 x11_0, .int .i64 x11_1, .int .i64 x11_2, .int .i64 x11_3, .int .i64 x11_4, .int .i64 x11_5, .slice a11_6 n11_6 c11_6, .int .i64 x11_7, .int .i64 x11_8, .int .i64 x11_9, .slice a11_10 n11_10 c11_10] ∧
    newO w_2 (.cells #[.int .i64 0, .int .i64 0, .int .i64 0, .int .i64 0, .int .i64 0, .int .i64 0, .slice none 0 0, .int .i64 0, .int .i64 0, .int .i64 0, .slice none 0 0] 59) fun g w_3 =>
    stO [] w_3 g 0 [.int .i64 x11_0, .int .i64 x11_1, .int .i64 x11_2, .int .i64 x11_3, .int .i64 x11_4, .int .i64 x11_5, .slice a11_6 n11_6 c11_6, .int .i64 x11_7, .int .i64 x11_8, .int .i64 x11_9, .slice a11_10 n11_10 c11_10] fun w_4 =>
    (0 : Int) ≤ x7 ∧ x7 ≤ (((c0 : Nat) : Int) : Int) ∧
    Calls Try.prog 97 #[.slice a0 x7.toNat c0, .func (.func 98) #[] #[.pointer (some ⟨g, 0, none⟩)]] w_4 fun e w_5 => KeepG [] w_4 w_5 ∧
    ∃ (b16 : Bool),
    e = .returned (.bool b16) ∧
    br b16 (
      K (.bool false) w_5
    ) (
      I (IntKind.i64.wrap (x7 + 1)) w_5 ∧ μ (IntKind.i64.wrap (x7 + 1)) w_5 < μ x7 w_2
    )
  ) (
    K (.bool true) w_2
  )
def apart_notes : Notes := ⟨[], [(2, ⟨[(7, .lf (.int .i64))], [], [8, 9, 10, 11, 4, 3, 12, 13, 14, 15, 16, 2, 17, 7], []⟩)], []⟩
theorem apart_calls (a0 : Option Addr) (n0 : Nat) (c0 : Nat) (w : World) (K : Value → World → Prop) (h : apart_vc a0 n0 c0 w K) : Calls Try.prog 64 #[.slice a0 n0 c0] w fun e w' => ∃ v, e = .returned v ∧ K v w' :=
  calls_of_fvc envOk Try.func64 apart_notes [] [.slice a0 n0 c0] w K (use_vc h (by as_aux_lemma => kernel_rfl))
/-- purser/grant.Many -/
def many_k1 (K : Value → World → Prop) (I : Int → Option Addr → Nat → Nat → Bool → Int → World → Prop) (μ : Int → Option Addr → Nat → Nat → Bool → Int → World → Nat) (x1_2 : Int) (a8 : Option Addr) (n8 : Nat) (c8 : Nat) (b9 : Bool) (x36 : Int) (w_3 : World) (x40_3 : Int) (g : Nat) (x13 : Int) (g_3 : Nat) (x12_0 : Int) (x12_1 : Int) (x12_2 : Int) (b12_3 : Bool) (w_10 : World) : Prop :=
  br (decide (x13 = 0)) (
    newO w_10 (.cells #[.int .i64 x12_0, .int .i64 x12_1, .int .i64 x12_2, .bool b12_3] 56) fun g_4 w_11 =>
    appO Try.prog [g_3, g] w_11 56 4 32 80 a8 n8 c8 (.slice (some ⟨g_4, 0, none⟩) 1 1) fun m68 a68 c68 w_12 =>
    I (IntKind.i64.wrap (x1_2 - x12_2)) a68 (n8 + m68) c68 true (IntKind.i64.wrap (x36 + 1)) w_12 ∧ μ (IntKind.i64.wrap (x1_2 - x12_2)) a68 (n8 + m68) c68 true (IntKind.i64.wrap (x36 + 1)) w_12 < μ x1_2 a8 n8 c8 b9 x36 w_3
  ) (
    br (decide (x13 = 9)) (
      ∀ w_13 : World, BoxSt g_3 w_10 w_13 →
      newO w_13 (.cells #[.int .i64 x40_3, .int .i64 0, .int .i64 0, .bool true] 56) fun g_5 w_14 =>
      appO Try.prog [g_3, g] w_14 56 4 32 80 a8 n8 c8 (.slice (some ⟨g_5, 0, none⟩) 1 1) fun m68_2 a68_2 c68_2 w_15 =>
      I (IntKind.i64.wrap (x1_2 - 0)) a68_2 (n8 + m68_2) c68_2 b9 (IntKind.i64.wrap (x36 + 1)) w_15 ∧ μ (IntKind.i64.wrap (x1_2 - 0)) a68_2 (n8 + m68_2) c68_2 b9 (IntKind.i64.wrap (x36 + 1)) w_15 < μ x1_2 a8 n8 c8 b9 x36 w_3
    ) (
      K (.tuple #[.slice none 0 0, .int .i64 x13]) w_10
    )
  )
def many_vc (a0 : Option Addr) (n0 : Nat) (c0 : Nat) (x1 : Int) (a2 : Option Addr) (n2 : Nat) (c2 : Nat) (w : World) (K : Value → World → Prop) : Prop :=
  br (decide (((n0 : Nat) : Int) < 1)) (
    K (.tuple #[.slice none 0 0, .int .i64 1]) w
  ) (
    br (decide (((n0 : Nat) : Int) > 4)) (
      K (.tuple #[.slice none 0 0, .int .i64 1]) w
    ) (
      br (decide (((n0 : Nat) : Int) ≠ ((n2 : Nat) : Int))) (
        K (.tuple #[.slice none 0 0, .int .i64 1]) w
      ) (
        Calls Try.prog 64 #[.slice a0 n0 c0] w fun e w_2 => KeepG [] w w_2 ∧
        ∃ (b31 : Bool),
        e = .returned (.bool b31) ∧
        br (!b31) (
          K (.tuple #[.slice none 0 0, .int .i64 1]) w_2
        ) (
          ∃ (I : Int → Option Addr → Nat → Nat → Bool → Int → World → Prop) (μ : Int → Option Addr → Nat → Nat → Bool → Int → World → Nat),
          I x1 none 0 0 false 0 w_2 ∧
          ∀ (x1_2 : Int) (a8 : Option Addr) (n8 : Nat) (c8 : Nat) (b9 : Bool) (x36 : Int) (w_3 : World), I x1_2 a8 n8 c8 b9 x36 w_3 →
          br (decide (x36 < ((n0 : Nat) : Int))) (
            withP a0 fun g39 o39 =>
            (0 : Int) ≤ x36 ∧ x36 < (((n0 : Nat) : Int) : Int) ∧
            ∃ (x40_0 : Int) (x40_1 : Int) (x40_2 : Int) (x40_3 : Int) (x40_4 : Int) (x40_5 : Int) (a40_6 : Option Addr) (n40_6 : Nat) (c40_6 : Nat) (x40_7 : Int) (x40_8 : Int) (x40_9 : Int) (a40_10 : Option Addr) (n40_10 : Nat) (c40_10 : Nat),
            cellsAt w_3 g39 (o39 + x36.toNat * 11) [.int .i64 x40_0, .int .i64 x40_1, .int .i64 x40_2, .int .i64 x40_3, .int .i64 x40_4, .int .i64 x40_5, .slice a40_6 n40_6 c40_6, .int .i64 x40_7, .int .i64 x40_8, .int .i64 x40_9, .slice a40_10 n40_10 c40_10] ∧
            newO w_3 (.cells #[.int .i64 0, .int .i64 0, .int .i64 0, .int .i64 0, .int .i64 0, .int .i64 0, .slice none 0 0, .int .i64 0, .int .i64 0, .int .i64 0, .slice none 0 0] 59) fun g w_4 =>
            ∀ w_5 : World, BoxSt g w_4 w_5 →
            drewO w_5 fun w_6 =>
            withP a2 fun g46 o46 =>
            (0 : Int) ≤ x36 ∧ x36 < (((n2 : Nat) : Int) : Int) ∧
            ∃ (x47 : Int), w_6.cell? ⟨g46, o46 + x36.toNat * 1, none⟩ = some (.int .i64 x47) ∧
            (
              Calls Try.prog 22 #[.agg #[.int .i64 x40_0, .int .i64 x40_1, .int .i64 x40_2, .int .i64 x40_3, .int .i64 x40_4, .int .i64 x40_5, .slice a40_6 n40_6 c40_6, .int .i64 x40_7, .int .i64 x40_8, .int .i64 x40_9, .slice a40_10 n40_10 c40_10], .int .i64 x1_2, .int .i64 x47] w_6 fun e_2 w_7 => KeepG [g] w_6 w_7 ∧
              ∃ (x48_0_0 : Int) (x48_0_1 : Int) (x48_0_2 : Int) (b48_0_3 : Bool) (x48_1 : Int),
              e_2 = .returned (.tuple #[.agg #[.int .i64 x48_0_0, .int .i64 x48_0_1, .int .i64 x48_0_2, .bool b48_0_3], .int .i64 x48_1]) ∧
              newO w_7 (.cells #[.int .i64 0, .int .i64 0, .int .i64 0, .bool false] 56) fun g_2 w_8 =>
              ∀ w_9 : World, BoxSt g_2 w_8 w_9 →
              many_k1 K I μ x1_2 a8 n8 c8 b9 x36 w_3 x40_3 g x48_1 g_2 x48_0_0 x48_0_1 x48_0_2 b48_0_3 w_9
            ) ∧
            (
              newO w_6 (.cells #[.int .i64 0, .int .i64 0, .int .i64 0, .bool false] 56) fun g_6 w_16 =>
              w_16.cell? ⟨g46, o46 + x36.toNat * 1, none⟩ = some (.int .i64 x47) ∧
              Calls Try.prog 22 #[.agg #[.int .i64 x40_0, .int .i64 x40_1, .int .i64 x40_2, .int .i64 x40_3, .int .i64 x40_4, .int .i64 x40_5, .slice a40_6 n40_6 c40_6, .int .i64 x40_7, .int .i64 x40_8, .int .i64 x40_9, .slice a40_10 n40_10 c40_10], .int .i64 x1_2, .int .i64 x47] w_16 fun e_3 w_17 => KeepG [g_6, g] w_16 w_17 ∧
              ∃ (x48_0_0_2 : Int) (x48_0_1_2 : Int) (x48_0_2_2 : Int) (b48_0_3_2 : Bool) (x48_1_2 : Int),
              e_3 = .returned (.tuple #[.agg #[.int .i64 x48_0_0_2, .int .i64 x48_0_1_2, .int .i64 x48_0_2_2, .bool b48_0_3_2], .int .i64 x48_1_2]) ∧
              ∀ w_18 : World, BoxSt g_6 w_17 w_18 →
              many_k1 K I μ x1_2 a8 n8 c8 b9 x36 w_3 x40_3 g x48_1_2 g_6 x48_0_0_2 x48_0_1_2 x48_0_2_2 b48_0_3_2 w_18
            )
          ) (
            br (!b9) (
              K (.tuple #[.slice none 0 0, .int .i64 9]) w_3
            ) (
              K (.tuple #[.slice a8 n8 c8, .int .i64 0]) w_3
            )
          )
        )
      )
    )
  )
def many_notes : Notes := ⟨[(8, ⟨[0, 0, 0, 0, 12, 28, 63, 127, 255, 255, 0, 1535, 4095], [6, 10, 11], [0, 1, 2, 3, 4, 5, 7, 8, 9, 12]⟩)], [(6, ⟨[(1, .lf (.int .i64)), (8, .lf (.slice)), (9, .lf (.bool)), (36, .lf (.int .i64))], [], [37, 38, 39, 40, 11, 10, 42, 43, 44, 45, 46, 47, 48, 41, 49, 50, 12, 13, 51, 54, 53, 9, 56, 55, 57, 58, 59, 60, 52, 6, 7, 61, 62, 63, 64, 1, 65, 66, 67, 68, 8, 69, 36], [11, 12]⟩)], []⟩
theorem many_calls (a0 : Option Addr) (n0 : Nat) (c0 : Nat) (x1 : Int) (a2 : Option Addr) (n2 : Nat) (c2 : Nat) (w : World) (K : Value → World → Prop) (h : many_vc a0 n0 c0 x1 a2 n2 c2 w K) : Calls Try.prog 32 #[.slice a0 n0 c0, .int .i64 x1, .slice a2 n2 c2] w fun e w' => ∃ v, e = .returned v ∧ K v w' :=
  calls_of_fvc envOk Try.func32 many_notes [11, 12] [.slice a0 n0 c0, .int .i64 x1, .slice a2 n2 c2] w K (use_vc h (by as_aux_lemma => kernel_rfl))
/-- purser/grant.Settle -/
def settle_vc (x0_0 : Int) (x0_1 : Int) (x0_2 : Int) (b0_3 : Bool) (x1_0 : Int) (x1_1 : Int) (x1_2 : Int) (x1_3 : Int) (x1_4 : Int) (x1_5 : Int) (a1_6 : Option Addr) (n1_6 : Nat) (c1_6 : Nat) (x1_7 : Int) (x1_8 : Int) (x1_9 : Int) (a1_10 : Option Addr) (n1_10 : Nat) (c1_10 : Nat) (x2 : Int) (x3 : Int) (x4 : Int) (w : World) (K : Value → World → Prop) : Prop :=
  newO w (.cells #[.int .i64 x0_0, .int .i64 x0_1, .int .i64 x0_2, .bool b0_3] 56) fun g w_2 =>
  newO w_2 (.cells #[.int .i64 x1_0, .int .i64 x1_1, .int .i64 x1_2, .int .i64 x1_3, .int .i64 x1_4, .int .i64 x1_5, .slice a1_6 n1_6 c1_6, .int .i64 x1_7, .int .i64 x1_8, .int .i64 x1_9, .slice a1_10 n1_10 c1_10] 59) fun g_2 w_3 =>
  newO w_3 (.cells #[.slice none 0 0, .int .i64 0, .int .i64 0, .int .i64 0] 70) fun g_3 w_4 =>
  Calls Try.prog 60 #[.agg #[.int .i64 x1_0, .int .i64 x1_1, .int .i64 x1_2, .int .i64 x1_3, .int .i64 x1_4, .int .i64 x1_5, .slice a1_6 n1_6 c1_6, .int .i64 x1_7, .int .i64 x1_8, .int .i64 x1_9, .slice a1_10 n1_10 c1_10], .int .i64 x2, .int .i64 x3, .int .i64 x4] w_4 fun e w_5 => KeepG [g_3, g_2, g] w_4 w_5 ∧
  ∃ (a20_0_0 : Option Addr) (n20_0_0 : Nat) (c20_0_0 : Nat) (x20_0_1 : Int) (x20_0_2 : Int) (x20_0_3 : Int) (x20_1 : Int),
  e = .returned (.tuple #[.agg #[.slice a20_0_0 n20_0_0 c20_0_0, .int .i64 x20_0_1, .int .i64 x20_0_2, .int .i64 x20_0_3], .int .i64 x20_1]) ∧
  newO w_5 (.cells #[.slice none 0 0, .int .i64 0, .int .i64 0, .int .i64 0] 70) fun g_4 w_6 =>
  ∀ w_7 : World, BoxSt g_4 w_6 w_7 →
  br (decide (x20_1 ≠ 0)) (
    ∀ w_8 : World, BoxSt g_3 w_7 w_8 →
    K (.tuple #[.agg #[.slice none 0 0, .int .i64 0, .int .i64 0, .int .i64 0], .int .i64 0, .int .i64 1]) w_8
  ) (
    br (decide (x0_0 ≠ x1_3)) (
      ∀ w_9 : World, BoxSt g_3 w_7 w_9 →
      K (.tuple #[.agg #[.slice none 0 0, .int .i64 0, .int .i64 0, .int .i64 0], .int .i64 0, .int .i64 1]) w_9
    ) (
      br (decide (x0_1 < 0)) (
        ∀ w_10 : World, BoxSt g_3 w_7 w_10 →
        K (.tuple #[.agg #[.slice none 0 0, .int .i64 0, .int .i64 0, .int .i64 0], .int .i64 0, .int .i64 1]) w_10
      ) (
        br (decide (x0_2 < 0)) (
          ∀ w_11 : World, BoxSt g_3 w_7 w_11 →
          K (.tuple #[.agg #[.slice none 0 0, .int .i64 0, .int .i64 0, .int .i64 0], .int .i64 0, .int .i64 1]) w_11
        ) (
          br (decide (x4 > x0_1)) (
            ∀ w_12 : World, BoxSt g_3 w_7 w_12 →
            K (.tuple #[.agg #[.slice none 0 0, .int .i64 0, .int .i64 0, .int .i64 0], .int .i64 0, .int .i64 19]) w_12
          ) (
            br (decide (x20_0_2 > x0_2)) (
              ∀ w_13 : World, BoxSt g_3 w_7 w_13 →
              K (.tuple #[.agg #[.slice none 0 0, .int .i64 0, .int .i64 0, .int .i64 0], .int .i64 0, .int .i64 20]) w_13
            ) (
              drewO w_7 fun w_14 =>
              ∀ w_15 : World, BoxSt g_3 w_14 w_15 →
              K (.tuple #[.agg #[.slice a20_0_0 n20_0_0 c20_0_0, .int .i64 x20_0_1, .int .i64 x20_0_2, .int .i64 x20_0_3], .int .i64 (IntKind.i64.wrap (x0_2 - x20_0_2)), .int .i64 0]) w_15
            )
          )
        )
      )
    )
  )
def settle_notes : Notes := ⟨[(8, ⟨[0, 0, 2, 0, 8, 30, 1, 127, 255], [6], [0, 1, 2, 3, 4, 5, 7, 8]⟩)], [], []⟩
theorem settle_calls (x0_0 : Int) (x0_1 : Int) (x0_2 : Int) (b0_3 : Bool) (x1_0 : Int) (x1_1 : Int) (x1_2 : Int) (x1_3 : Int) (x1_4 : Int) (x1_5 : Int) (a1_6 : Option Addr) (n1_6 : Nat) (c1_6 : Nat) (x1_7 : Int) (x1_8 : Int) (x1_9 : Int) (a1_10 : Option Addr) (n1_10 : Nat) (c1_10 : Nat) (x2 : Int) (x3 : Int) (x4 : Int) (w : World) (K : Value → World → Prop) (h : settle_vc x0_0 x0_1 x0_2 b0_3 x1_0 x1_1 x1_2 x1_3 x1_4 x1_5 a1_6 n1_6 c1_6 x1_7 x1_8 x1_9 a1_10 n1_10 c1_10 x2 x3 x4 w K) : Calls Try.prog 27 #[.agg #[.int .i64 x0_0, .int .i64 x0_1, .int .i64 x0_2, .bool b0_3], .agg #[.int .i64 x1_0, .int .i64 x1_1, .int .i64 x1_2, .int .i64 x1_3, .int .i64 x1_4, .int .i64 x1_5, .slice a1_6 n1_6 c1_6, .int .i64 x1_7, .int .i64 x1_8, .int .i64 x1_9, .slice a1_10 n1_10 c1_10], .int .i64 x2, .int .i64 x3, .int .i64 x4] w fun e w' => ∃ v, e = .returned v ∧ K v w' :=
  calls_of_fvc envOk Try.func27 settle_notes [5, 6, 10, 13] [.agg #[.int .i64 x0_0, .int .i64 x0_1, .int .i64 x0_2, .bool b0_3], .agg #[.int .i64 x1_0, .int .i64 x1_1, .int .i64 x1_2, .int .i64 x1_3, .int .i64 x1_4, .int .i64 x1_5, .slice a1_6 n1_6 c1_6, .int .i64 x1_7, .int .i64 x1_8, .int .i64 x1_9, .slice a1_10 n1_10 c1_10], .int .i64 x2, .int .i64 x3, .int .i64 x4] w K (use_vc h (by as_aux_lemma => kernel_rfl))
/-- purser/grant.Held -/
def held_vc (a0 : Option Addr) (n0 : Nat) (c0 : Nat) (w : World) (K : Value → World → Prop) : Prop :=
  ∃ (I : Option Addr → Nat → Nat → Int → World → Prop) (μ : Option Addr → Nat → Nat → Int → World → Nat),
  I none 0 0 0 w ∧
  ∀ (a3 : Option Addr) (n3 : Nat) (c3 : Nat) (x10 : Int) (w_2 : World), I a3 n3 c3 x10 w_2 →
  br (decide (x10 < ((n0 : Nat) : Int))) (
    withP a0 fun g12 o12 =>
    (0 : Int) ≤ x10 ∧ x10 < (((n0 : Nat) : Int) : Int) ∧
    ∃ (x13_0 : Int) (x13_1 : Int) (x13_2 : Int) (b13_3 : Bool),
    cellsAt w_2 g12 (o12 + x10.toNat * 4) [.int .i64 x13_0, .int .i64 x13_1, .int .i64 x13_2, .bool b13_3] ∧
    newO w_2 (.cells #[.int .i64 0, .int .i64 0, .int .i64 0, .bool false] 56) fun g w_3 =>
    ∀ w_4 : World, BoxSt g w_3 w_4 →
    newO w_4 (.cells #[.int .i64 x13_2] 3) fun g_2 w_5 =>
    appO Try.prog [g] w_5 3 1 8 23 a3 n3 c3 (.slice (some ⟨g_2, 0, none⟩) 1 1) fun m18 a18 c18 w_6 =>
    I a18 (n3 + m18) c18 (IntKind.i64.wrap (x10 + 1)) w_6 ∧ μ a18 (n3 + m18) c18 (IntKind.i64.wrap (x10 + 1)) w_6 < μ a3 n3 c3 x10 w_2
  ) (
    Calls Try.prog 62 #[.slice a3 n3 c3] w_2 fun e w_7 => KeepG [] w_2 w_7 ∧
    ∃ (x22_0 : Int) (b22_1 : Bool),
    e = .returned (.tuple #[.int .i64 x22_0, .bool b22_1]) ∧
    K (.int .i64 x22_0) w_7
  )
def held_notes : Notes := ⟨[], [(3, ⟨[(3, .lf (.slice)), (10, .lf (.int .i64))], [], [11, 12, 13, 5, 14, 15, 16, 17, 18, 3, 19, 10], [5]⟩)], []⟩
theorem held_calls (a0 : Option Addr) (n0 : Nat) (c0 : Nat) (w : World) (K : Value → World → Prop) (h : held_vc a0 n0 c0 w K) : Calls Try.prog 30 #[.slice a0 n0 c0] w fun e w' => ∃ v, e = .returned v ∧ K v w' :=
  calls_of_fvc envOk Try.func30 held_notes [5] [.slice a0 n0 c0] w K (use_vc h (by as_aux_lemma => kernel_rfl))
/-- purser/purserref16.Make -/
def rmake_vc (x0_0 : Int) (x0_1 : Int) (x0_2 : Int) (x0_3 : Int) (x0_4 : Int) (x0_5 : Int) (a0_6 : Option Addr) (n0_6 : Nat) (c0_6 : Nat) (x0_7 : Int) (x0_8 : Int) (x0_9 : Int) (a0_10 : Option Addr) (n0_10 : Nat) (c0_10 : Nat) (x1 : Int) (x2 : Int) (w : World) (K : Value → World → Prop) : Prop :=
  newO w (.cells #[.int .i64 x0_0, .int .i64 x0_1, .int .i64 x0_2, .int .i64 x0_3, .int .i64 x0_4, .int .i64 x0_5, .slice a0_6 n0_6 c0_6, .int .i64 x0_7, .int .i64 x0_8, .int .i64 x0_9, .slice a0_10 n0_10 c0_10] 53) fun g w_2 =>
  newO w_2 (.cells #[.int .i64 0, .int .i64 0, .int .i64 0, .bool false] 61) fun g_2 w_3 =>
  Calls Try.prog 59 #[.agg #[.int .i64 x0_0, .int .i64 x0_1, .int .i64 x0_2, .int .i64 x0_3, .int .i64 x0_4, .int .i64 x0_5, .slice a0_6 n0_6 c0_6, .int .i64 x0_7, .int .i64 x0_8, .int .i64 x0_9, .slice a0_10 n0_10 c0_10], .int .i64 x1, .int .i64 x2] w_3 fun e w_4 => KeepG [g_2, g] w_3 w_4 ∧
  ∃ (x15_0 : Int) (x15_1 : Int) (x15_2 : Int),
  e = .returned (.tuple #[.int .i64 x15_0, .int .i64 x15_1, .int .i64 x15_2]) ∧
  br (decide (x15_2 ≠ 0)) (
    ∀ w_5 : World, BoxSt g_2 w_4 w_5 →
    K (.tuple #[.agg #[.int .i64 0, .int .i64 0, .int .i64 0, .bool false], .int .i64 1]) w_5
  ) (
    br (decide (x2 < 1)) (
      ∀ w_6 : World, BoxSt g_2 w_4 w_6 →
      K (.tuple #[.agg #[.int .i64 0, .int .i64 0, .int .i64 0, .bool false], .int .i64 1]) w_6
    ) (
      br (decide (x15_0 = 0)) (
        ∀ w_7 : World, BoxSt g_2 w_4 w_7 →
        K (.tuple #[.agg #[.int .i64 0, .int .i64 0, .int .i64 0, .bool false], .int .i64 9]) w_7
      ) (
        ∀ w_8 : World, BoxSt g_2 w_4 w_8 →
        K (.tuple #[.agg #[.int .i64 x0_3, .int .i64 x15_0, .int .i64 x15_1, .bool (decide (x15_0 < x2))], .int .i64 0]) w_8
      )
    )
  )
def rmake_notes : Notes := ⟨[], [], []⟩
theorem rmake_calls (x0_0 : Int) (x0_1 : Int) (x0_2 : Int) (x0_3 : Int) (x0_4 : Int) (x0_5 : Int) (a0_6 : Option Addr) (n0_6 : Nat) (c0_6 : Nat) (x0_7 : Int) (x0_8 : Int) (x0_9 : Int) (a0_10 : Option Addr) (n0_10 : Nat) (c0_10 : Nat) (x1 : Int) (x2 : Int) (w : World) (K : Value → World → Prop) (h : rmake_vc x0_0 x0_1 x0_2 x0_3 x0_4 x0_5 a0_6 n0_6 c0_6 x0_7 x0_8 x0_9 a0_10 n0_10 c0_10 x1 x2 w K) : Calls Try.prog 24 #[.agg #[.int .i64 x0_0, .int .i64 x0_1, .int .i64 x0_2, .int .i64 x0_3, .int .i64 x0_4, .int .i64 x0_5, .slice a0_6 n0_6 c0_6, .int .i64 x0_7, .int .i64 x0_8, .int .i64 x0_9, .slice a0_10 n0_10 c0_10], .int .i64 x1, .int .i64 x2] w fun e w' => ∃ v, e = .returned v ∧ K v w' :=
  calls_of_fvc envOk Try.func24 rmake_notes [3, 6] [.agg #[.int .i64 x0_0, .int .i64 x0_1, .int .i64 x0_2, .int .i64 x0_3, .int .i64 x0_4, .int .i64 x0_5, .slice a0_6 n0_6 c0_6, .int .i64 x0_7, .int .i64 x0_8, .int .i64 x0_9, .slice a0_10 n0_10 c0_10], .int .i64 x1, .int .i64 x2] w K (use_vc h (by as_aux_lemma => kernel_rfl))
/-- purser/purserref16.Many -/
def rmany_k1 (I_3 : Int → Option Addr → Nat → Nat → Bool → Bool → Int → World → Prop) (μ_3 : Int → Option Addr → Nat → Nat → Bool → Bool → Int → World → Nat) (a0 : Option Addr) (n0 : Nat) (x1_2 : Int) (a10 : Option Addr) (n10 : Nat) (c10 : Nat) (b11 : Bool) (b12 : Bool) (x13 : Int) (w_5 : World) (x15 : Int) (g_2 : Nat) (x14_0 : Int) (x14_1 : Int) (x14_2 : Int) (b14_3 : Bool) (w_10 : World) : Prop :=
  br (decide (x15 = 0)) (
    newO w_10 (.cells #[.int .i64 x14_0, .int .i64 x14_1, .int .i64 x14_2, .bool b14_3] 61) fun g_3 w_11 =>
    appO Try.prog [g_2] w_11 61 4 32 82 a10 n10 c10 (.slice (some ⟨g_3, 0, none⟩) 1 1) fun m93 a93 c93 w_12 =>
    I_3 (IntKind.i64.wrap (x1_2 - x14_2)) a93 (n10 + m93) c93 true b12 (IntKind.i64.wrap (x13 + 1)) w_12 ∧ μ_3 (IntKind.i64.wrap (x1_2 - x14_2)) a93 (n10 + m93) c93 true b12 (IntKind.i64.wrap (x13 + 1)) w_12 < μ_3 x1_2 a10 n10 c10 b11 b12 x13 w_5
  ) (
    br (decide (x15 = 9)) (
      withP a0 fun g85 o85 =>
      (0 : Int) ≤ x13 ∧ x13 < (((n0 : Nat) : Int) : Int) ∧
      ∃ (x88 : Int), w_10.cell? ⟨g85, o85 + x13.toNat * 11 + 3, none⟩ = some (.int .i64 x88) ∧
      ∀ w_13 : World, BoxSt g_2 w_10 w_13 →
      newO w_13 (.cells #[.int .i64 x88, .int .i64 0, .int .i64 0, .bool true] 61) fun g_4 w_14 =>
      appO Try.prog [g_2] w_14 61 4 32 82 a10 n10 c10 (.slice (some ⟨g_4, 0, none⟩) 1 1) fun m93_2 a93_2 c93_2 w_15 =>
      I_3 x1_2 a93_2 (n10 + m93_2) c93_2 b11 b12 (IntKind.i64.wrap (x13 + 1)) w_15 ∧ μ_3 x1_2 a93_2 (n10 + m93_2) c93_2 b11 b12 (IntKind.i64.wrap (x13 + 1)) w_15 < μ_3 x1_2 a10 n10 c10 b11 b12 x13 w_5
    ) (
      newO w_10 (.cells #[.int .i64 x14_0, .int .i64 x14_1, .int .i64 x14_2, .bool b14_3] 61) fun g_5 w_16 =>
      appO Try.prog [g_2] w_16 61 4 32 82 a10 n10 c10 (.slice (some ⟨g_5, 0, none⟩) 1 1) fun m93_3 a93_3 c93_3 w_17 =>
      I_3 x1_2 a93_3 (n10 + m93_3) c93_3 b11 true (IntKind.i64.wrap (x13 + 1)) w_17 ∧ μ_3 x1_2 a93_3 (n10 + m93_3) c93_3 b11 true (IntKind.i64.wrap (x13 + 1)) w_17 < μ_3 x1_2 a10 n10 c10 b11 b12 x13 w_5
    )
  )
def rmany_vc (a0 : Option Addr) (n0 : Nat) (c0 : Nat) (x1 : Int) (a2 : Option Addr) (n2 : Nat) (c2 : Nat) (w : World) (K : Value → World → Prop) : Prop :=
  br (decide (((n0 : Nat) : Int) < 1)) (
    K (.tuple #[.slice none 0 0, .int .i64 1]) w
  ) (
    br (decide (((n0 : Nat) : Int) > 4)) (
      K (.tuple #[.slice none 0 0, .int .i64 1]) w
    ) (
      br (decide (((n0 : Nat) : Int) ≠ ((n2 : Nat) : Int))) (
        K (.tuple #[.slice none 0 0, .int .i64 1]) w
      ) (
        ∃ (I : Int → World → Prop) (μ : Int → World → Nat),
        I 0 w ∧
        ∀ (x8 : Int) (w_2 : World), I x8 w_2 →
        br (decide (x8 < ((n0 : Nat) : Int))) (
          ∃ (I_2 : Int → World → Prop) (μ_2 : Int → World → Nat),
          I_2 0 w_2 ∧
          ∀ (x9 : Int) (w_3 : World), I_2 x9 w_3 →
          br (decide (x9 < x8)) (
            drewO w_3 fun w_4 =>
            withP a0 fun g44 o44 =>
            (0 : Int) ≤ x8 ∧ x8 < (((n0 : Nat) : Int) : Int) ∧
            ∃ (x47 : Int), w_4.cell? ⟨g44, o44 + x8.toNat * 11 + 3, none⟩ = some (.int .i64 x47) ∧
            withP a0 fun g50 o50 =>
            (0 : Int) ≤ x9 ∧ x9 < (((n0 : Nat) : Int) : Int) ∧
            ∃ (x53 : Int), w_4.cell? ⟨g50, o50 + x9.toNat * 11 + 3, none⟩ = some (.int .i64 x53) ∧
            br (decide (x47 = x53)) (
              K (.tuple #[.slice none 0 0, .int .i64 1]) w_4
            ) (
              I_2 (IntKind.i64.wrap (x9 + 1)) w_4 ∧ μ_2 (IntKind.i64.wrap (x9 + 1)) w_4 < μ_2 x9 w_3
            )
          ) (
            I (IntKind.i64.wrap (x8 + 1)) w_3 ∧ μ (IntKind.i64.wrap (x8 + 1)) w_3 < μ x8 w_2
          )
        ) (
          ∃ (I_3 : Int → Option Addr → Nat → Nat → Bool → Bool → Int → World → Prop) (μ_3 : Int → Option Addr → Nat → Nat → Bool → Bool → Int → World → Nat),
          I_3 x1 none 0 0 false false 0 w_2 ∧
          ∀ (x1_2 : Int) (a10 : Option Addr) (n10 : Nat) (c10 : Nat) (b11 : Bool) (b12 : Bool) (x13 : Int) (w_5 : World), I_3 x1_2 a10 n10 c10 b11 b12 x13 w_5 →
          br (decide (x13 < ((n0 : Nat) : Int))) (
            drewO w_5 fun w_6 =>
            withP a0 fun g64 o64 =>
            (0 : Int) ≤ x13 ∧ x13 < (((n0 : Nat) : Int) : Int) ∧
            ∃ (x65_0 : Int) (x65_1 : Int) (x65_2 : Int) (x65_3 : Int) (x65_4 : Int) (x65_5 : Int) (a65_6 : Option Addr) (n65_6 : Nat) (c65_6 : Nat) (x65_7 : Int) (x65_8 : Int) (x65_9 : Int) (a65_10 : Option Addr) (n65_10 : Nat) (c65_10 : Nat),
            cellsAt w_6 g64 (o64 + x13.toNat * 11) [.int .i64 x65_0, .int .i64 x65_1, .int .i64 x65_2, .int .i64 x65_3, .int .i64 x65_4, .int .i64 x65_5, .slice a65_6 n65_6 c65_6, .int .i64 x65_7, .int .i64 x65_8, .int .i64 x65_9, .slice a65_10 n65_10 c65_10] ∧
            withP a2 fun g69 o69 =>
            (0 : Int) ≤ x13 ∧ x13 < (((n2 : Nat) : Int) : Int) ∧
            ∃ (x70 : Int), w_6.cell? ⟨g69, o69 + x13.toNat * 1, none⟩ = some (.int .i64 x70) ∧
            (
              Calls Try.prog 24 #[.agg #[.int .i64 x65_0, .int .i64 x65_1, .int .i64 x65_2, .int .i64 x65_3, .int .i64 x65_4, .int .i64 x65_5, .slice a65_6 n65_6 c65_6, .int .i64 x65_7, .int .i64 x65_8, .int .i64 x65_9, .slice a65_10 n65_10 c65_10], .int .i64 x1_2, .int .i64 x70] w_6 fun e w_7 => KeepG [] w_6 w_7 ∧
              ∃ (x71_0_0 : Int) (x71_0_1 : Int) (x71_0_2 : Int) (b71_0_3 : Bool) (x71_1 : Int),
              e = .returned (.tuple #[.agg #[.int .i64 x71_0_0, .int .i64 x71_0_1, .int .i64 x71_0_2, .bool b71_0_3], .int .i64 x71_1]) ∧
              newO w_7 (.cells #[.int .i64 0, .int .i64 0, .int .i64 0, .bool false] 61) fun g w_8 =>
              ∀ w_9 : World, BoxSt g w_8 w_9 →
              rmany_k1 I_3 μ_3 a0 n0 x1_2 a10 n10 c10 b11 b12 x13 w_5 x71_1 g x71_0_0 x71_0_1 x71_0_2 b71_0_3 w_9
            ) ∧
            (
              newO w_6 (.cells #[.int .i64 0, .int .i64 0, .int .i64 0, .bool false] 61) fun g_6 w_18 =>
              cellsAt w_18 g64 (o64 + x13.toNat * 11) [.int .i64 x65_0, .int .i64 x65_1, .int .i64 x65_2, .int .i64 x65_3, .int .i64 x65_4, .int .i64 x65_5, .slice a65_6 n65_6 c65_6, .int .i64 x65_7, .int .i64 x65_8, .int .i64 x65_9, .slice a65_10 n65_10 c65_10] ∧
              w_18.cell? ⟨g69, o69 + x13.toNat * 1, none⟩ = some (.int .i64 x70) ∧
              Calls Try.prog 24 #[.agg #[.int .i64 x65_0, .int .i64 x65_1, .int .i64 x65_2, .int .i64 x65_3, .int .i64 x65_4, .int .i64 x65_5, .slice a65_6 n65_6 c65_6, .int .i64 x65_7, .int .i64 x65_8, .int .i64 x65_9, .slice a65_10 n65_10 c65_10], .int .i64 x1_2, .int .i64 x70] w_18 fun e_2 w_19 => KeepG [g_6] w_18 w_19 ∧
              ∃ (x71_0_0_2 : Int) (x71_0_1_2 : Int) (x71_0_2_2 : Int) (b71_0_3_2 : Bool) (x71_1_2 : Int),
              e_2 = .returned (.tuple #[.agg #[.int .i64 x71_0_0_2, .int .i64 x71_0_1_2, .int .i64 x71_0_2_2, .bool b71_0_3_2], .int .i64 x71_1_2]) ∧
              ∀ w_20 : World, BoxSt g_6 w_19 w_20 →
              rmany_k1 I_3 μ_3 a0 n0 x1_2 a10 n10 c10 b11 b12 x13 w_5 x71_1_2 g_6 x71_0_0_2 x71_0_1_2 x71_0_2_2 b71_0_3_2 w_20
            )
          ) (
            br b12 (
              K (.tuple #[.slice none 0 0, .int .i64 1]) w_5
            ) (
              br (!b11) (
                K (.tuple #[.slice none 0 0, .int .i64 9]) w_5
              ) (
                K (.tuple #[.slice a10 n10 c10, .int .i64 0]) w_5
              )
            )
          )
        )
      )
    )
  )
def rmany_notes : Notes := ⟨[(9, ⟨[0, 0, 3, 7, 15, 31, 0, 0, 192, 448, 960, 1984, 4095], [], [0, 1, 2, 3, 4, 5, 6, 7, 8, 9, 10, 11, 12]⟩), (16, ⟨[0, 0, 3, 7, 0, 0, 0, 96, 224, 511, 1023, 2047, 2047, 0, 12287, 32767], [9, 13, 14], [0, 1, 2, 3, 4, 5, 6, 7, 8, 10, 11, 12, 15]⟩)], [(4, ⟨[(8, .lf (.int .i64))], [], [31, 32, 33, 34, 9, 37, 38, 39, 42, 43, 44, 45, 46, 47, 48, 49, 50, 51, 52, 53, 54, 6, 7, 40, 41, 35, 36, 8], []⟩), (7, ⟨[(9, .lf (.int .i64))], [], [37, 38, 39, 42, 43, 44, 45, 46, 47, 48, 49, 50, 51, 52, 53, 54, 6, 7, 40, 41, 9], []⟩), (14, ⟨[(1, .lf (.int .i64)), (10, .lf (.slice)), (11, .lf (.bool)), (12, .lf (.bool)), (13, .lf (.int .i64))], [], [55, 56, 57, 58, 62, 63, 64, 65, 66, 67, 68, 69, 70, 71, 61, 72, 73, 14, 15, 74, 76, 75, 11, 77, 78, 79, 80, 1, 82, 81, 83, 84, 85, 86, 87, 88, 89, 12, 90, 91, 92, 93, 10, 59, 60, 13], [14]⟩)], []⟩
theorem rmany_calls (a0 : Option Addr) (n0 : Nat) (c0 : Nat) (x1 : Int) (a2 : Option Addr) (n2 : Nat) (c2 : Nat) (w : World) (K : Value → World → Prop) (h : rmany_vc a0 n0 c0 x1 a2 n2 c2 w K) : Calls Try.prog 33 #[.slice a0 n0 c0, .int .i64 x1, .slice a2 n2 c2] w fun e w' => ∃ v, e = .returned v ∧ K v w' :=
  calls_of_fvc envOk Try.func33 rmany_notes [14] [.slice a0 n0 c0, .int .i64 x1, .slice a2 n2 c2] w K (use_vc h (by as_aux_lemma => kernel_rfl))
/-- purser/purserref16.Settle -/
def rsettle_vc (x0_0 : Int) (x0_1 : Int) (x0_2 : Int) (b0_3 : Bool) (x1_0 : Int) (x1_1 : Int) (x1_2 : Int) (x1_3 : Int) (x1_4 : Int) (x1_5 : Int) (a1_6 : Option Addr) (n1_6 : Nat) (c1_6 : Nat) (x1_7 : Int) (x1_8 : Int) (x1_9 : Int) (a1_10 : Option Addr) (n1_10 : Nat) (c1_10 : Nat) (x2 : Int) (x3 : Int) (x4 : Int) (w : World) (K : Value → World → Prop) : Prop :=
  newO w (.cells #[.int .i64 x0_0, .int .i64 x0_1, .int .i64 x0_2, .bool b0_3] 61) fun g w_2 =>
  newO w_2 (.cells #[.int .i64 x1_0, .int .i64 x1_1, .int .i64 x1_2, .int .i64 x1_3, .int .i64 x1_4, .int .i64 x1_5, .slice a1_6 n1_6 c1_6, .int .i64 x1_7, .int .i64 x1_8, .int .i64 x1_9, .slice a1_10 n1_10 c1_10] 53) fun g_2 w_3 =>
  newO w_3 (.cells #[.slice none 0 0, .int .i64 0, .int .i64 0, .int .i64 0] 75) fun g_3 w_4 =>
  Calls Try.prog 61 #[.agg #[.int .i64 x1_0, .int .i64 x1_1, .int .i64 x1_2, .int .i64 x1_3, .int .i64 x1_4, .int .i64 x1_5, .slice a1_6 n1_6 c1_6, .int .i64 x1_7, .int .i64 x1_8, .int .i64 x1_9, .slice a1_10 n1_10 c1_10], .int .i64 x2, .int .i64 x3, .int .i64 x4] w_4 fun e w_5 => KeepG [g_3, g_2, g] w_4 w_5 ∧
  ∃ (a20_0_0 : Option Addr) (n20_0_0 : Nat) (c20_0_0 : Nat) (x20_0_1 : Int) (x20_0_2 : Int) (x20_0_3 : Int) (x20_1 : Int),
  e = .returned (.tuple #[.agg #[.slice a20_0_0 n20_0_0 c20_0_0, .int .i64 x20_0_1, .int .i64 x20_0_2, .int .i64 x20_0_3], .int .i64 x20_1]) ∧
  newO w_5 (.cells #[.slice none 0 0, .int .i64 0, .int .i64 0, .int .i64 0] 75) fun g_4 w_6 =>
  ∀ w_7 : World, BoxSt g_4 w_6 w_7 →
  br (decide (x20_1 ≠ 0)) (
    ∀ w_8 : World, BoxSt g_3 w_7 w_8 →
    K (.tuple #[.agg #[.slice none 0 0, .int .i64 0, .int .i64 0, .int .i64 0], .int .i64 0, .int .i64 1]) w_8
  ) (
    br (decide (x0_0 ≠ x1_3)) (
      ∀ w_9 : World, BoxSt g_3 w_7 w_9 →
      K (.tuple #[.agg #[.slice none 0 0, .int .i64 0, .int .i64 0, .int .i64 0], .int .i64 0, .int .i64 1]) w_9
    ) (
      br (decide (x0_1 < 0)) (
        ∀ w_10 : World, BoxSt g_3 w_7 w_10 →
        K (.tuple #[.agg #[.slice none 0 0, .int .i64 0, .int .i64 0, .int .i64 0], .int .i64 0, .int .i64 1]) w_10
      ) (
        br (decide (x0_2 < 0)) (
          ∀ w_11 : World, BoxSt g_3 w_7 w_11 →
          K (.tuple #[.agg #[.slice none 0 0, .int .i64 0, .int .i64 0, .int .i64 0], .int .i64 0, .int .i64 1]) w_11
        ) (
          br (decide (x4 > x0_1)) (
            ∀ w_12 : World, BoxSt g_3 w_7 w_12 →
            K (.tuple #[.agg #[.slice none 0 0, .int .i64 0, .int .i64 0, .int .i64 0], .int .i64 0, .int .i64 19]) w_12
          ) (
            br (decide (x20_0_2 > x0_2)) (
              ∀ w_13 : World, BoxSt g_3 w_7 w_13 →
              K (.tuple #[.agg #[.slice none 0 0, .int .i64 0, .int .i64 0, .int .i64 0], .int .i64 0, .int .i64 20]) w_13
            ) (
              drewO w_7 fun w_14 =>
              ∀ w_15 : World, BoxSt g_3 w_14 w_15 →
              K (.tuple #[.agg #[.slice a20_0_0 n20_0_0 c20_0_0, .int .i64 x20_0_1, .int .i64 x20_0_2, .int .i64 x20_0_3], .int .i64 (IntKind.i64.wrap (x0_2 - x20_0_2)), .int .i64 0]) w_15
            )
          )
        )
      )
    )
  )
def rsettle_notes : Notes := ⟨[(8, ⟨[0, 0, 2, 0, 8, 30, 1, 127, 255], [6], [0, 1, 2, 3, 4, 5, 7, 8]⟩)], [], []⟩
theorem rsettle_calls (x0_0 : Int) (x0_1 : Int) (x0_2 : Int) (b0_3 : Bool) (x1_0 : Int) (x1_1 : Int) (x1_2 : Int) (x1_3 : Int) (x1_4 : Int) (x1_5 : Int) (a1_6 : Option Addr) (n1_6 : Nat) (c1_6 : Nat) (x1_7 : Int) (x1_8 : Int) (x1_9 : Int) (a1_10 : Option Addr) (n1_10 : Nat) (c1_10 : Nat) (x2 : Int) (x3 : Int) (x4 : Int) (w : World) (K : Value → World → Prop) (h : rsettle_vc x0_0 x0_1 x0_2 b0_3 x1_0 x1_1 x1_2 x1_3 x1_4 x1_5 a1_6 n1_6 c1_6 x1_7 x1_8 x1_9 a1_10 n1_10 c1_10 x2 x3 x4 w K) : Calls Try.prog 28 #[.agg #[.int .i64 x0_0, .int .i64 x0_1, .int .i64 x0_2, .bool b0_3], .agg #[.int .i64 x1_0, .int .i64 x1_1, .int .i64 x1_2, .int .i64 x1_3, .int .i64 x1_4, .int .i64 x1_5, .slice a1_6 n1_6 c1_6, .int .i64 x1_7, .int .i64 x1_8, .int .i64 x1_9, .slice a1_10 n1_10 c1_10], .int .i64 x2, .int .i64 x3, .int .i64 x4] w fun e w' => ∃ v, e = .returned v ∧ K v w' :=
  calls_of_fvc envOk Try.func28 rsettle_notes [5, 6, 10, 13] [.agg #[.int .i64 x0_0, .int .i64 x0_1, .int .i64 x0_2, .bool b0_3], .agg #[.int .i64 x1_0, .int .i64 x1_1, .int .i64 x1_2, .int .i64 x1_3, .int .i64 x1_4, .int .i64 x1_5, .slice a1_6 n1_6 c1_6, .int .i64 x1_7, .int .i64 x1_8, .int .i64 x1_9, .slice a1_10 n1_10 c1_10], .int .i64 x2, .int .i64 x3, .int .i64 x4] w K (use_vc h (by as_aux_lemma => kernel_rfl))
/-- purser/purserref16.Held -/
def rheld_vc (a0 : Option Addr) (n0 : Nat) (c0 : Nat) (w : World) (K : Value → World → Prop) : Prop :=
  ∃ (I : Option Addr → Nat → Nat → Int → World → Prop) (μ : Option Addr → Nat → Nat → Int → World → Nat),
  I none 0 0 0 w ∧
  ∀ (a3 : Option Addr) (n3 : Nat) (c3 : Nat) (x4 : Int) (w_2 : World), I a3 n3 c3 x4 w_2 →
  br (decide (x4 < ((n0 : Nat) : Int))) (
    withP a0 fun g16 o16 =>
    (0 : Int) ≤ x4 ∧ x4 < (((n0 : Nat) : Int) : Int) ∧
    ∃ (x18 : Int), w_2.cell? ⟨g16, o16 + x4.toNat * 4 + 2, none⟩ = some (.int .i64 x18) ∧
    newO w_2 (.cells #[.int .i64 x18] 3) fun g w_3 =>
    appO Try.prog [] w_3 3 1 8 23 a3 n3 c3 (.slice (some ⟨g, 0, none⟩) 1 1) fun m20 a20 c20 w_4 =>
    I a20 (n3 + m20) c20 (IntKind.i64.wrap (x4 + 1)) w_4 ∧ μ a20 (n3 + m20) c20 (IntKind.i64.wrap (x4 + 1)) w_4 < μ a3 n3 c3 x4 w_2
  ) (
    Calls Try.prog 63 #[.slice a3 n3 c3] w_2 fun e w_5 => KeepG [] w_2 w_5 ∧
    ∃ (x23_0 : Int) (b23_1 : Bool),
    e = .returned (.tuple #[.int .i64 x23_0, .bool b23_1]) ∧
    K (.int .i64 x23_0) w_5
  )
def rheld_notes : Notes := ⟨[], [(3, ⟨[(3, .lf (.slice)), (4, .lf (.int .i64))], [], [7, 8, 9, 10, 13, 14, 15, 16, 17, 18, 19, 20, 3, 11, 12, 4], []⟩)], []⟩
theorem rheld_calls (a0 : Option Addr) (n0 : Nat) (c0 : Nat) (w : World) (K : Value → World → Prop) (h : rheld_vc a0 n0 c0 w K) : Calls Try.prog 31 #[.slice a0 n0 c0] w fun e w' => ∃ v, e = .returned v ∧ K v w' :=
  calls_of_fvc envOk Try.func31 rheld_notes [] [.slice a0 n0 c0] w K (use_vc h (by as_aux_lemma => kernel_rfl))
/-- purser/purserlaw16.tame -/
def tame_vc (x0_0 : Int) (x0_1 : Int) (x0_2 : Int) (x0_3 : Int) (x0_4 : Int) (x0_5 : Int) (a0_6 : Option Addr) (n0_6 : Nat) (c0_6 : Nat) (x0_7 : Int) (x0_8 : Int) (x0_9 : Int) (a0_10 : Option Addr) (n0_10 : Nat) (c0_10 : Nat) (w : World) (K : Value → World → Prop) : Prop :=
  newO w (.cells #[.int .i64 x0_0, .int .i64 x0_1, .int .i64 x0_2, .int .i64 x0_3, .int .i64 x0_4, .int .i64 x0_5, .slice a0_6 n0_6 c0_6, .int .i64 x0_7, .int .i64 x0_8, .int .i64 x0_9, .slice a0_10 n0_10 c0_10] 53) fun g w_2 =>
  newO w_2 (.cells #[.int .i64 0, .int .i64 0, .int .i64 0, .int .i64 0, .int .i64 0, .int .i64 0, .slice none 0 0, .int .i64 0, .int .i64 0, .int .i64 0, .slice none 0 0] 53) fun g_2 w_3 =>
  newO w_3 (.cells #[] 114) fun g_3 w_4 =>
  (0 : Int) ≤ min ((n0_6 : Nat) : Int) 9 ∧ min ((n0_6 : Nat) : Int) 9 ≤ (((c0_6 : Nat) : Int) : Int) ∧
  appO Try.prog [g_2, g] w_4 114 2 16 49 (some ⟨g_3, 0, none⟩) 0 0 (.slice a0_6 ((min ((n0_6 : Nat) : Int) 9).toNat) c0_6) fun m13 a13 c13 w_5 =>
  ∀ w_6 : World, BoxSt g w_5 w_6 →
  newO w_6 (.cells #[] 114) fun g_4 w_7 =>
  (0 : Int) ≤ min ((n0_10 : Nat) : Int) 9 ∧ min ((n0_10 : Nat) : Int) 9 ≤ (((c0_10 : Nat) : Int) : Int) ∧
  appO Try.prog [g_2, g] w_7 114 2 16 49 (some ⟨g_4, 0, none⟩) 0 0 (.slice a0_10 ((min ((n0_10 : Nat) : Int) 9).toNat) c0_10) fun m26 a26 c26 w_8 =>
  ∀ w_9 : World, BoxSt g w_8 w_9 →
  ∀ w_10 : World, BoxSt g_2 w_9 w_10 →
  K (.agg #[.int .i64 x0_0, .int .i64 x0_1, .int .i64 x0_2, .int .i64 x0_3, .int .i64 x0_4, .int .i64 x0_5, .slice a13 (0 + m13) c13, .int .i64 x0_7, .int .i64 x0_8, .int .i64 x0_9, .slice a26 (0 + m26) c26]) w_10
def tame_notes : Notes := ⟨[], [], []⟩
theorem tame_calls (x0_0 : Int) (x0_1 : Int) (x0_2 : Int) (x0_3 : Int) (x0_4 : Int) (x0_5 : Int) (a0_6 : Option Addr) (n0_6 : Nat) (c0_6 : Nat) (x0_7 : Int) (x0_8 : Int) (x0_9 : Int) (a0_10 : Option Addr) (n0_10 : Nat) (c0_10 : Nat) (w : World) (K : Value → World → Prop) (h : tame_vc x0_0 x0_1 x0_2 x0_3 x0_4 x0_5 a0_6 n0_6 c0_6 x0_7 x0_8 x0_9 a0_10 n0_10 c0_10 w K) : Calls Try.prog 21 #[.agg #[.int .i64 x0_0, .int .i64 x0_1, .int .i64 x0_2, .int .i64 x0_3, .int .i64 x0_4, .int .i64 x0_5, .slice a0_6 n0_6 c0_6, .int .i64 x0_7, .int .i64 x0_8, .int .i64 x0_9, .slice a0_10 n0_10 c0_10]] w fun e w' => ∃ v, e = .returned v ∧ K v w' :=
  calls_of_fvc envOk Try.func21 tame_notes [1, 2] [.agg #[.int .i64 x0_0, .int .i64 x0_1, .int .i64 x0_2, .int .i64 x0_3, .int .i64 x0_4, .int .i64 x0_5, .slice a0_6 n0_6 c0_6, .int .i64 x0_7, .int .i64 x0_8, .int .i64 x0_9, .slice a0_10 n0_10 c0_10]] w K (use_vc h (by as_aux_lemma => kernel_rfl))
/-- purser/purserlaw16.to -/
def lto_vc (x0_0 : Int) (x0_1 : Int) (x0_2 : Int) (x0_3 : Int) (x0_4 : Int) (x0_5 : Int) (a0_6 : Option Addr) (n0_6 : Nat) (c0_6 : Nat) (x0_7 : Int) (x0_8 : Int) (x0_9 : Int) (a0_10 : Option Addr) (n0_10 : Nat) (c0_10 : Nat) (w : World) (K : Value → World → Prop) : Prop :=
  newO w (.cells #[.int .i64 x0_0, .int .i64 x0_1, .int .i64 x0_2, .int .i64 x0_3, .int .i64 x0_4, .int .i64 x0_5, .slice a0_6 n0_6 c0_6, .int .i64 x0_7, .int .i64 x0_8, .int .i64 x0_9, .slice a0_10 n0_10 c0_10] 53) fun g w_2 =>
  newO w_2 (.cells #[.int .i64 0, .int .i64 0, .int .i64 0, .int .i64 0, .int .i64 0, .int .i64 0, .slice none 0 0, .int .i64 0, .int .i64 0, .int .i64 0, .slice none 0 0] 59) fun g_2 w_3 =>
  ∀ w_4 : World, BoxSt g_2 w_3 w_4 →
  K (.agg #[.int .i64 x0_0, .int .i64 x0_1, .int .i64 x0_2, .int .i64 x0_3, .int .i64 x0_4, .int .i64 x0_5, .slice a0_6 n0_6 c0_6, .int .i64 x0_7, .int .i64 x0_8, .int .i64 x0_9, .slice a0_10 n0_10 c0_10]) w_4
def lto_notes : Notes := ⟨[], [], []⟩
theorem lto_calls (x0_0 : Int) (x0_1 : Int) (x0_2 : Int) (x0_3 : Int) (x0_4 : Int) (x0_5 : Int) (a0_6 : Option Addr) (n0_6 : Nat) (c0_6 : Nat) (x0_7 : Int) (x0_8 : Int) (x0_9 : Int) (a0_10 : Option Addr) (n0_10 : Nat) (c0_10 : Nat) (w : World) (K : Value → World → Prop) (h : lto_vc x0_0 x0_1 x0_2 x0_3 x0_4 x0_5 a0_6 n0_6 c0_6 x0_7 x0_8 x0_9 a0_10 n0_10 c0_10 w K) : Calls Try.prog 23 #[.agg #[.int .i64 x0_0, .int .i64 x0_1, .int .i64 x0_2, .int .i64 x0_3, .int .i64 x0_4, .int .i64 x0_5, .slice a0_6 n0_6 c0_6, .int .i64 x0_7, .int .i64 x0_8, .int .i64 x0_9, .slice a0_10 n0_10 c0_10]] w fun e w' => ∃ v, e = .returned v ∧ K v w' :=
  calls_of_fvc envOk Try.func23 lto_notes [1, 2] [.agg #[.int .i64 x0_0, .int .i64 x0_1, .int .i64 x0_2, .int .i64 x0_3, .int .i64 x0_4, .int .i64 x0_5, .slice a0_6 n0_6 c0_6, .int .i64 x0_7, .int .i64 x0_8, .int .i64 x0_9, .slice a0_10 n0_10 c0_10]] w K (use_vc h (by as_aux_lemma => kernel_rfl))
/-- purser/purserlaw16.grants -/
def grants_vc  (w : World) (K : Value → World → Prop) : Prop :=
  newO w (.cells #[.int .i64 0, .int .i64 3] 114) fun g w_2 =>
  newO w_2 (.cells #[.int .i64 0, .int .i64 0, .int .i64 0, .int .i64 0, .int .i64 0, .int .i64 0, .slice none 0 0, .int .i64 0, .int .i64 0, .int .i64 0, .slice none 0 0] 59) fun g_2 w_3 =>
  ∀ w_4 : World, BoxSt g_2 w_3 w_4 →
  Calls Try.prog 22 #[.agg #[.int .i64 0, .int .i64 0, .int .i64 0, .int .i64 1, .int .i64 1, .int .i64 10, .slice (some ⟨g, 0, none⟩) 1 1, .int .i64 0, .int .i64 0, .int .i64 0, .slice none 0 0], .int .i64 7, .int .i64 100] w_4 fun e w_5 => KeepG [g_2] w_4 w_5 ∧
  ∃ (x13_0_0 : Int) (x13_0_1 : Int) (x13_0_2 : Int) (b13_0_3 : Bool) (x13_1 : Int),
  e = .returned (.tuple #[.agg #[.int .i64 x13_0_0, .int .i64 x13_0_1, .int .i64 x13_0_2, .bool b13_0_3], .int .i64 x13_1]) ∧
  newO w_5 (.cells #[.int .i64 0, .int .i64 0, .int .i64 0, .bool false] 56) fun g_3 w_6 =>
  ∀ w_7 : World, BoxSt g_3 w_6 w_7 →
  Calls Try.prog 27 #[.agg #[.int .i64 x13_0_0, .int .i64 x13_0_1, .int .i64 x13_0_2, .bool b13_0_3], .agg #[.int .i64 0, .int .i64 0, .int .i64 0, .int .i64 1, .int .i64 1, .int .i64 10, .slice (some ⟨g, 0, none⟩) 1 1, .int .i64 0, .int .i64 0, .int .i64 0, .slice none 0 0], .int .i64 0, .int .i64 0, .int .i64 15] w_7 fun e_2 w_8 => KeepG [g_3, g_2] w_7 w_8 ∧
  ∃ (a19_0_0 : Option Addr) (n19_0_0 : Nat) (c19_0_0 : Nat) (x19_0_1 : Int) (x19_0_2 : Int) (x19_0_3 : Int) (x19_1 : Int) (x19_2 : Int),
  e_2 = .returned (.tuple #[.agg #[.slice a19_0_0 n19_0_0 c19_0_0, .int .i64 x19_0_1, .int .i64 x19_0_2, .int .i64 x19_0_3], .int .i64 x19_1, .int .i64 x19_2]) ∧
  newO w_8 (.cells #[.slice none 0 0, .int .i64 0, .int .i64 0, .int .i64 0] 70) fun g_4 w_9 =>
  ∀ w_10 : World, BoxSt g_4 w_9 w_10 →
  br (decide (x13_1 = 0)) (
    br (decide (x19_2 = 0)) (
      br ((decide (x13_0_0 = 1)) && ((decide (x13_0_1 = 20)) && ((decide (x13_0_2 = 6)) && ((decide (b13_0_3 = true)) && true)))) (
        br (decide (x19_0_2 = 6)) (
          K (.bool (decide (x19_1 = 0))) w_10
        ) (
          K (.bool false) w_10
        )
      ) (
        K (.bool false) w_10
      )
    ) (
      K (.bool false) w_10
    )
  ) (
    K (.bool false) w_10
  )
def grants_notes : Notes := ⟨[], [], []⟩
theorem grants_calls  (w : World) (K : Value → World → Prop) (h : grants_vc  w K) : Calls Try.prog 25 #[] w fun e w' => ∃ v, e = .returned v ∧ K v w' :=
  calls_of_fvc envOk Try.func25 grants_notes [1, 2, 4] [] w K (use_vc h (by as_aux_lemma => kernel_rfl))
/-- purser/purserlaw16.like -/
def like_vc (x0_0 : Int) (x0_1 : Int) (x0_2 : Int) (b0_3 : Bool) (x1_0 : Int) (x1_1 : Int) (x1_2 : Int) (b1_3 : Bool) (w : World) (K : Value → World → Prop) : Prop :=
  newO w (.cells #[.int .i64 x0_0, .int .i64 x0_1, .int .i64 x0_2, .bool b0_3] 56) fun g w_2 =>
  newO w_2 (.cells #[.int .i64 x1_0, .int .i64 x1_1, .int .i64 x1_2, .bool b1_3] 61) fun g_2 w_3 =>
  br (decide (x0_0 = x1_0)) (
    br (decide (x0_1 = x1_1)) (
      br (decide (x0_2 = x1_2)) (
        K (.bool (decide (b0_3 = b1_3))) w_3
      ) (
        K (.bool false) w_3
      )
    ) (
      K (.bool false) w_3
    )
  ) (
    K (.bool false) w_3
  )
def like_notes : Notes := ⟨[], [], []⟩
theorem like_calls (x0_0 : Int) (x0_1 : Int) (x0_2 : Int) (b0_3 : Bool) (x1_0 : Int) (x1_1 : Int) (x1_2 : Int) (b1_3 : Bool) (w : World) (K : Value → World → Prop) (h : like_vc x0_0 x0_1 x0_2 b0_3 x1_0 x1_1 x1_2 b1_3 w K) : Calls Try.prog 26 #[.agg #[.int .i64 x0_0, .int .i64 x0_1, .int .i64 x0_2, .bool b0_3], .agg #[.int .i64 x1_0, .int .i64 x1_1, .int .i64 x1_2, .bool b1_3]] w fun e w' => ∃ v, e = .returned v ∧ K v w' :=
  calls_of_fvc envOk Try.func26 like_notes [2, 3] [.agg #[.int .i64 x0_0, .int .i64 x0_1, .int .i64 x0_2, .bool b0_3], .agg #[.int .i64 x1_0, .int .i64 x1_1, .int .i64 x1_2, .bool b1_3]] w K (use_vc h (by as_aux_lemma => kernel_rfl))
/-- purser/purserlaw16.GrantMakes -/
def gmakes_vc (x0_0 : Int) (x0_1 : Int) (x0_2 : Int) (x0_3 : Int) (x0_4 : Int) (x0_5 : Int) (a0_6 : Option Addr) (n0_6 : Nat) (c0_6 : Nat) (x0_7 : Int) (x0_8 : Int) (x0_9 : Int) (a0_10 : Option Addr) (n0_10 : Nat) (c0_10 : Nat) (x1 : Int) (x2 : Int) (w : World) (K : Value → World → Prop) : Prop :=
  newO w (.cells #[.int .i64 x0_0, .int .i64 x0_1, .int .i64 x0_2, .int .i64 x0_3, .int .i64 x0_4, .int .i64 x0_5, .slice a0_6 n0_6 c0_6, .int .i64 x0_7, .int .i64 x0_8, .int .i64 x0_9, .slice a0_10 n0_10 c0_10] 53) fun g w_2 =>
  Calls Try.prog 21 #[.agg #[.int .i64 x0_0, .int .i64 x0_1, .int .i64 x0_2, .int .i64 x0_3, .int .i64 x0_4, .int .i64 x0_5, .slice a0_6 n0_6 c0_6, .int .i64 x0_7, .int .i64 x0_8, .int .i64 x0_9, .slice a0_10 n0_10 c0_10]] w_2 fun e w_3 => KeepG [g] w_2 w_3 ∧
  ∃ (x12_0 : Int) (x12_1 : Int) (x12_2 : Int) (x12_3 : Int) (x12_4 : Int) (x12_5 : Int) (a12_6 : Option Addr) (n12_6 : Nat) (c12_6 : Nat) (x12_7 : Int) (x12_8 : Int) (x12_9 : Int) (a12_10 : Option Addr) (n12_10 : Nat) (c12_10 : Nat),
  e = .returned (.agg #[.int .i64 x12_0, .int .i64 x12_1, .int .i64 x12_2, .int .i64 x12_3, .int .i64 x12_4, .int .i64 x12_5, .slice a12_6 n12_6 c12_6, .int .i64 x12_7, .int .i64 x12_8, .int .i64 x12_9, .slice a12_10 n12_10 c12_10]) ∧
  ∀ w_4 : World, BoxSt g w_3 w_4 →
  Calls Try.prog 23 #[.agg #[.int .i64 x12_0, .int .i64 x12_1, .int .i64 x12_2, .int .i64 x12_3, .int .i64 x12_4, .int .i64 x12_5, .slice a12_6 n12_6 c12_6, .int .i64 x12_7, .int .i64 x12_8, .int .i64 x12_9, .slice a12_10 n12_10 c12_10]] w_4 fun e_2 w_5 => KeepG [g] w_4 w_5 ∧
  ∃ (x15_0 : Int) (x15_1 : Int) (x15_2 : Int) (x15_3 : Int) (x15_4 : Int) (x15_5 : Int) (a15_6 : Option Addr) (n15_6 : Nat) (c15_6 : Nat) (x15_7 : Int) (x15_8 : Int) (x15_9 : Int) (a15_10 : Option Addr) (n15_10 : Nat) (c15_10 : Nat),
  e_2 = .returned (.agg #[.int .i64 x15_0, .int .i64 x15_1, .int .i64 x15_2, .int .i64 x15_3, .int .i64 x15_4, .int .i64 x15_5, .slice a15_6 n15_6 c15_6, .int .i64 x15_7, .int .i64 x15_8, .int .i64 x15_9, .slice a15_10 n15_10 c15_10]) ∧
  Calls Try.prog 22 #[.agg #[.int .i64 x15_0, .int .i64 x15_1, .int .i64 x15_2, .int .i64 x15_3, .int .i64 x15_4, .int .i64 x15_5, .slice a15_6 n15_6 c15_6, .int .i64 x15_7, .int .i64 x15_8, .int .i64 x15_9, .slice a15_10 n15_10 c15_10], .int .i64 x1, .int .i64 x2] w_5 fun e_3 w_6 => KeepG [g] w_5 w_6 ∧
  ∃ (x18_0_0 : Int) (x18_0_1 : Int) (x18_0_2 : Int) (b18_0_3 : Bool) (x18_1 : Int),
  e_3 = .returned (.tuple #[.agg #[.int .i64 x18_0_0, .int .i64 x18_0_1, .int .i64 x18_0_2, .bool b18_0_3], .int .i64 x18_1]) ∧
  newO w_6 (.cells #[.int .i64 0, .int .i64 0, .int .i64 0, .bool false] 56) fun g_2 w_7 =>
  ∀ w_8 : World, BoxSt g_2 w_7 w_8 →
  Calls Try.prog 24 #[.agg #[.int .i64 x12_0, .int .i64 x12_1, .int .i64 x12_2, .int .i64 x12_3, .int .i64 x12_4, .int .i64 x12_5, .slice a12_6 n12_6 c12_6, .int .i64 x12_7, .int .i64 x12_8, .int .i64 x12_9, .slice a12_10 n12_10 c12_10], .int .i64 x1, .int .i64 x2] w_8 fun e_4 w_9 => KeepG [g_2, g] w_8 w_9 ∧
  ∃ (x25_0_0 : Int) (x25_0_1 : Int) (x25_0_2 : Int) (b25_0_3 : Bool) (x25_1 : Int),
  e_4 = .returned (.tuple #[.agg #[.int .i64 x25_0_0, .int .i64 x25_0_1, .int .i64 x25_0_2, .bool b25_0_3], .int .i64 x25_1]) ∧
  newO w_9 (.cells #[.int .i64 0, .int .i64 0, .int .i64 0, .bool false] 61) fun g_3 w_10 =>
  ∀ w_11 : World, BoxSt g_3 w_10 w_11 →
  Calls Try.prog 25 #[] w_11 fun e_5 w_12 => KeepG [g_3, g_2, g] w_11 w_12 ∧
  ∃ (b28 : Bool),
  e_5 = .returned (.bool b28) ∧
  br b28 (
    br (decide (x18_1 = x25_1)) (
      Calls Try.prog 26 #[.agg #[.int .i64 x18_0_0, .int .i64 x18_0_1, .int .i64 x18_0_2, .bool b18_0_3], .agg #[.int .i64 x25_0_0, .int .i64 x25_0_1, .int .i64 x25_0_2, .bool b25_0_3]] w_12 fun e_6 w_13 => KeepG [g_3, g_2, g] w_12 w_13 ∧
      ∃ (b37 : Bool),
      e_6 = .returned (.bool b37) ∧
      K (.bool b37) w_13
    ) (
      K (.bool false) w_12
    )
  ) (
    K (.bool false) w_12
  )
def gmakes_notes : Notes := ⟨[], [], []⟩
theorem gmakes_calls (x0_0 : Int) (x0_1 : Int) (x0_2 : Int) (x0_3 : Int) (x0_4 : Int) (x0_5 : Int) (a0_6 : Option Addr) (n0_6 : Nat) (c0_6 : Nat) (x0_7 : Int) (x0_8 : Int) (x0_9 : Int) (a0_10 : Option Addr) (n0_10 : Nat) (c0_10 : Nat) (x1 : Int) (x2 : Int) (w : World) (K : Value → World → Prop) (h : gmakes_vc x0_0 x0_1 x0_2 x0_3 x0_4 x0_5 a0_6 n0_6 c0_6 x0_7 x0_8 x0_9 a0_10 n0_10 c0_10 x1 x2 w K) : Calls Try.prog 5 #[.agg #[.int .i64 x0_0, .int .i64 x0_1, .int .i64 x0_2, .int .i64 x0_3, .int .i64 x0_4, .int .i64 x0_5, .slice a0_6 n0_6 c0_6, .int .i64 x0_7, .int .i64 x0_8, .int .i64 x0_9, .slice a0_10 n0_10 c0_10], .int .i64 x1, .int .i64 x2] w fun e w' => ∃ v, e = .returned v ∧ K v w' :=
  calls_of_fvc envOk Try.func5 gmakes_notes [3, 7, 9] [.agg #[.int .i64 x0_0, .int .i64 x0_1, .int .i64 x0_2, .int .i64 x0_3, .int .i64 x0_4, .int .i64 x0_5, .slice a0_6 n0_6 c0_6, .int .i64 x0_7, .int .i64 x0_8, .int .i64 x0_9, .slice a0_10 n0_10 c0_10], .int .i64 x1, .int .i64 x2] w K (use_vc h (by as_aux_lemma => kernel_rfl))
/-- purser/purserlaw16.GrantMany -/
def gmany_vc (a0 : Option Addr) (n0 : Nat) (c0 : Nat) (x1 : Int) (a2 : Option Addr) (n2 : Nat) (c2 : Nat) (w : World) (K : Value → World → Prop) : Prop :=
  ∃ (J : Option Addr → Nat → Nat → Option Addr → Nat → Nat → World → Prop), (
    ∃ (I : Option Addr → Nat → Nat → Option Addr → Nat → Nat → Int → World → Prop) (μ : Option Addr → Nat → Nat → Option Addr → Nat → Nat → Int → World → Nat),
    I none 0 0 none 0 0 0 w ∧
    ∀ (a7 : Option Addr) (n7 : Nat) (c7 : Nat) (a8 : Option Addr) (n8 : Nat) (c8 : Nat) (x9 : Int) (w_2 : World), I a7 n7 c7 a8 n8 c8 x9 w_2 →
    br (decide (x9 < ((n0 : Nat) : Int))) (
      br (decide (x9 < 6)) (
        withP a0 fun g28 o28 =>
        (0 : Int) ≤ x9 ∧ x9 < (((n0 : Nat) : Int) : Int) ∧
        ∃ (x29_0 : Int) (x29_1 : Int) (x29_2 : Int) (x29_3 : Int) (x29_4 : Int) (x29_5 : Int) (a29_6 : Option Addr) (n29_6 : Nat) (c29_6 : Nat) (x29_7 : Int) (x29_8 : Int) (x29_9 : Int) (a29_10 : Option Addr) (n29_10 : Nat) (c29_10 : Nat),
        cellsAt w_2 g28 (o28 + x9.toNat * 11) [.int .i64 x29_0, .int .i64 x29_1, .int .i64 x29_2, .int .i64 x29_3, .int .i64 x29_4, .int .i64 x29_5, .slice a29_6 n29_6 c29_6, .int .i64 x29_7, .int .i64 x29_8, .int .i64 x29_9, .slice a29_10 n29_10 c29_10] ∧
        Calls Try.prog 21 #[.agg #[.int .i64 x29_0, .int .i64 x29_1, .int .i64 x29_2, .int .i64 x29_3, .int .i64 x29_4, .int .i64 x29_5, .slice a29_6 n29_6 c29_6, .int .i64 x29_7, .int .i64 x29_8, .int .i64 x29_9, .slice a29_10 n29_10 c29_10]] w_2 fun e w_3 => KeepG [] w_2 w_3 ∧
        ∃ (x30_0 : Int) (x30_1 : Int) (x30_2 : Int) (x30_3 : Int) (x30_4 : Int) (x30_5 : Int) (a30_6 : Option Addr) (n30_6 : Nat) (c30_6 : Nat) (x30_7 : Int) (x30_8 : Int) (x30_9 : Int) (a30_10 : Option Addr) (n30_10 : Nat) (c30_10 : Nat),
        e = .returned (.agg #[.int .i64 x30_0, .int .i64 x30_1, .int .i64 x30_2, .int .i64 x30_3, .int .i64 x30_4, .int .i64 x30_5, .slice a30_6 n30_6 c30_6, .int .i64 x30_7, .int .i64 x30_8, .int .i64 x30_9, .slice a30_10 n30_10 c30_10]) ∧
        newO w_3 (.cells #[.int .i64 x30_0, .int .i64 x30_1, .int .i64 x30_2, .int .i64 x30_3, .int .i64 x30_4, .int .i64 x30_5, .slice a30_6 n30_6 c30_6, .int .i64 x30_7, .int .i64 x30_8, .int .i64 x30_9, .slice a30_10 n30_10 c30_10] 53) fun g w_4 =>
        appO Try.prog [] w_4 53 11 120 90 a8 n8 c8 (.slice (some ⟨g, 0, none⟩) 1 1) fun m32 a32 c32 w_5 =>
        withP a32 fun g36 o36 =>
        (0 : Int) ≤ x9 ∧ x9 < (((n8 + m32 : Nat) : Int) : Int) ∧
        ∃ (x37_0 : Int) (x37_1 : Int) (x37_2 : Int) (x37_3 : Int) (x37_4 : Int) (x37_5 : Int) (a37_6 : Option Addr) (n37_6 : Nat) (c37_6 : Nat) (x37_7 : Int) (x37_8 : Int) (x37_9 : Int) (a37_10 : Option Addr) (n37_10 : Nat) (c37_10 : Nat),
        cellsAt w_5 g36 (o36 + x9.toNat * 11) [.int .i64 x37_0, .int .i64 x37_1, .int .i64 x37_2, .int .i64 x37_3, .int .i64 x37_4, .int .i64 x37_5, .slice a37_6 n37_6 c37_6, .int .i64 x37_7, .int .i64 x37_8, .int .i64 x37_9, .slice a37_10 n37_10 c37_10] ∧
        Calls Try.prog 23 #[.agg #[.int .i64 x37_0, .int .i64 x37_1, .int .i64 x37_2, .int .i64 x37_3, .int .i64 x37_4, .int .i64 x37_5, .slice a37_6 n37_6 c37_6, .int .i64 x37_7, .int .i64 x37_8, .int .i64 x37_9, .slice a37_10 n37_10 c37_10]] w_5 fun e_2 w_6 => KeepG [] w_5 w_6 ∧
        ∃ (x38_0 : Int) (x38_1 : Int) (x38_2 : Int) (x38_3 : Int) (x38_4 : Int) (x38_5 : Int) (a38_6 : Option Addr) (n38_6 : Nat) (c38_6 : Nat) (x38_7 : Int) (x38_8 : Int) (x38_9 : Int) (a38_10 : Option Addr) (n38_10 : Nat) (c38_10 : Nat),
        e_2 = .returned (.agg #[.int .i64 x38_0, .int .i64 x38_1, .int .i64 x38_2, .int .i64 x38_3, .int .i64 x38_4, .int .i64 x38_5, .slice a38_6 n38_6 c38_6, .int .i64 x38_7, .int .i64 x38_8, .int .i64 x38_9, .slice a38_10 n38_10 c38_10]) ∧
        newO w_6 (.cells #[.int .i64 x38_0, .int .i64 x38_1, .int .i64 x38_2, .int .i64 x38_3, .int .i64 x38_4, .int .i64 x38_5, .slice a38_6 n38_6 c38_6, .int .i64 x38_7, .int .i64 x38_8, .int .i64 x38_9, .slice a38_10 n38_10 c38_10] 59) fun g_2 w_7 =>
        appO Try.prog [] w_7 59 11 120 88 a7 n7 c7 (.slice (some ⟨g_2, 0, none⟩) 1 1) fun m40 a40 c40 w_8 =>
        I a40 (n7 + m40) c40 a32 (n8 + m32) c32 (IntKind.i64.wrap (x9 + 1)) w_8 ∧ μ a40 (n7 + m40) c40 a32 (n8 + m32) c32 (IntKind.i64.wrap (x9 + 1)) w_8 < μ a7 n7 c7 a8 n8 c8 x9 w_2
      ) (
        J a7 n7 c7 a8 n8 c8 w_2
      )
    ) (
      J a7 n7 c7 a8 n8 c8 w_2
    )
  ) ∧
  ∀ (a7_2 : Option Addr) (n7_2 : Nat) (c7_2 : Nat) (a8_2 : Option Addr) (n8_2 : Nat) (c8_2 : Nat) (w_9 : World), J a7_2 n7_2 c7_2 a8_2 n8_2 c8_2 w_9 →
  newO w_9 (.cells #[] 3) fun g_3 w_10 =>
  (0 : Int) ≤ min ((n2 : Nat) : Int) 6 ∧ min ((n2 : Nat) : Int) 6 ≤ (((c2 : Nat) : Int) : Int) ∧
  appO Try.prog [] w_10 3 1 8 23 (some ⟨g_3, 0, none⟩) 0 0 (.slice a2 ((min ((n2 : Nat) : Int) 6).toNat) c2) fun m47 a47 c47 w_11 =>
  Calls Try.prog 32 #[.slice a7_2 n7_2 c7_2, .int .i64 x1, .slice a47 (0 + m47) c47] w_11 fun e_3 w_12 => KeepG [] w_11 w_12 ∧
  ∃ (a52_0 : Option Addr) (n52_0 : Nat) (c52_0 : Nat) (x52_1 : Int),
  e_3 = .returned (.tuple #[.slice a52_0 n52_0 c52_0, .int .i64 x52_1]) ∧
  Calls Try.prog 33 #[.slice a8_2 n8_2 c8_2, .int .i64 x1, .slice a47 (0 + m47) c47] w_12 fun e_4 w_13 => KeepG [] w_12 w_13 ∧
  ∃ (a59_0 : Option Addr) (n59_0 : Nat) (c59_0 : Nat) (x59_1 : Int),
  e_4 = .returned (.tuple #[.slice a59_0 n59_0 c59_0, .int .i64 x59_1]) ∧
  Calls Try.prog 25 #[] w_13 fun e_5 w_14 => KeepG [] w_13 w_14 ∧
  ∃ (b62 : Bool),
  e_5 = .returned (.bool b62) ∧
  br (!b62) (
    K (.bool false) w_14
  ) (
    br (decide (x52_1 ≠ x59_1)) (
      K (.bool false) w_14
    ) (
      br (decide (((n52_0 : Nat) : Int) ≠ ((n59_0 : Nat) : Int))) (
        K (.bool false) w_14
      ) (
        ∃ (I_2 : Int → World → Prop) (μ_2 : Int → World → Nat),
        I_2 0 w_14 ∧
        ∀ (x14 : Int) (w_15 : World), I_2 x14 w_15 →
        br (decide (x14 < ((n52_0 : Nat) : Int))) (
          drewO w_15 fun w_16 =>
          withP a52_0 fun g84 o84 =>
          (0 : Int) ≤ x14 ∧ x14 < (((n52_0 : Nat) : Int) : Int) ∧
          ∃ (x85_0 : Int) (x85_1 : Int) (x85_2 : Int) (b85_3 : Bool),
          cellsAt w_16 g84 (o84 + x14.toNat * 4) [.int .i64 x85_0, .int .i64 x85_1, .int .i64 x85_2, .bool b85_3] ∧
          withP a59_0 fun g88 o88 =>
          (0 : Int) ≤ x14 ∧ x14 < (((n59_0 : Nat) : Int) : Int) ∧
          ∃ (x89_0 : Int) (x89_1 : Int) (x89_2 : Int) (b89_3 : Bool),
          cellsAt w_16 g88 (o88 + x14.toNat * 4) [.int .i64 x89_0, .int .i64 x89_1, .int .i64 x89_2, .bool b89_3] ∧
          Calls Try.prog 26 #[.agg #[.int .i64 x85_0, .int .i64 x85_1, .int .i64 x85_2, .bool b85_3], .agg #[.int .i64 x89_0, .int .i64 x89_1, .int .i64 x89_2, .bool b89_3]] w_16 fun e_6 w_17 => KeepG [] w_16 w_17 ∧
          ∃ (b90 : Bool),
          e_6 = .returned (.bool b90) ∧
          br (!b90) (
            K (.bool false) w_17
          ) (
            I_2 (IntKind.i64.wrap (x14 + 1)) w_17 ∧ μ_2 (IntKind.i64.wrap (x14 + 1)) w_17 < μ_2 x14 w_15
          )
        ) (
          Calls Try.prog 30 #[.slice a52_0 n52_0 c52_0] w_15 fun e_7 w_18 => KeepG [] w_15 w_18 ∧
          ∃ (x93 : Int),
          e_7 = .returned (.int .i64 x93) ∧
          Calls Try.prog 31 #[.slice a59_0 n59_0 c59_0] w_18 fun e_8 w_19 => KeepG [] w_18 w_19 ∧
          ∃ (x95 : Int),
          e_8 = .returned (.int .i64 x95) ∧
          br (decide (x93 = x95)) (
            br (decide (x52_1 ≠ 0)) (
              K (.bool true) w_19
            ) (
              Calls Try.prog 30 #[.slice a52_0 n52_0 c52_0] w_19 fun e_9 w_20 => KeepG [] w_19 w_20 ∧
              ∃ (x102 : Int),
              e_9 = .returned (.int .i64 x102) ∧
              K (.bool (decide (x102 ≤ x1))) w_20
            )
          ) (
            K (.bool false) w_19
          )
        )
      )
    )
  )
def gmany_notes : Notes := ⟨[(16, ⟨[0, 0, 3, 7, 0, 0, 48, 112, 255, 511], [8], [0, 1, 2, 3, 4, 5, 6, 7, 9]⟩)], [(4, ⟨[(7, .lf (.slice)), (8, .lf (.slice)), (9, .lf (.int .i64))], [], [15, 16, 17, 18, 19, 20, 21, 22, 25, 26, 27, 28, 29, 30, 31, 32, 8, 33, 34, 35, 36, 37, 38, 39, 40, 7, 23, 24, 9], []⟩), (14, ⟨[(14, .lf (.int .i64))], [], [76, 77, 78, 79, 82, 83, 84, 85, 86, 87, 88, 89, 90, 91, 6, 80, 81, 14], []⟩)], [((2, 4), ⟨[(7, .lf (.slice)), (8, .lf (.slice))], [], [15, 16, 17, 18, 19, 20, 21, 22, 25, 26, 27, 28, 29, 30, 31, 32, 8, 33, 34, 35, 36, 37, 38, 39, 40, 7, 23, 24, 9], []⟩)]⟩
theorem gmany_calls (a0 : Option Addr) (n0 : Nat) (c0 : Nat) (x1 : Int) (a2 : Option Addr) (n2 : Nat) (c2 : Nat) (w : World) (K : Value → World → Prop) (h : gmany_vc a0 n0 c0 x1 a2 n2 c2 w K) : Calls Try.prog 9 #[.slice a0 n0 c0, .int .i64 x1, .slice a2 n2 c2] w fun e w' => ∃ v, e = .returned v ∧ K v w' :=
  calls_of_fvc envOk Try.func9 gmany_notes [] [.slice a0 n0 c0, .int .i64 x1, .slice a2 n2 c2] w K (use_vc h (by as_aux_lemma => kernel_rfl))
/-- purser/purserlaw16.GrantSettles -/
def gsettles_k1 (K : Value → World → Prop) (x0_0 : Int) (x0_1 : Int) (x0_2 : Int) (b0_3 : Bool) (x2_0 : Int) (x2_1 : Int) (x2_2 : Int) (g : Nat) (g_2 : Nat) (g_3 : Nat) (x15_0 : Int) (x15_1 : Int) (x15_2 : Int) (x15_3 : Int) (x15_4 : Int) (x15_5 : Int) (a15_6 : Option Addr) (n15_6 : Nat) (c15_6 : Nat) (x15_7 : Int) (x15_8 : Int) (x15_9 : Int) (a15_10 : Option Addr) (n15_10 : Nat) (c15_10 : Nat) (g_4 : Nat) (x9 : Int) (x10 : Int) (g_6 : Nat) (a8_0 : Option Addr) (n8_0 : Nat) (c8_0 : Nat) (x8_1 : Int) (x8_2 : Int) (x8_3 : Int) (w_14 : World) : Prop :=
  Calls Try.prog 28 #[.agg #[.int .i64 x0_0, .int .i64 x0_1, .int .i64 x0_2, .bool b0_3], .agg #[.int .i64 x15_0, .int .i64 x15_1, .int .i64 x15_2, .int .i64 x15_3, .int .i64 x15_4, .int .i64 x15_5, .slice a15_6 n15_6 c15_6, .int .i64 x15_7, .int .i64 x15_8, .int .i64 x15_9, .slice a15_10 n15_10 c15_10], .int .i64 x2_0, .int .i64 x2_1, .int .i64 x2_2] w_14 fun e_4 w_15 => KeepG [g_6, g_4, g_3, g_2, g] w_14 w_15 ∧
  ∃ (a48_0_0 : Option Addr) (n48_0_0 : Nat) (c48_0_0 : Nat) (x48_0_1 : Int) (x48_0_2 : Int) (x48_0_3 : Int) (x48_1 : Int) (x48_2 : Int),
  e_4 = .returned (.tuple #[.agg #[.slice a48_0_0 n48_0_0 c48_0_0, .int .i64 x48_0_1, .int .i64 x48_0_2, .int .i64 x48_0_3], .int .i64 x48_1, .int .i64 x48_2]) ∧
  newO w_15 (.cells #[.slice none 0 0, .int .i64 0, .int .i64 0, .int .i64 0] 75) fun g_7 w_16 =>
  ∀ w_17 : World, BoxSt g_7 w_16 w_17 →
  drewO w_17 fun w_18 =>
  Calls Try.prog 25 #[] w_18 fun e_5 w_19 => KeepG [g_7, g_6, g_4, g_3, g_2, g] w_18 w_19 ∧
  ∃ (b52 : Bool),
  e_5 = .returned (.bool b52) ∧
  br b52 (
    br (decide (x10 = x48_2)) (
      br (decide (x9 = x48_1)) (
        br (decide (x8_2 = x48_0_2)) (
          br (decide (x8_1 = x48_0_1)) (
            br (decide (x8_3 = x48_0_3)) (
              Calls Try.prog 29 #[.slice a8_0 n8_0 c8_0, .slice a48_0_0 n48_0_0 c48_0_0] w_19 fun e_6 w_20 => KeepG [g_7, g_6, g_4, g_3, g_2, g] w_19 w_20 ∧
              ∃ (b89 : Bool),
              e_6 = .returned (.bool b89) ∧
              br b89 (
                (
                  newO w_20 (.cells #[.int .i64 x0_0, .int .i64 x0_1, .int .i64 x0_2, .bool b0_3, .int .i64 x0_0, .int .i64 x0_1, .int .i64 x0_2, .bool b0_3] 56) fun g_8 w_21 =>
                  (
                    Calls Try.prog 30 #[.slice (some ⟨g_8, 0, none⟩) 2 2] w_21 fun e_7 w_22 => KeepG [g_7, g_6, g_4, g_3, g_2, g] w_21 w_22 ∧
                    ∃ (x95 : Int),
                    e_7 = .returned (.int .i64 x95) ∧
                    newO w_22 (.cells #[.int .i64 x0_0, .int .i64 x0_1, .int .i64 x0_2, .bool b0_3, .int .i64 x0_0, .int .i64 x0_1, .int .i64 x0_2, .bool b0_3] 61) fun g_9 w_23 =>
                    Calls Try.prog 31 #[.slice (some ⟨g_9, 0, none⟩) 2 2] w_23 fun e_8 w_24 => KeepG [g_7, g_6, g_4, g_3, g_2, g] w_23 w_24 ∧
                    ∃ (x99 : Int),
                    e_8 = .returned (.int .i64 x99) ∧
                    K (.bool (decide (x95 = x99))) w_24
                  ) ∧
                  (
                    newO w_21 (.cells #[.int .i64 x0_0, .int .i64 x0_1, .int .i64 x0_2, .bool b0_3, .int .i64 x0_0, .int .i64 x0_1, .int .i64 x0_2, .bool b0_3] 61) fun g_10 w_26 =>
                    Calls Try.prog 30 #[.slice (some ⟨g_8, 0, none⟩) 2 2] w_26 fun e_9 w_27 => KeepG [g_7, g_6, g_4, g_3, g_2, g] w_26 w_27 ∧
                    ∃ (x95_2 : Int),
                    e_9 = .returned (.int .i64 x95_2) ∧
                    Calls Try.prog 31 #[.slice (some ⟨g_10, 0, none⟩) 2 2] w_27 fun e_10 w_28 => KeepG [g_7, g_6, g_4, g_3, g_2, g] w_27 w_28 ∧
                    ∃ (x99_2 : Int),
                    e_10 = .returned (.int .i64 x99_2) ∧
                    K (.bool (decide (x95_2 = x99_2))) w_28
                  )
                ) ∧
                (
                  newO w_20 (.cells #[.int .i64 x0_0, .int .i64 x0_1, .int .i64 x0_2, .bool b0_3, .int .i64 x0_0, .int .i64 x0_1, .int .i64 x0_2, .bool b0_3] 61) fun g_11 w_29 =>
                  newO w_29 (.cells #[.int .i64 x0_0, .int .i64 x0_1, .int .i64 x0_2, .bool b0_3, .int .i64 x0_0, .int .i64 x0_1, .int .i64 x0_2, .bool b0_3] 56) fun g_12 w_30 =>
                  Calls Try.prog 30 #[.slice (some ⟨g_12, 0, none⟩) 2 2] w_30 fun e_11 w_31 => KeepG [g_7, g_6, g_4, g_3, g_2, g] w_30 w_31 ∧
                  ∃ (x95_3 : Int),
                  e_11 = .returned (.int .i64 x95_3) ∧
                  Calls Try.prog 31 #[.slice (some ⟨g_11, 0, none⟩) 2 2] w_31 fun e_12 w_32 => KeepG [g_7, g_6, g_4, g_3, g_2, g] w_31 w_32 ∧
                  ∃ (x99_3 : Int),
                  e_12 = .returned (.int .i64 x99_3) ∧
                  K (.bool (decide (x95_3 = x99_3))) w_32
                )
              ) (
                (
                  (
                    K (.bool false) w_20
                  ) ∧
                  (
                    K (.bool false) w_20
                  )
                ) ∧
                (
                  K (.bool false) w_20
                )
              )
            ) (
              (
                (
                  K (.bool false) w_19
                ) ∧
                (
                  K (.bool false) w_19
                )
              ) ∧
              (
                K (.bool false) w_19
              )
            )
          ) (
            (
              (
                K (.bool false) w_19
              ) ∧
              (
                K (.bool false) w_19
              )
            ) ∧
            (
              K (.bool false) w_19
            )
          )
        ) (
          (
            (
              K (.bool false) w_19
            ) ∧
            (
              K (.bool false) w_19
            )
          ) ∧
          (
            K (.bool false) w_19
          )
        )
      ) (
        (
          (
            K (.bool false) w_19
          ) ∧
          (
            K (.bool false) w_19
          )
        ) ∧
        (
          K (.bool false) w_19
        )
      )
    ) (
      (
        (
          K (.bool false) w_19
        ) ∧
        (
          K (.bool false) w_19
        )
      ) ∧
      (
        K (.bool false) w_19
      )
    )
  ) (
    (
      (
        K (.bool false) w_19
      ) ∧
      (
        K (.bool false) w_19
      )
    ) ∧
    (
      K (.bool false) w_19
    )
  )
def gsettles_vc (x0_0 : Int) (x0_1 : Int) (x0_2 : Int) (b0_3 : Bool) (x1_0 : Int) (x1_1 : Int) (x1_2 : Int) (x1_3 : Int) (x1_4 : Int) (x1_5 : Int) (a1_6 : Option Addr) (n1_6 : Nat) (c1_6 : Nat) (x1_7 : Int) (x1_8 : Int) (x1_9 : Int) (a1_10 : Option Addr) (n1_10 : Nat) (c1_10 : Nat) (x2_0 : Int) (x2_1 : Int) (x2_2 : Int) (w : World) (K : Value → World → Prop) : Prop :=
  newO w (.cells #[.int .i64 x0_0, .int .i64 x0_1, .int .i64 x0_2, .bool b0_3] 61) fun g w_2 =>
  newO w_2 (.cells #[.int .i64 x1_0, .int .i64 x1_1, .int .i64 x1_2, .int .i64 x1_3, .int .i64 x1_4, .int .i64 x1_5, .slice a1_6 n1_6 c1_6, .int .i64 x1_7, .int .i64 x1_8, .int .i64 x1_9, .slice a1_10 n1_10 c1_10] 53) fun g_2 w_3 =>
  newO w_3 (.cells #[.int .i64 x2_0, .int .i64 x2_1, .int .i64 x2_2] 74) fun g_3 w_4 =>
  Calls Try.prog 21 #[.agg #[.int .i64 x1_0, .int .i64 x1_1, .int .i64 x1_2, .int .i64 x1_3, .int .i64 x1_4, .int .i64 x1_5, .slice a1_6 n1_6 c1_6, .int .i64 x1_7, .int .i64 x1_8, .int .i64 x1_9, .slice a1_10 n1_10 c1_10]] w_4 fun e w_5 => KeepG [g_3, g_2, g] w_4 w_5 ∧
  ∃ (x15_0 : Int) (x15_1 : Int) (x15_2 : Int) (x15_3 : Int) (x15_4 : Int) (x15_5 : Int) (a15_6 : Option Addr) (n15_6 : Nat) (c15_6 : Nat) (x15_7 : Int) (x15_8 : Int) (x15_9 : Int) (a15_10 : Option Addr) (n15_10 : Nat) (c15_10 : Nat),
  e = .returned (.agg #[.int .i64 x15_0, .int .i64 x15_1, .int .i64 x15_2, .int .i64 x15_3, .int .i64 x15_4, .int .i64 x15_5, .slice a15_6 n15_6 c15_6, .int .i64 x15_7, .int .i64 x15_8, .int .i64 x15_9, .slice a15_10 n15_10 c15_10]) ∧
  ∀ w_6 : World, BoxSt g_2 w_5 w_6 →
  newO w_6 (.cells #[.int .i64 0, .int .i64 0, .int .i64 0, .bool false] 56) fun g_4 w_7 =>
  ∀ w_8 : World, BoxSt g_4 w_7 w_8 →
  drewO w_8 fun w_9 =>
  (
    Calls Try.prog 23 #[.agg #[.int .i64 x15_0, .int .i64 x15_1, .int .i64 x15_2, .int .i64 x15_3, .int .i64 x15_4, .int .i64 x15_5, .slice a15_6 n15_6 c15_6, .int .i64 x15_7, .int .i64 x15_8, .int .i64 x15_9, .slice a15_10 n15_10 c15_10]] w_9 fun e_2 w_10 => KeepG [g_4, g_3, g_2, g] w_9 w_10 ∧
    ∃ (x28_0 : Int) (x28_1 : Int) (x28_2 : Int) (x28_3 : Int) (x28_4 : Int) (x28_5 : Int) (a28_6 : Option Addr) (n28_6 : Nat) (c28_6 : Nat) (x28_7 : Int) (x28_8 : Int) (x28_9 : Int) (a28_10 : Option Addr) (n28_10 : Nat) (c28_10 : Nat),
    e_2 = .returned (.agg #[.int .i64 x28_0, .int .i64 x28_1, .int .i64 x28_2, .int .i64 x28_3, .int .i64 x28_4, .int .i64 x28_5, .slice a28_6 n28_6 c28_6, .int .i64 x28_7, .int .i64 x28_8, .int .i64 x28_9, .slice a28_10 n28_10 c28_10]) ∧
    (
      Calls Try.prog 27 #[.agg #[.int .i64 x0_0, .int .i64 x0_1, .int .i64 x0_2, .bool b0_3], .agg #[.int .i64 x28_0, .int .i64 x28_1, .int .i64 x28_2, .int .i64 x28_3, .int .i64 x28_4, .int .i64 x28_5, .slice a28_6 n28_6 c28_6, .int .i64 x28_7, .int .i64 x28_8, .int .i64 x28_9, .slice a28_10 n28_10 c28_10], .int .i64 x2_0, .int .i64 x2_1, .int .i64 x2_2] w_10 fun e_3 w_11 => KeepG [g_4, g_3, g_2, g] w_10 w_11 ∧
      ∃ (a35_0_0 : Option Addr) (n35_0_0 : Nat) (c35_0_0 : Nat) (x35_0_1 : Int) (x35_0_2 : Int) (x35_0_3 : Int) (x35_1 : Int) (x35_2 : Int),
      e_3 = .returned (.tuple #[.agg #[.slice a35_0_0 n35_0_0 c35_0_0, .int .i64 x35_0_1, .int .i64 x35_0_2, .int .i64 x35_0_3], .int .i64 x35_1, .int .i64 x35_2]) ∧
      newO w_11 (.cells #[.slice none 0 0, .int .i64 0, .int .i64 0, .int .i64 0] 70) fun g_5 w_12 =>
      ∀ w_13 : World, BoxSt g_5 w_12 w_13 →
      gsettles_k1 K x0_0 x0_1 x0_2 b0_3 x2_0 x2_1 x2_2 g g_2 g_3 x15_0 x15_1 x15_2 x15_3 x15_4 x15_5 a15_6 n15_6 c15_6 x15_7 x15_8 x15_9 a15_10 n15_10 c15_10 g_4 x35_1 x35_2 g_5 a35_0_0 n35_0_0 c35_0_0 x35_0_1 x35_0_2 x35_0_3 w_13
    ) ∧
    (
      newO w_10 (.cells #[.slice none 0 0, .int .i64 0, .int .i64 0, .int .i64 0] 70) fun g_13 w_34 =>
      Calls Try.prog 27 #[.agg #[.int .i64 x0_0, .int .i64 x0_1, .int .i64 x0_2, .bool b0_3], .agg #[.int .i64 x28_0, .int .i64 x28_1, .int .i64 x28_2, .int .i64 x28_3, .int .i64 x28_4, .int .i64 x28_5, .slice a28_6 n28_6 c28_6, .int .i64 x28_7, .int .i64 x28_8, .int .i64 x28_9, .slice a28_10 n28_10 c28_10], .int .i64 x2_0, .int .i64 x2_1, .int .i64 x2_2] w_34 fun e_13 w_35 => KeepG [g_13, g_4, g_3, g_2, g] w_34 w_35 ∧
      ∃ (a35_0_0_2 : Option Addr) (n35_0_0_2 : Nat) (c35_0_0_2 : Nat) (x35_0_1_2 : Int) (x35_0_2_2 : Int) (x35_0_3_2 : Int) (x35_1_2 : Int) (x35_2_2 : Int),
      e_13 = .returned (.tuple #[.agg #[.slice a35_0_0_2 n35_0_0_2 c35_0_0_2, .int .i64 x35_0_1_2, .int .i64 x35_0_2_2, .int .i64 x35_0_3_2], .int .i64 x35_1_2, .int .i64 x35_2_2]) ∧
      ∀ w_36 : World, BoxSt g_13 w_35 w_36 →
      gsettles_k1 K x0_0 x0_1 x0_2 b0_3 x2_0 x2_1 x2_2 g g_2 g_3 x15_0 x15_1 x15_2 x15_3 x15_4 x15_5 a15_6 n15_6 c15_6 x15_7 x15_8 x15_9 a15_10 n15_10 c15_10 g_4 x35_1_2 x35_2_2 g_13 a35_0_0_2 n35_0_0_2 c35_0_0_2 x35_0_1_2 x35_0_2_2 x35_0_3_2 w_36
    )
  ) ∧
  (
    newO w_9 (.cells #[.slice none 0 0, .int .i64 0, .int .i64 0, .int .i64 0] 70) fun g_14 w_37 =>
    Calls Try.prog 23 #[.agg #[.int .i64 x15_0, .int .i64 x15_1, .int .i64 x15_2, .int .i64 x15_3, .int .i64 x15_4, .int .i64 x15_5, .slice a15_6 n15_6 c15_6, .int .i64 x15_7, .int .i64 x15_8, .int .i64 x15_9, .slice a15_10 n15_10 c15_10]] w_37 fun e_14 w_38 => KeepG [g_14, g_4, g_3, g_2, g] w_37 w_38 ∧
    ∃ (x28_0_2 : Int) (x28_1_2 : Int) (x28_2_2 : Int) (x28_3_2 : Int) (x28_4_2 : Int) (x28_5_2 : Int) (a28_6_2 : Option Addr) (n28_6_2 : Nat) (c28_6_2 : Nat) (x28_7_2 : Int) (x28_8_2 : Int) (x28_9_2 : Int) (a28_10_2 : Option Addr) (n28_10_2 : Nat) (c28_10_2 : Nat),
    e_14 = .returned (.agg #[.int .i64 x28_0_2, .int .i64 x28_1_2, .int .i64 x28_2_2, .int .i64 x28_3_2, .int .i64 x28_4_2, .int .i64 x28_5_2, .slice a28_6_2 n28_6_2 c28_6_2, .int .i64 x28_7_2, .int .i64 x28_8_2, .int .i64 x28_9_2, .slice a28_10_2 n28_10_2 c28_10_2]) ∧
    Calls Try.prog 27 #[.agg #[.int .i64 x0_0, .int .i64 x0_1, .int .i64 x0_2, .bool b0_3], .agg #[.int .i64 x28_0_2, .int .i64 x28_1_2, .int .i64 x28_2_2, .int .i64 x28_3_2, .int .i64 x28_4_2, .int .i64 x28_5_2, .slice a28_6_2 n28_6_2 c28_6_2, .int .i64 x28_7_2, .int .i64 x28_8_2, .int .i64 x28_9_2, .slice a28_10_2 n28_10_2 c28_10_2], .int .i64 x2_0, .int .i64 x2_1, .int .i64 x2_2] w_38 fun e_15 w_39 => KeepG [g_14, g_4, g_3, g_2, g] w_38 w_39 ∧
    ∃ (a35_0_0_3 : Option Addr) (n35_0_0_3 : Nat) (c35_0_0_3 : Nat) (x35_0_1_3 : Int) (x35_0_2_3 : Int) (x35_0_3_3 : Int) (x35_1_3 : Int) (x35_2_3 : Int),
    e_15 = .returned (.tuple #[.agg #[.slice a35_0_0_3 n35_0_0_3 c35_0_0_3, .int .i64 x35_0_1_3, .int .i64 x35_0_2_3, .int .i64 x35_0_3_3], .int .i64 x35_1_3, .int .i64 x35_2_3]) ∧
    ∀ w_40 : World, BoxSt g_14 w_39 w_40 →
    gsettles_k1 K x0_0 x0_1 x0_2 b0_3 x2_0 x2_1 x2_2 g g_2 g_3 x15_0 x15_1 x15_2 x15_3 x15_4 x15_5 a15_6 n15_6 c15_6 x15_7 x15_8 x15_9 a15_10 n15_10 c15_10 g_4 x35_1_3 x35_2_3 g_14 a35_0_0_3 n35_0_0_3 c35_0_0_3 x35_0_1_3 x35_0_2_3 x35_0_3_3 w_40
  )
def gsettles_notes : Notes := ⟨[(3, ⟨[0, 0, 2, 0, 8, 0, 32, 0, 128, 511, 1023, 2047, 2047, 2047, 0, 20479, 57343, 131071], [2, 9, 14, 15], [0, 1, 3, 4, 5, 6, 7, 8, 10, 11, 12, 13, 16, 17]⟩), (5, ⟨[0, 1, 3, 3, 15, 31, 63, 127, 127, 511, 1023, 2047, 4095, 8191, 4095, 20479, 65535, 131071, 262143, 524287, 1048575, 524287, 2621439, 8388607, 16777215, 33554431, 67108863, 134217727, 67108863, 335544319, 1073741823, 2147483647, 4294967295, 8589934591, 17179869183, 8589934591, 42949672959, 137438953471, 274877906943, 549755813887, 1099511627775, 1099511627775, 4398046511103, 8796093022207, 1099511627775, 1099511627775, 53876069761023, 140737488355327, 281474976710655, 562949953421311, 1125899906842623], [0, 37, 42, 43, 46, 47], [1, 2, 3, 4, 5, 6, 7, 8, 9, 10, 11, 12, 13, 14, 15, 16, 17, 18, 19, 20, 21, 22, 23, 24, 25, 26, 27, 28, 29, 30, 31, 32, 33, 34, 35, 36, 38, 39, 40, 41, 44, 45, 48, 49, 50]⟩)], [], []⟩
theorem gsettles_calls (x0_0 : Int) (x0_1 : Int) (x0_2 : Int) (b0_3 : Bool) (x1_0 : Int) (x1_1 : Int) (x1_2 : Int) (x1_3 : Int) (x1_4 : Int) (x1_5 : Int) (a1_6 : Option Addr) (n1_6 : Nat) (c1_6 : Nat) (x1_7 : Int) (x1_8 : Int) (x1_9 : Int) (a1_10 : Option Addr) (n1_10 : Nat) (c1_10 : Nat) (x2_0 : Int) (x2_1 : Int) (x2_2 : Int) (w : World) (K : Value → World → Prop) (h : gsettles_vc x0_0 x0_1 x0_2 b0_3 x1_0 x1_1 x1_2 x1_3 x1_4 x1_5 a1_6 n1_6 c1_6 x1_7 x1_8 x1_9 a1_10 n1_10 c1_10 x2_0 x2_1 x2_2 w K) : Calls Try.prog 7 #[.agg #[.int .i64 x0_0, .int .i64 x0_1, .int .i64 x0_2, .bool b0_3], .agg #[.int .i64 x1_0, .int .i64 x1_1, .int .i64 x1_2, .int .i64 x1_3, .int .i64 x1_4, .int .i64 x1_5, .slice a1_6 n1_6 c1_6, .int .i64 x1_7, .int .i64 x1_8, .int .i64 x1_9, .slice a1_10 n1_10 c1_10], .agg #[.int .i64 x2_0, .int .i64 x2_1, .int .i64 x2_2]] w fun e w' => ∃ v, e = .returned v ∧ K v w' :=
  calls_of_fvc envOk Try.func7 gsettles_notes [3, 4, 5, 7, 8, 11] [.agg #[.int .i64 x0_0, .int .i64 x0_1, .int .i64 x0_2, .bool b0_3], .agg #[.int .i64 x1_0, .int .i64 x1_1, .int .i64 x1_2, .int .i64 x1_3, .int .i64 x1_4, .int .i64 x1_5, .slice a1_6 n1_6 c1_6, .int .i64 x1_7, .int .i64 x1_8, .int .i64 x1_9, .slice a1_10 n1_10 c1_10], .agg #[.int .i64 x2_0, .int .i64 x2_1, .int .i64 x2_2]] w K (use_vc h (by as_aux_lemma => kernel_rfl))
/-- purser/purserlaw16.GrantBounds -/
def gbounds_k1 (K : Value → World → Prop) (x1 : Int) (x2_0 : Int) (x7_1 : Int) (x7_2 : Int) (b7_3 : Bool) (x13 : Int) (x14 : Int) (x12_2 : Int) (w_21 : World) : Prop :=
  br (decide (x14 = 0)) (
    br (decide (x13 ≥ 0)) (
      br (decide ((IntKind.i64.wrap (x12_2 + x13)) = x7_2)) (
        br (decide (x7_2 ≤ x1)) (
          br (decide (x7_1 ≤ x2_0)) (
            K (.bool (decide (b7_3 = (decide (x7_1 < x2_0))))) w_21
          ) (
            K (.bool false) w_21
          )
        ) (
          K (.bool false) w_21
        )
      ) (
        K (.bool false) w_21
      )
    ) (
      K (.bool false) w_21
    )
  ) (
    K (.bool false) w_21
  )
def gbounds_k2 (K : Value → World → Prop) (x1 : Int) (x2_0 : Int) (x2_1 : Int) (x2_2 : Int) (x2_3 : Int) (g : Nat) (g_2 : Nat) (x16_0 : Int) (x16_1 : Int) (x16_2 : Int) (x16_3 : Int) (x16_4 : Int) (x16_5 : Int) (a16_6 : Option Addr) (n16_6 : Nat) (c16_6 : Nat) (x16_7 : Int) (x16_8 : Int) (x16_9 : Int) (a16_10 : Option Addr) (n16_10 : Nat) (c16_10 : Nat) (x8 : Int) (g_4 : Nat) (x7_0 : Int) (x7_1 : Int) (x7_2 : Int) (b7_3 : Bool) (w_11 : World) : Prop :=
  Calls Try.prog 25 #[] w_11 fun e_4 w_12 => KeepG [g_4, g_2, g] w_11 w_12 ∧
  ∃ (b26 : Bool),
  e_4 = .returned (.bool b26) ∧
  br (!b26) (
    Calls Try.prog 25 #[] w_12 fun e_5 w_13 => KeepG [g_4, g_2, g] w_12 w_13 ∧
    ∃ (b32 : Bool),
    e_5 = .returned (.bool b32) ∧
    K (.bool b32) w_13
  ) (
    br (decide (x8 ≠ 0)) (
      Calls Try.prog 25 #[] w_12 fun e_6 w_14 => KeepG [g_4, g_2, g] w_12 w_14 ∧
      ∃ (b32_2 : Bool),
      e_6 = .returned (.bool b32_2) ∧
      K (.bool b32_2) w_14
    ) (
      ((IntKind.u64.wrap (IntKind.i64.wrap (x7_1 + 1))) : Int) ≠ 0 ∧
      drewO w_12 fun w_15 =>
      (0 : Int) ≤ 1 ∧
      (1099511627776 : Int) ≠ 0 ∧
      drewO w_15 fun w_16 =>
      (
        Calls Try.prog 23 #[.agg #[.int .i64 x16_0, .int .i64 x16_1, .int .i64 x16_2, .int .i64 x16_3, .int .i64 x16_4, .int .i64 x16_5, .slice a16_6 n16_6 c16_6, .int .i64 x16_7, .int .i64 x16_8, .int .i64 x16_9, .slice a16_10 n16_10 c16_10]] w_16 fun e_7 w_17 => KeepG [g_4, g_2, g] w_16 w_17 ∧
        ∃ (x55_0 : Int) (x55_1 : Int) (x55_2 : Int) (x55_3 : Int) (x55_4 : Int) (x55_5 : Int) (a55_6 : Option Addr) (n55_6 : Nat) (c55_6 : Nat) (x55_7 : Int) (x55_8 : Int) (x55_9 : Int) (a55_10 : Option Addr) (n55_10 : Nat) (c55_10 : Nat),
        e_7 = .returned (.agg #[.int .i64 x55_0, .int .i64 x55_1, .int .i64 x55_2, .int .i64 x55_3, .int .i64 x55_4, .int .i64 x55_5, .slice a55_6 n55_6 c55_6, .int .i64 x55_7, .int .i64 x55_8, .int .i64 x55_9, .slice a55_10 n55_10 c55_10]) ∧
        (
          Calls Try.prog 27 #[.agg #[.int .i64 x7_0, .int .i64 x7_1, .int .i64 x7_2, .bool b7_3], .agg #[.int .i64 x55_0, .int .i64 x55_1, .int .i64 x55_2, .int .i64 x55_3, .int .i64 x55_4, .int .i64 x55_5, .slice a55_6 n55_6 c55_6, .int .i64 x55_7, .int .i64 x55_8, .int .i64 x55_9, .slice a55_10 n55_10 c55_10], .int .i64 (IntKind.i64.wrap (Int.fdiv (IntKind.u64.wrap x2_2) (2 ^ (min (1 : Int).toNat (IntKind.bits .u64))))), .int .i64 (IntKind.i64.wrap (Int.tmod (IntKind.u64.wrap x2_3) 1099511627776)), .int .i64 (IntKind.i64.wrap (Int.tmod (IntKind.u64.wrap x2_1) (IntKind.u64.wrap (IntKind.i64.wrap (x7_1 + 1)))))] w_17 fun e_8 w_18 => KeepG [g_4, g_2, g] w_17 w_18 ∧
          ∃ (a59_0_0 : Option Addr) (n59_0_0 : Nat) (c59_0_0 : Nat) (x59_0_1 : Int) (x59_0_2 : Int) (x59_0_3 : Int) (x59_1 : Int) (x59_2 : Int),
          e_8 = .returned (.tuple #[.agg #[.slice a59_0_0 n59_0_0 c59_0_0, .int .i64 x59_0_1, .int .i64 x59_0_2, .int .i64 x59_0_3], .int .i64 x59_1, .int .i64 x59_2]) ∧
          newO w_18 (.cells #[.slice none 0 0, .int .i64 0, .int .i64 0, .int .i64 0] 70) fun g_5 w_19 =>
          ∀ w_20 : World, BoxSt g_5 w_19 w_20 →
          gbounds_k1 K x1 x2_0 x7_1 x7_2 b7_3 x59_1 x59_2 x59_0_2 w_20
        ) ∧
        (
          newO w_17 (.cells #[.slice none 0 0, .int .i64 0, .int .i64 0, .int .i64 0] 70) fun g_7 w_22 =>
          Calls Try.prog 27 #[.agg #[.int .i64 x7_0, .int .i64 x7_1, .int .i64 x7_2, .bool b7_3], .agg #[.int .i64 x55_0, .int .i64 x55_1, .int .i64 x55_2, .int .i64 x55_3, .int .i64 x55_4, .int .i64 x55_5, .slice a55_6 n55_6 c55_6, .int .i64 x55_7, .int .i64 x55_8, .int .i64 x55_9, .slice a55_10 n55_10 c55_10], .int .i64 (IntKind.i64.wrap (Int.fdiv (IntKind.u64.wrap x2_2) (2 ^ (min (1 : Int).toNat (IntKind.bits .u64))))), .int .i64 (IntKind.i64.wrap (Int.tmod (IntKind.u64.wrap x2_3) 1099511627776)), .int .i64 (IntKind.i64.wrap (Int.tmod (IntKind.u64.wrap x2_1) (IntKind.u64.wrap (IntKind.i64.wrap (x7_1 + 1)))))] w_22 fun e_9 w_23 => KeepG [g_7, g_4, g_2, g] w_22 w_23 ∧
          ∃ (a59_0_0_2 : Option Addr) (n59_0_0_2 : Nat) (c59_0_0_2 : Nat) (x59_0_1_2 : Int) (x59_0_2_2 : Int) (x59_0_3_2 : Int) (x59_1_2 : Int) (x59_2_2 : Int),
          e_9 = .returned (.tuple #[.agg #[.slice a59_0_0_2 n59_0_0_2 c59_0_0_2, .int .i64 x59_0_1_2, .int .i64 x59_0_2_2, .int .i64 x59_0_3_2], .int .i64 x59_1_2, .int .i64 x59_2_2]) ∧
          ∀ w_24 : World, BoxSt g_7 w_23 w_24 →
          gbounds_k1 K x1 x2_0 x7_1 x7_2 b7_3 x59_1_2 x59_2_2 x59_0_2_2 w_24
        )
      ) ∧
      (
        newO w_16 (.cells #[.slice none 0 0, .int .i64 0, .int .i64 0, .int .i64 0] 70) fun g_8 w_25 =>
        Calls Try.prog 23 #[.agg #[.int .i64 x16_0, .int .i64 x16_1, .int .i64 x16_2, .int .i64 x16_3, .int .i64 x16_4, .int .i64 x16_5, .slice a16_6 n16_6 c16_6, .int .i64 x16_7, .int .i64 x16_8, .int .i64 x16_9, .slice a16_10 n16_10 c16_10]] w_25 fun e_10 w_26 => KeepG [g_8, g_4, g_2, g] w_25 w_26 ∧
        ∃ (x55_0_2 : Int) (x55_1_2 : Int) (x55_2_2 : Int) (x55_3_2 : Int) (x55_4_2 : Int) (x55_5_2 : Int) (a55_6_2 : Option Addr) (n55_6_2 : Nat) (c55_6_2 : Nat) (x55_7_2 : Int) (x55_8_2 : Int) (x55_9_2 : Int) (a55_10_2 : Option Addr) (n55_10_2 : Nat) (c55_10_2 : Nat),
        e_10 = .returned (.agg #[.int .i64 x55_0_2, .int .i64 x55_1_2, .int .i64 x55_2_2, .int .i64 x55_3_2, .int .i64 x55_4_2, .int .i64 x55_5_2, .slice a55_6_2 n55_6_2 c55_6_2, .int .i64 x55_7_2, .int .i64 x55_8_2, .int .i64 x55_9_2, .slice a55_10_2 n55_10_2 c55_10_2]) ∧
        Calls Try.prog 27 #[.agg #[.int .i64 x7_0, .int .i64 x7_1, .int .i64 x7_2, .bool b7_3], .agg #[.int .i64 x55_0_2, .int .i64 x55_1_2, .int .i64 x55_2_2, .int .i64 x55_3_2, .int .i64 x55_4_2, .int .i64 x55_5_2, .slice a55_6_2 n55_6_2 c55_6_2, .int .i64 x55_7_2, .int .i64 x55_8_2, .int .i64 x55_9_2, .slice a55_10_2 n55_10_2 c55_10_2], .int .i64 (IntKind.i64.wrap (Int.fdiv (IntKind.u64.wrap x2_2) (2 ^ (min (1 : Int).toNat (IntKind.bits .u64))))), .int .i64 (IntKind.i64.wrap (Int.tmod (IntKind.u64.wrap x2_3) 1099511627776)), .int .i64 (IntKind.i64.wrap (Int.tmod (IntKind.u64.wrap x2_1) (IntKind.u64.wrap (IntKind.i64.wrap (x7_1 + 1)))))] w_26 fun e_11 w_27 => KeepG [g_8, g_4, g_2, g] w_26 w_27 ∧
        ∃ (a59_0_0_3 : Option Addr) (n59_0_0_3 : Nat) (c59_0_0_3 : Nat) (x59_0_1_3 : Int) (x59_0_2_3 : Int) (x59_0_3_3 : Int) (x59_1_3 : Int) (x59_2_3 : Int),
        e_11 = .returned (.tuple #[.agg #[.slice a59_0_0_3 n59_0_0_3 c59_0_0_3, .int .i64 x59_0_1_3, .int .i64 x59_0_2_3, .int .i64 x59_0_3_3], .int .i64 x59_1_3, .int .i64 x59_2_3]) ∧
        ∀ w_28 : World, BoxSt g_8 w_27 w_28 →
        gbounds_k1 K x1 x2_0 x7_1 x7_2 b7_3 x59_1_3 x59_2_3 x59_0_2_3 w_28
      )
    )
  )
def gbounds_vc (x0_0 : Int) (x0_1 : Int) (x0_2 : Int) (x0_3 : Int) (x0_4 : Int) (x0_5 : Int) (a0_6 : Option Addr) (n0_6 : Nat) (c0_6 : Nat) (x0_7 : Int) (x0_8 : Int) (x0_9 : Int) (a0_10 : Option Addr) (n0_10 : Nat) (c0_10 : Nat) (x1 : Int) (x2_0 : Int) (x2_1 : Int) (x2_2 : Int) (x2_3 : Int) (w : World) (K : Value → World → Prop) : Prop :=
  newO w (.cells #[.int .i64 x0_0, .int .i64 x0_1, .int .i64 x0_2, .int .i64 x0_3, .int .i64 x0_4, .int .i64 x0_5, .slice a0_6 n0_6 c0_6, .int .i64 x0_7, .int .i64 x0_8, .int .i64 x0_9, .slice a0_10 n0_10 c0_10] 53) fun g w_2 =>
  newO w_2 (.cells #[.int .i64 x2_0, .int .i64 x2_1, .int .i64 x2_2, .int .i64 x2_3] 66) fun g_2 w_3 =>
  Calls Try.prog 21 #[.agg #[.int .i64 x0_0, .int .i64 x0_1, .int .i64 x0_2, .int .i64 x0_3, .int .i64 x0_4, .int .i64 x0_5, .slice a0_6 n0_6 c0_6, .int .i64 x0_7, .int .i64 x0_8, .int .i64 x0_9, .slice a0_10 n0_10 c0_10]] w_3 fun e w_4 => KeepG [g_2, g] w_3 w_4 ∧
  ∃ (x16_0 : Int) (x16_1 : Int) (x16_2 : Int) (x16_3 : Int) (x16_4 : Int) (x16_5 : Int) (a16_6 : Option Addr) (n16_6 : Nat) (c16_6 : Nat) (x16_7 : Int) (x16_8 : Int) (x16_9 : Int) (a16_10 : Option Addr) (n16_10 : Nat) (c16_10 : Nat),
  e = .returned (.agg #[.int .i64 x16_0, .int .i64 x16_1, .int .i64 x16_2, .int .i64 x16_3, .int .i64 x16_4, .int .i64 x16_5, .slice a16_6 n16_6 c16_6, .int .i64 x16_7, .int .i64 x16_8, .int .i64 x16_9, .slice a16_10 n16_10 c16_10]) ∧
  ∀ w_5 : World, BoxSt g w_4 w_5 →
  drewO w_5 fun w_6 =>
  (
    Calls Try.prog 23 #[.agg #[.int .i64 x16_0, .int .i64 x16_1, .int .i64 x16_2, .int .i64 x16_3, .int .i64 x16_4, .int .i64 x16_5, .slice a16_6 n16_6 c16_6, .int .i64 x16_7, .int .i64 x16_8, .int .i64 x16_9, .slice a16_10 n16_10 c16_10]] w_6 fun e_2 w_7 => KeepG [g_2, g] w_6 w_7 ∧
    ∃ (x19_0 : Int) (x19_1 : Int) (x19_2 : Int) (x19_3 : Int) (x19_4 : Int) (x19_5 : Int) (a19_6 : Option Addr) (n19_6 : Nat) (c19_6 : Nat) (x19_7 : Int) (x19_8 : Int) (x19_9 : Int) (a19_10 : Option Addr) (n19_10 : Nat) (c19_10 : Nat),
    e_2 = .returned (.agg #[.int .i64 x19_0, .int .i64 x19_1, .int .i64 x19_2, .int .i64 x19_3, .int .i64 x19_4, .int .i64 x19_5, .slice a19_6 n19_6 c19_6, .int .i64 x19_7, .int .i64 x19_8, .int .i64 x19_9, .slice a19_10 n19_10 c19_10]) ∧
    (
      Calls Try.prog 22 #[.agg #[.int .i64 x19_0, .int .i64 x19_1, .int .i64 x19_2, .int .i64 x19_3, .int .i64 x19_4, .int .i64 x19_5, .slice a19_6 n19_6 c19_6, .int .i64 x19_7, .int .i64 x19_8, .int .i64 x19_9, .slice a19_10 n19_10 c19_10], .int .i64 x1, .int .i64 x2_0] w_7 fun e_3 w_8 => KeepG [g_2, g] w_7 w_8 ∧
      ∃ (x23_0_0 : Int) (x23_0_1 : Int) (x23_0_2 : Int) (b23_0_3 : Bool) (x23_1 : Int),
      e_3 = .returned (.tuple #[.agg #[.int .i64 x23_0_0, .int .i64 x23_0_1, .int .i64 x23_0_2, .bool b23_0_3], .int .i64 x23_1]) ∧
      newO w_8 (.cells #[.int .i64 0, .int .i64 0, .int .i64 0, .bool false] 56) fun g_3 w_9 =>
      ∀ w_10 : World, BoxSt g_3 w_9 w_10 →
      gbounds_k2 K x1 x2_0 x2_1 x2_2 x2_3 g g_2 x16_0 x16_1 x16_2 x16_3 x16_4 x16_5 a16_6 n16_6 c16_6 x16_7 x16_8 x16_9 a16_10 n16_10 c16_10 x23_1 g_3 x23_0_0 x23_0_1 x23_0_2 b23_0_3 w_10
    ) ∧
    (
      newO w_7 (.cells #[.int .i64 0, .int .i64 0, .int .i64 0, .bool false] 56) fun g_9 w_29 =>
      Calls Try.prog 22 #[.agg #[.int .i64 x19_0, .int .i64 x19_1, .int .i64 x19_2, .int .i64 x19_3, .int .i64 x19_4, .int .i64 x19_5, .slice a19_6 n19_6 c19_6, .int .i64 x19_7, .int .i64 x19_8, .int .i64 x19_9, .slice a19_10 n19_10 c19_10], .int .i64 x1, .int .i64 x2_0] w_29 fun e_12 w_30 => KeepG [g_9, g_2, g] w_29 w_30 ∧
      ∃ (x23_0_0_2 : Int) (x23_0_1_2 : Int) (x23_0_2_2 : Int) (b23_0_3_2 : Bool) (x23_1_2 : Int),
      e_12 = .returned (.tuple #[.agg #[.int .i64 x23_0_0_2, .int .i64 x23_0_1_2, .int .i64 x23_0_2_2, .bool b23_0_3_2], .int .i64 x23_1_2]) ∧
      ∀ w_31 : World, BoxSt g_9 w_30 w_31 →
      gbounds_k2 K x1 x2_0 x2_1 x2_2 x2_3 g g_2 x16_0 x16_1 x16_2 x16_3 x16_4 x16_5 a16_6 n16_6 c16_6 x16_7 x16_8 x16_9 a16_10 n16_10 c16_10 x23_1_2 g_9 x23_0_0_2 x23_0_1_2 x23_0_2_2 b23_0_3_2 w_31
    )
  ) ∧
  (
    newO w_6 (.cells #[.int .i64 0, .int .i64 0, .int .i64 0, .bool false] 56) fun g_10 w_32 =>
    Calls Try.prog 23 #[.agg #[.int .i64 x16_0, .int .i64 x16_1, .int .i64 x16_2, .int .i64 x16_3, .int .i64 x16_4, .int .i64 x16_5, .slice a16_6 n16_6 c16_6, .int .i64 x16_7, .int .i64 x16_8, .int .i64 x16_9, .slice a16_10 n16_10 c16_10]] w_32 fun e_13 w_33 => KeepG [g_10, g_2, g] w_32 w_33 ∧
    ∃ (x19_0_2 : Int) (x19_1_2 : Int) (x19_2_2 : Int) (x19_3_2 : Int) (x19_4_2 : Int) (x19_5_2 : Int) (a19_6_2 : Option Addr) (n19_6_2 : Nat) (c19_6_2 : Nat) (x19_7_2 : Int) (x19_8_2 : Int) (x19_9_2 : Int) (a19_10_2 : Option Addr) (n19_10_2 : Nat) (c19_10_2 : Nat),
    e_13 = .returned (.agg #[.int .i64 x19_0_2, .int .i64 x19_1_2, .int .i64 x19_2_2, .int .i64 x19_3_2, .int .i64 x19_4_2, .int .i64 x19_5_2, .slice a19_6_2 n19_6_2 c19_6_2, .int .i64 x19_7_2, .int .i64 x19_8_2, .int .i64 x19_9_2, .slice a19_10_2 n19_10_2 c19_10_2]) ∧
    Calls Try.prog 22 #[.agg #[.int .i64 x19_0_2, .int .i64 x19_1_2, .int .i64 x19_2_2, .int .i64 x19_3_2, .int .i64 x19_4_2, .int .i64 x19_5_2, .slice a19_6_2 n19_6_2 c19_6_2, .int .i64 x19_7_2, .int .i64 x19_8_2, .int .i64 x19_9_2, .slice a19_10_2 n19_10_2 c19_10_2], .int .i64 x1, .int .i64 x2_0] w_33 fun e_14 w_34 => KeepG [g_10, g_2, g] w_33 w_34 ∧
    ∃ (x23_0_0_3 : Int) (x23_0_1_3 : Int) (x23_0_2_3 : Int) (b23_0_3_3 : Bool) (x23_1_3 : Int),
    e_14 = .returned (.tuple #[.agg #[.int .i64 x23_0_0_3, .int .i64 x23_0_1_3, .int .i64 x23_0_2_3, .bool b23_0_3_3], .int .i64 x23_1_3]) ∧
    ∀ w_35 : World, BoxSt g_10 w_34 w_35 →
    gbounds_k2 K x1 x2_0 x2_1 x2_2 x2_3 g g_2 x16_0 x16_1 x16_2 x16_3 x16_4 x16_5 a16_6 n16_6 c16_6 x16_7 x16_8 x16_9 a16_10 n16_10 c16_10 x23_1_3 g_10 x23_0_0_3 x23_0_1_3 x23_0_2_3 b23_0_3_3 w_35
  )
def gbounds_notes : Notes := ⟨[(2, ⟨[0, 1, 0, 0, 8, 31, 63, 127, 127, 0, 767, 2047], [1, 5, 9, 10], [0, 2, 3, 4, 6, 7, 8, 11]⟩), (6, ⟨[0, 1, 3, 7, 15, 0, 32, 96, 224, 480, 31, 2047], [], [0, 1, 2, 3, 4, 5, 6, 7, 8, 9, 10, 11]⟩), (7, ⟨[0, 0, 2, 0, 0, 0, 63, 127, 255, 255, 255, 0, 2559, 7167, 16383], [2, 6, 11, 12], [0, 1, 3, 4, 5, 7, 8, 9, 10, 13, 14]⟩)], [], []⟩
theorem gbounds_calls (x0_0 : Int) (x0_1 : Int) (x0_2 : Int) (x0_3 : Int) (x0_4 : Int) (x0_5 : Int) (a0_6 : Option Addr) (n0_6 : Nat) (c0_6 : Nat) (x0_7 : Int) (x0_8 : Int) (x0_9 : Int) (a0_10 : Option Addr) (n0_10 : Nat) (c0_10 : Nat) (x1 : Int) (x2_0 : Int) (x2_1 : Int) (x2_2 : Int) (x2_3 : Int) (w : World) (K : Value → World → Prop) (h : gbounds_vc x0_0 x0_1 x0_2 x0_3 x0_4 x0_5 a0_6 n0_6 c0_6 x0_7 x0_8 x0_9 a0_10 n0_10 c0_10 x1 x2_0 x2_1 x2_2 x2_3 w K) : Calls Try.prog 6 #[.agg #[.int .i64 x0_0, .int .i64 x0_1, .int .i64 x0_2, .int .i64 x0_3, .int .i64 x0_4, .int .i64 x0_5, .slice a0_6 n0_6 c0_6, .int .i64 x0_7, .int .i64 x0_8, .int .i64 x0_9, .slice a0_10 n0_10 c0_10], .int .i64 x1, .agg #[.int .i64 x2_0, .int .i64 x2_1, .int .i64 x2_2, .int .i64 x2_3]] w fun e w' => ∃ v, e = .returned v ∧ K v w' :=
  calls_of_fvc envOk Try.func6 gbounds_notes [3, 5, 7, 12] [.agg #[.int .i64 x0_0, .int .i64 x0_1, .int .i64 x0_2, .int .i64 x0_3, .int .i64 x0_4, .int .i64 x0_5, .slice a0_6 n0_6 c0_6, .int .i64 x0_7, .int .i64 x0_8, .int .i64 x0_9, .slice a0_10 n0_10 c0_10], .int .i64 x1, .agg #[.int .i64 x2_0, .int .i64 x2_1, .int .i64 x2_2, .int .i64 x2_3]] w K (use_vc h (by as_aux_lemma => kernel_rfl))
end GGrant
end Go.Proofs.Ytckeljphaeickaa
end
