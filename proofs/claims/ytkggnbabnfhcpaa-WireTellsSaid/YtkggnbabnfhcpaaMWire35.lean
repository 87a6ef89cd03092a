import Derived.Test.YtkggnbabnfhcpaaProg
import Derived.Test.YtkggnbabnfhcpaaMWire32
import Derived.Test.YtkggnbabnfhcpaaMWire33
import Derived.Test.YtkggnbabnfhcpaaMWire34
import Derived.Test.YtkggnbabnfhcpaaRows
import Derived.Test.YtkggnbabnfhcpaaMWire31
import Derived.Laws.BitsAllLaws
import Derived.Deep.Cut
import Derived.Lib.Mul64
import Derived.Laws.Bits64b
import Derived.Laws.Externs
set_option linter.unusedVariables false
section
/- Conditions of functions, printed by a program of this claim's own (vcgen.py) out of the loaded code; each is proved to be enough. -/
set_option maxRecDepth 100000
namespace Go.Proofs.Ytkggnbabnfhcpaa
open Go.RowKit
namespace GTarB
def env : Env := ⟨[(3, ⟨.int .i64, 1, .int .i64 0, 8, [.int .i64]⟩), (4, ⟨.bool, 1, .bool false, 1, [.bool]⟩), (9, ⟨.str, 1, .string ByteArray.empty, 16, [.str]⟩), (23, ⟨.slice 142, 1, .slice none 0 0, 24, [.slice]⟩), (25, ⟨.struct [(0, 3), (1, 3), (2, 3), (3, 23)], 4, .agg #[.int .i64 0, .int .i64 0, .int .i64 0, .slice none 0 0], 48, [.int .i64, .int .i64, .int .i64, .slice]⟩), (27, ⟨.struct [(0, 3), (1, 3), (2, 3), (3, 25), (7, 25)], 11, .agg #[.int .i64 0, .int .i64 0, .int .i64 0, .int .i64 0, .int .i64 0, .int .i64 0, .slice none 0 0, .int .i64 0, .int .i64 0, .int .i64 0, .slice none 0 0], 120, [.int .i64, .int .i64, .int .i64, .int .i64, .int .i64, .int .i64, .slice, .int .i64, .int .i64, .int .i64, .slice]⟩), (28, ⟨.slice 3, 1, .slice none 0 0, 24, [.slice]⟩), (32, ⟨.slice 5, 1, .slice none 0 0, 24, [.slice]⟩), (33, ⟨.int .i64, 1, .int .i64 0, 8, [.int .i64]⟩), (37, ⟨.struct [(0, 3), (1, 3), (2, 3), (3, 25), (7, 25)], 11, .agg #[.int .i64 0, .int .i64 0, .int .i64 0, .int .i64 0, .int .i64 0, .int .i64 0, .slice none 0 0, .int .i64 0, .int .i64 0, .int .i64 0, .slice none 0 0], 120, [.int .i64, .int .i64, .int .i64, .int .i64, .int .i64, .int .i64, .slice, .int .i64, .int .i64, .int .i64, .slice]⟩), (71, ⟨.struct [(0, 32), (1, 4)], 2, .agg #[.slice none 0 0, .bool false], 32, [.slice, .bool]⟩), (76, ⟨.slice 112, 1, .slice none 0 0, 24, [.slice]⟩), (100, ⟨.struct [(0, 9), (1, 33)], 2, .agg #[.string ByteArray.empty, .int .i64 0], 24, [.str, .int .i64]⟩), (112, ⟨.ptr, 1, .pointer none, 8, [.ptr]⟩), (142, ⟨.struct [(0, 3), (1, 3)], 2, .agg #[.int .i64 0, .int .i64 0], 16, [.int .i64, .int .i64]⟩)], [(22, []), (30, [.lf (.int .i64)]), (33, [.lf (.ptr)]), (34, [.lf (.int .i64)]), (38, [.lf (.int .i64)]), (43, [.lf (.int .i64)]), (57, [.lf (.slice), .lf (.int .i64)]), (58, [.lf (.str)]), (61, [.lf (.str)]), (67, [.lf (.int .i64)]), (70, [.agg [.int .i64, .int .i64, .int .i64, .slice]]), (71, [.lf (.bool)]), (72, [.lf (.int .i64)]), (73, []), (75, [.agg [.int .i64, .int .i64, .int .i64, .slice]])], []⟩
theorem ty3 : TyOk Try.prog 3 ⟨.int .i64, 1, .int .i64 0, 8, [.int .i64]⟩ := tyok (by kernel_rfl) (by kernel_rfl)
theorem ty4 : TyOk Try.prog 4 ⟨.bool, 1, .bool false, 1, [.bool]⟩ := tyok (by kernel_rfl) (by kernel_rfl)
theorem ty9 : TyOk Try.prog 9 ⟨.str, 1, .string ByteArray.empty, 16, [.str]⟩ := tyok (by kernel_rfl) (by kernel_rfl)
theorem ty23 : TyOk Try.prog 23 ⟨.slice 142, 1, .slice none 0 0, 24, [.slice]⟩ := tyok (by kernel_rfl) (by kernel_rfl)
theorem ty25 : TyOk Try.prog 25 ⟨.struct [(0, 3), (1, 3), (2, 3), (3, 23)], 4, .agg #[.int .i64 0, .int .i64 0, .int .i64 0, .slice none 0 0], 48, [.int .i64, .int .i64, .int .i64, .slice]⟩ := tyok (by kernel_rfl) (by kernel_rfl)
theorem ty27 : TyOk Try.prog 27 ⟨.struct [(0, 3), (1, 3), (2, 3), (3, 25), (7, 25)], 11, .agg #[.int .i64 0, .int .i64 0, .int .i64 0, .int .i64 0, .int .i64 0, .int .i64 0, .slice none 0 0, .int .i64 0, .int .i64 0, .int .i64 0, .slice none 0 0], 120, [.int .i64, .int .i64, .int .i64, .int .i64, .int .i64, .int .i64, .slice, .int .i64, .int .i64, .int .i64, .slice]⟩ := tyok (by kernel_rfl) (by kernel_rfl)
theorem ty28 : TyOk Try.prog 28 ⟨.slice 3, 1, .slice none 0 0, 24, [.slice]⟩ := tyok (by kernel_rfl) (by kernel_rfl)
theorem ty32 : TyOk Try.prog 32 ⟨.slice 5, 1, .slice none 0 0, 24, [.slice]⟩ := tyok (by kernel_rfl) (by kernel_rfl)
theorem ty33 : TyOk Try.prog 33 ⟨.int .i64, 1, .int .i64 0, 8, [.int .i64]⟩ := tyok (by kernel_rfl) (by kernel_rfl)
theorem ty37 : TyOk Try.prog 37 ⟨.struct [(0, 3), (1, 3), (2, 3), (3, 25), (7, 25)], 11, .agg #[.int .i64 0, .int .i64 0, .int .i64 0, .int .i64 0, .int .i64 0, .int .i64 0, .slice none 0 0, .int .i64 0, .int .i64 0, .int .i64 0, .slice none 0 0], 120, [.int .i64, .int .i64, .int .i64, .int .i64, .int .i64, .int .i64, .slice, .int .i64, .int .i64, .int .i64, .slice]⟩ := tyok (by kernel_rfl) (by kernel_rfl)
theorem ty71 : TyOk Try.prog 71 ⟨.struct [(0, 32), (1, 4)], 2, .agg #[.slice none 0 0, .bool false], 32, [.slice, .bool]⟩ := tyok (by kernel_rfl) (by kernel_rfl)
theorem ty76 : TyOk Try.prog 76 ⟨.slice 112, 1, .slice none 0 0, 24, [.slice]⟩ := tyok (by kernel_rfl) (by kernel_rfl)
theorem ty100 : TyOk Try.prog 100 ⟨.struct [(0, 9), (1, 33)], 2, .agg #[.string ByteArray.empty, .int .i64 0], 24, [.str, .int .i64]⟩ := tyok (by kernel_rfl) (by kernel_rfl)
theorem ty112 : TyOk Try.prog 112 ⟨.ptr, 1, .pointer none, 8, [.ptr]⟩ := tyok (by kernel_rfl) (by kernel_rfl)
theorem ty142 : TyOk Try.prog 142 ⟨.struct [(0, 3), (1, 3)], 2, .agg #[.int .i64 0, .int .i64 0], 16, [.int .i64, .int .i64]⟩ := tyok (by kernel_rfl) (by kernel_rfl)
theorem fn22 : FnOk Try.prog 22 := fnok Try.func22 (by kernel_rfl) (by kernel_rfl)
theorem fn30 : FnOk Try.prog 30 := fnok Try.func30 (by kernel_rfl) (by kernel_rfl)
theorem fn33 : FnOk Try.prog 33 := fnok Try.func33 (by kernel_rfl) (by kernel_rfl)
theorem fn34 : FnOk Try.prog 34 := fnok Try.func34 (by kernel_rfl) (by kernel_rfl)
theorem fn38 : FnOk Try.prog 38 := fnok Try.func38 (by kernel_rfl) (by kernel_rfl)
theorem fn43 : FnOk Try.prog 43 := fnok Try.func43 (by kernel_rfl) (by kernel_rfl)
theorem fn57 : FnOk Try.prog 57 := fnok Try.func57 (by kernel_rfl) (by kernel_rfl)
theorem fn58 : FnOk Try.prog 58 := fnok Try.func58 (by kernel_rfl) (by kernel_rfl)
theorem fn61 : FnOk Try.prog 61 := fnok Try.func61 (by kernel_rfl) (by kernel_rfl)
theorem fn67 : FnOk Try.prog 67 := fnok Try.func67 (by kernel_rfl) (by kernel_rfl)
theorem fn70 : FnOk Try.prog 70 := fnok Try.func70 (by kernel_rfl) (by kernel_rfl)
theorem fn71 : FnOk Try.prog 71 := fnok Try.func71 (by kernel_rfl) (by kernel_rfl)
theorem fn72 : FnOk Try.prog 72 := fnok Try.func72 (by kernel_rfl) (by kernel_rfl)
theorem fn73 : FnOk Try.prog 73 := fnok Try.func73 (by kernel_rfl) (by kernel_rfl)
theorem fn75 : FnOk Try.prog 75 := fnok Try.func75 (by kernel_rfl) (by kernel_rfl)
theorem envOk : EOk Try.prog env := ⟨(by simp only [env, List.forall_mem_cons, List.not_mem_nil, false_implies, implies_true, and_true]; exact ⟨ty3, ty4, ty9, ty23, ty25, ty27, ty28, ty32, ty33, ty37, ty71, ty76, ty100, ty112, ty142⟩), (by simp only [env, List.forall_mem_cons, List.not_mem_nil, false_implies, implies_true, and_true]; exact ⟨fn22, fn30, fn33, fn34, fn38, fn43, fn57, fn58, fn61, fn67, fn70, fn71, fn72, fn73, fn75⟩), by kernel_rfl, (fun _ h => by cases h)⟩
/-- purser/tariff.put -/
def put_vc (p0 : Option Addr) (x1_0 : Int) (x1_1 : Int) (x1_2 : Int) (a1_3 : Option Addr) (n1_3 : Nat) (c1_3 : Nat) (w : World) (K : Value → World → Prop) : Prop :=
  newO w (.cells #[.int .i64 x1_0, .int .i64 x1_1, .int .i64 x1_2, .slice a1_3 n1_3 c1_3] 25) fun g w_2 =>
  newO w_2 (.cells #[.int .i64 x1_0, .int .i64 x1_1, .int .i64 x1_2, .int .i64 ((n1_3 : Nat) : Int)] 3) fun g_2 w_3 =>
  ∃ (I : Int → World → Prop) (μ : Int → World → Nat),
  I 0 w_3 ∧
  ∀ (x19 : Int) (w_4 : World), I x19 w_4 →
  br (decide (x19 < ((4 : Nat) : Int))) (
    (0 : Int) ≤ x19 ∧ x19 < (((4 : Nat) : Int) : Int) ∧
    ∃ (x22 : Int), w_4.cell? ⟨g_2, 0 + x19.toNat * 1, none⟩ = some (.int .i64 x22) ∧
    Calls Try.prog 22 #[.pointer p0, .int .i64 x22] w_4 fun e w_5 => KeepG [g] w_4 w_5 ∧
    e = .returned (.tuple #[]) ∧
    I (IntKind.i64.wrap (x19 + 1)) w_5 ∧ μ (IntKind.i64.wrap (x19 + 1)) w_5 < μ x19 w_4
  ) (
    ∃ (I_2 : Int → World → Prop) (μ_2 : Int → World → Nat),
    I_2 0 w_4 ∧
    ∀ (x30 : Int) (w_6 : World), I_2 x30 w_6 →
    br (decide (x30 < ((n1_3 : Nat) : Int))) (
      withP a1_3 fun g32 o32 =>
      (0 : Int) ≤ x30 ∧ x30 < (((n1_3 : Nat) : Int) : Int) ∧
      ∃ (x33_0 : Int) (x33_1 : Int),
      cellsAt w_6 g32 (o32 + x30.toNat * 2) [.int .i64 x33_0, .int .i64 x33_1] ∧
      newO w_6 (.cells #[.int .i64 0, .int .i64 0] 142) fun g_3 w_7 =>
      ∀ w_8 : World, BoxSt g_3 w_7 w_8 →
      Calls Try.prog 22 #[.pointer p0, .int .i64 x33_0] w_8 fun e_2 w_9 => KeepG [g_3, g] w_8 w_9 ∧
      e_2 = .returned (.tuple #[]) ∧
      Calls Try.prog 22 #[.pointer p0, .int .i64 x33_1] w_9 fun e_3 w_10 => KeepG [g_3, g] w_9 w_10 ∧
      e_3 = .returned (.tuple #[]) ∧
      I_2 (IntKind.i64.wrap (x30 + 1)) w_10 ∧ μ_2 (IntKind.i64.wrap (x30 + 1)) w_10 < μ_2 x30 w_6
    ) (
      K (.tuple #[]) w_6
    )
  )
def put_notes : Notes := ⟨[], [(2, ⟨[(19, .lf (.int .i64))], [], [20, 21, 22, 5, 23, 24, 25, 26, 19], []⟩), (7, ⟨[(30, .lf (.int .i64))], [], [31, 32, 33, 7, 34, 35, 36, 37, 38, 39, 40, 41, 42, 30], [7]⟩)], [], []⟩
set_option maxHeartbeats 4000000 in
theorem put_calls (p0 : Option Addr) (x1_0 : Int) (x1_1 : Int) (x1_2 : Int) (a1_3 : Option Addr) (n1_3 : Nat) (c1_3 : Nat) (w : World) (K : Value → World → Prop) (h : put_vc p0 x1_0 x1_1 x1_2 a1_3 n1_3 c1_3 w K) : Calls Try.prog 73 #[.pointer p0, .agg #[.int .i64 x1_0, .int .i64 x1_1, .int .i64 x1_2, .slice a1_3 n1_3 c1_3]] w fun e w' => ∃ v, e = .returned v ∧ K v w' :=
  calls_of_eq envOk Try.func73 put_notes [3, 7] [.pointer p0, .agg #[.int .i64 x1_0, .int .i64 x1_1, .int .i64 x1_2, .slice a1_3 n1_3 c1_3]] w K h (by as_aux_lemma => kernel_rfl)
/-- purser/tariff.take -/
def take_vc (p0 : Option Addr) (w : World) (K : Value → World → Prop) : Prop :=
  newO w (.cells #[.int .i64 0, .int .i64 0, .int .i64 0, .slice none 0 0] 25) fun g w_2 =>
  newO w_2 (.cells #[.int .i64 0, .int .i64 0, .int .i64 0, .slice none 0 0] 25) fun g_2 w_3 =>
  newO w_3 (.cells #[.pointer (some ⟨g_2, 0, none⟩), .pointer (some ⟨g_2, 1, none⟩), .pointer (some ⟨g_2, 2, none⟩)] 112) fun g_3 w_4 =>
  ∃ (I : Int → World → Prop) (μ : Int → World → Nat),
  I 0 w_4 ∧
  ∀ (x12 : Int) (w_5 : World), I x12 w_5 →
  br (decide (x12 < ((3 : Nat) : Int))) (
    (0 : Int) ≤ x12 ∧ x12 < (((3 : Nat) : Int) : Int) ∧
    ∃ (p15 : Option Addr), w_5.cell? ⟨g_3, 0 + x12.toNat * 1, none⟩ = some (.pointer p15) ∧
    Calls Try.prog 34 #[.pointer p0, .int .i64 1099511627776] w_5 fun e w_6 => KeepG [g] w_5 w_6 ∧
    ∃ (x18 : Int),
    e = .returned (.int .i64 x18) ∧
    withP p15 fun g19 o19 =>
    stO [g] w_6 g19 o19 [.int .i64 x18] fun w_7 =>
    I (IntKind.i64.wrap (x12 + 1)) w_7 ∧ μ (IntKind.i64.wrap (x12 + 1)) w_7 < μ x12 w_5
  ) (
    Calls Try.prog 34 #[.pointer p0, .int .i64 6] w_5 fun e_2 w_8 => KeepG [g] w_5 w_8 ∧
    ∃ (x22 : Int),
    e_2 = .returned (.int .i64 x22) ∧
    ∃ (I_2 : Int → World → Prop) (μ_2 : Int → World → Nat),
    I_2 0 w_8 ∧
    ∀ (x23 : Int) (w_9 : World), I_2 x23 w_9 →
    br (decide (x23 < x22)) (
      Calls Try.prog 34 #[.pointer p0, .int .i64 1099511627776] w_9 fun e_3 w_10 => KeepG [g] w_9 w_10 ∧
      ∃ (x26 : Int),
      e_3 = .returned (.int .i64 x26) ∧
      newO w_10 (.cells #[.int .i64 0, .int .i64 0] 142) fun g_4 w_11 =>
      ∀ w_12 : World, BoxSt g_4 w_11 w_12 →
      Calls Try.prog 34 #[.pointer p0, .int .i64 1099511627776] w_12 fun e_4 w_13 => KeepG [g_4, g] w_12 w_13 ∧
      ∃ (x29 : Int),
      e_4 = .returned (.int .i64 x29) ∧
      ∀ w_14 : World, BoxSt g_4 w_13 w_14 →
      ∃ (a32 : Option Addr) (n32 : Nat) (c32 : Nat), w_14.cell? ⟨g_2, 3, none⟩ = some (.slice a32 n32 c32) ∧
      newO w_14 (.cells #[.int .i64 x26, .int .i64 x29] 142) fun g_5 w_15 =>
      appO Try.prog [g_4, g] w_15 142 2 16 23 a32 n32 c32 (.slice (some ⟨g_5, 0, none⟩) 1 1) fun m35 a35 c35 w_16 =>
      stO [g_4, g] w_16 g_2 3 [.slice a35 (n32 + m35) c35] fun w_17 =>
      I_2 (IntKind.i64.wrap (x23 + 1)) w_17 ∧ μ_2 (IntKind.i64.wrap (x23 + 1)) w_17 < μ_2 x23 w_9
    ) (
      ∃ (x38_0 : Int) (x38_1 : Int) (x38_2 : Int) (a38_3 : Option Addr) (n38_3 : Nat) (c38_3 : Nat),
      cellsAt w_9 g_2 0 [.int .i64 x38_0, .int .i64 x38_1, .int .i64 x38_2, .slice a38_3 n38_3 c38_3] ∧
      ∀ w_18 : World, BoxSt g w_9 w_18 →
      K (.agg #[.int .i64 x38_0, .int .i64 x38_1, .int .i64 x38_2, .slice a38_3 n38_3 c38_3]) w_18
    )
  )
def take_notes : Notes := ⟨[], [(3, ⟨[(12, .lf (.int .i64))], [], [13, 14, 15, 5, 16, 17, 18, 19, 20, 12], []⟩), (8, ⟨[(23, .lf (.int .i64))], [], [24, 25, 26, 27, 6, 28, 29, 30, 31, 32, 33, 34, 35, 36, 37, 23], [6]⟩)], [], []⟩
set_option maxHeartbeats 4000000 in
theorem take_calls (p0 : Option Addr) (w : World) (K : Value → World → Prop) (h : take_vc p0 w K) : Calls Try.prog 75 #[.pointer p0] w fun e w' => ∃ v, e = .returned v ∧ K v w' :=
  calls_of_eq envOk Try.func75 take_notes [2, 6] [.pointer p0] w K h (by as_aux_lemma => kernel_rfl)
/-- purser/tariff.Write -/
def write_vc (x0_0 : Int) (x0_1 : Int) (x0_2 : Int) (x0_3 : Int) (x0_4 : Int) (x0_5 : Int) (a0_6 : Option Addr) (n0_6 : Nat) (c0_6 : Nat) (x0_7 : Int) (x0_8 : Int) (x0_9 : Int) (a0_10 : Option Addr) (n0_10 : Nat) (c0_10 : Nat) (w : World) (K : Value → World → Prop) : Prop :=
  newO w (.cells #[.int .i64 x0_0, .int .i64 x0_1, .int .i64 x0_2, .int .i64 x0_3, .int .i64 x0_4, .int .i64 x0_5, .slice a0_6 n0_6 c0_6, .int .i64 x0_7, .int .i64 x0_8, .int .i64 x0_9, .slice a0_10 n0_10 c0_10] 37) fun g w_2 =>
  Calls Try.prog 72 #[.agg #[.int .i64 x0_0, .int .i64 x0_1, .int .i64 x0_2, .int .i64 x0_3, .int .i64 x0_4, .int .i64 x0_5, .slice a0_6 n0_6 c0_6, .int .i64 x0_7, .int .i64 x0_8, .int .i64 x0_9, .slice a0_10 n0_10 c0_10]] w_2 fun e w_3 => KeepG [g] w_2 w_3 ∧
  ∃ (x7 : Int),
  e = .returned (.int .i64 x7) ∧
  br (decide (x7 ≠ 0)) (
    K (.tuple #[.slice none 0 0, .int .i64 x7]) w_3
  ) (
    newO w_3 (.cells #[.slice none 0 0, .bool false] 71) fun g_2 w_4 =>
    Calls Try.prog 22 #[.pointer (some ⟨g_2, 0, none⟩), .int .i64 x0_0] w_4 fun e_2 w_5 => KeepG [g] w_4 w_5 ∧
    e_2 = .returned (.tuple #[]) ∧
    Calls Try.prog 22 #[.pointer (some ⟨g_2, 0, none⟩), .int .i64 x0_1] w_5 fun e_3 w_6 => KeepG [g] w_5 w_6 ∧
    e_3 = .returned (.tuple #[]) ∧
    Calls Try.prog 22 #[.pointer (some ⟨g_2, 0, none⟩), .int .i64 x0_2] w_6 fun e_4 w_7 => KeepG [g] w_6 w_7 ∧
    e_4 = .returned (.tuple #[]) ∧
    Calls Try.prog 73 #[.pointer (some ⟨g_2, 0, none⟩), .agg #[.int .i64 x0_3, .int .i64 x0_4, .int .i64 x0_5, .slice a0_6 n0_6 c0_6]] w_7 fun e_5 w_8 => KeepG [g] w_7 w_8 ∧
    e_5 = .returned (.tuple #[]) ∧
    br (decide (x0_0 ≠ 0)) (
      Calls Try.prog 73 #[.pointer (some ⟨g_2, 0, none⟩), .agg #[.int .i64 x0_7, .int .i64 x0_8, .int .i64 x0_9, .slice a0_10 n0_10 c0_10]] w_8 fun e_6 w_9 => KeepG [g] w_8 w_9 ∧
      e_6 = .returned (.tuple #[]) ∧
      Calls Try.prog 57 #[.pointer (some ⟨g_2, 0, none⟩)] w_9 fun e_7 w_10 => KeepG [g] w_9 w_10 ∧
      ∃ (a37_0 : Option Addr) (n37_0 : Nat) (c37_0 : Nat) (x37_1 : Int),
      e_7 = .returned (.tuple #[.slice a37_0 n37_0 c37_0, .int .i64 x37_1]) ∧
      K (.tuple #[.slice a37_0 n37_0 c37_0, .int .i64 x37_1]) w_10
    ) (
      Calls Try.prog 57 #[.pointer (some ⟨g_2, 0, none⟩)] w_8 fun e_8 w_11 => KeepG [g] w_8 w_11 ∧
      ∃ (a37_0_2 : Option Addr) (n37_0_2 : Nat) (c37_0_2 : Nat) (x37_1_2 : Int),
      e_8 = .returned (.tuple #[.slice a37_0_2 n37_0_2 c37_0_2, .int .i64 x37_1_2]) ∧
      K (.tuple #[.slice a37_0_2 n37_0_2 c37_0_2, .int .i64 x37_1_2]) w_11
    )
  )
def write_notes : Notes := ⟨[], [], [], []⟩
set_option maxHeartbeats 4000000 in
theorem write_calls (x0_0 : Int) (x0_1 : Int) (x0_2 : Int) (x0_3 : Int) (x0_4 : Int) (x0_5 : Int) (a0_6 : Option Addr) (n0_6 : Nat) (c0_6 : Nat) (x0_7 : Int) (x0_8 : Int) (x0_9 : Int) (a0_10 : Option Addr) (n0_10 : Nat) (c0_10 : Nat) (w : World) (K : Value → World → Prop) (h : write_vc x0_0 x0_1 x0_2 x0_3 x0_4 x0_5 a0_6 n0_6 c0_6 x0_7 x0_8 x0_9 a0_10 n0_10 c0_10 w K) : Calls Try.prog 56 #[.agg #[.int .i64 x0_0, .int .i64 x0_1, .int .i64 x0_2, .int .i64 x0_3, .int .i64 x0_4, .int .i64 x0_5, .slice a0_6 n0_6 c0_6, .int .i64 x0_7, .int .i64 x0_8, .int .i64 x0_9, .slice a0_10 n0_10 c0_10]] w fun e w' => ∃ v, e = .returned v ∧ K v w' :=
  calls_of_eq envOk Try.func56 write_notes [1] [.agg #[.int .i64 x0_0, .int .i64 x0_1, .int .i64 x0_2, .int .i64 x0_3, .int .i64 x0_4, .int .i64 x0_5, .slice a0_6 n0_6 c0_6, .int .i64 x0_7, .int .i64 x0_8, .int .i64 x0_9, .slice a0_10 n0_10 c0_10]] w K h (by as_aux_lemma => kernel_rfl)
/-- purser/tariff.Read -/
def read_vc (a0 : Option Addr) (n0 : Nat) (c0 : Nat) (w : World) (K : Value → World → Prop) : Prop :=
  newO w (.cells #[.int .i64 0, .int .i64 0, .int .i64 0, .int .i64 0, .int .i64 0, .int .i64 0, .slice none 0 0, .int .i64 0, .int .i64 0, .int .i64 0, .slice none 0 0] 37) fun g w_2 =>
  Calls Try.prog 33 #[.slice a0 n0 c0] w_2 fun e w_3 => KeepG [g] w_2 w_3 ∧
  ∃ (p10 : Option Addr),
  e = .returned (.pointer p10) ∧
  newO w_3 (.cells #[.int .i64 0, .int .i64 0, .int .i64 0, .int .i64 0, .int .i64 0, .int .i64 0, .slice none 0 0, .int .i64 0, .int .i64 0, .int .i64 0, .slice none 0 0] 37) fun g_2 w_4 =>
  newO w_4 (.cells #[.pointer (some ⟨g_2, 0, none⟩), .pointer (some ⟨g_2, 1, none⟩), .pointer (some ⟨g_2, 2, none⟩)] 112) fun g_3 w_5 =>
  ∃ (I : Int → World → Prop) (μ : Int → World → Nat),
  I 0 w_5 ∧
  ∀ (x16 : Int) (w_6 : World), I x16 w_6 →
  br (decide (x16 < ((3 : Nat) : Int))) (
    (0 : Int) ≤ x16 ∧ x16 < (((3 : Nat) : Int) : Int) ∧
    ∃ (p19 : Option Addr), w_6.cell? ⟨g_3, 0 + x16.toNat * 1, none⟩ = some (.pointer p19) ∧
    Calls Try.prog 34 #[.pointer p10, .int .i64 1099511627776] w_6 fun e_2 w_7 => KeepG [g] w_6 w_7 ∧
    ∃ (x22 : Int),
    e_2 = .returned (.int .i64 x22) ∧
    withP p19 fun g23 o23 =>
    stO [g] w_7 g23 o23 [.int .i64 x22] fun w_8 =>
    I (IntKind.i64.wrap (x16 + 1)) w_8 ∧ μ (IntKind.i64.wrap (x16 + 1)) w_8 < μ x16 w_6
  ) (
    Calls Try.prog 75 #[.pointer p10] w_6 fun e_3 w_9 => KeepG [g] w_6 w_9 ∧
    ∃ (x26_0 : Int) (x26_1 : Int) (x26_2 : Int) (a26_3 : Option Addr) (n26_3 : Nat) (c26_3 : Nat),
    e_3 = .returned (.agg #[.int .i64 x26_0, .int .i64 x26_1, .int .i64 x26_2, .slice a26_3 n26_3 c26_3]) ∧
    stO [g] w_9 g_2 3 [.int .i64 x26_0, .int .i64 x26_1, .int .i64 x26_2, .slice a26_3 n26_3 c26_3] fun w_10 =>
    ∃ (x29 : Int), w_10.cell? ⟨g_2, 0, none⟩ = some (.int .i64 x29) ∧
    br (decide (x29 ≠ 0)) (
      Calls Try.prog 75 #[.pointer p10] w_10 fun e_4 w_11 => KeepG [g] w_10 w_11 ∧
      ∃ (x32_0 : Int) (x32_1 : Int) (x32_2 : Int) (a32_3 : Option Addr) (n32_3 : Nat) (c32_3 : Nat),
      e_4 = .returned (.agg #[.int .i64 x32_0, .int .i64 x32_1, .int .i64 x32_2, .slice a32_3 n32_3 c32_3]) ∧
      stO [g] w_11 g_2 7 [.int .i64 x32_0, .int .i64 x32_1, .int .i64 x32_2, .slice a32_3 n32_3 c32_3] fun w_12 =>
      Calls Try.prog 67 #[.pointer p10] w_12 fun e_5 w_13 => KeepG [g] w_12 w_13 ∧
      ∃ (x35 : Int),
      e_5 = .returned (.int .i64 x35) ∧
      br (decide (x35 ≠ 0)) (
        ∀ w_14 : World, BoxSt g w_13 w_14 →
        K (.tuple #[.agg #[.int .i64 0, .int .i64 0, .int .i64 0, .int .i64 0, .int .i64 0, .int .i64 0, .slice none 0 0, .int .i64 0, .int .i64 0, .int .i64 0, .slice none 0 0], .int .i64 2]) w_14
      ) (
        ∃ (x38_0 : Int) (x38_1 : Int) (x38_2 : Int) (x38_3 : Int) (x38_4 : Int) (x38_5 : Int) (a38_6 : Option Addr) (n38_6 : Nat) (c38_6 : Nat) (x38_7 : Int) (x38_8 : Int) (x38_9 : Int) (a38_10 : Option Addr) (n38_10 : Nat) (c38_10 : Nat),
        cellsAt w_13 g_2 0 [.int .i64 x38_0, .int .i64 x38_1, .int .i64 x38_2, .int .i64 x38_3, .int .i64 x38_4, .int .i64 x38_5, .slice a38_6 n38_6 c38_6, .int .i64 x38_7, .int .i64 x38_8, .int .i64 x38_9, .slice a38_10 n38_10 c38_10] ∧
        Calls Try.prog 72 #[.agg #[.int .i64 x38_0, .int .i64 x38_1, .int .i64 x38_2, .int .i64 x38_3, .int .i64 x38_4, .int .i64 x38_5, .slice a38_6 n38_6 c38_6, .int .i64 x38_7, .int .i64 x38_8, .int .i64 x38_9, .slice a38_10 n38_10 c38_10]] w_13 fun e_6 w_15 => KeepG [g] w_13 w_15 ∧
        ∃ (x39 : Int),
        e_6 = .returned (.int .i64 x39) ∧
        br (decide (x39 ≠ 0)) (
          ∀ w_16 : World, BoxSt g w_15 w_16 →
          K (.tuple #[.agg #[.int .i64 0, .int .i64 0, .int .i64 0, .int .i64 0, .int .i64 0, .int .i64 0, .slice none 0 0, .int .i64 0, .int .i64 0, .int .i64 0, .slice none 0 0], .int .i64 x39]) w_16
        ) (
          ∃ (x44_0 : Int) (x44_1 : Int) (x44_2 : Int) (x44_3 : Int) (x44_4 : Int) (x44_5 : Int) (a44_6 : Option Addr) (n44_6 : Nat) (c44_6 : Nat) (x44_7 : Int) (x44_8 : Int) (x44_9 : Int) (a44_10 : Option Addr) (n44_10 : Nat) (c44_10 : Nat),
          cellsAt w_15 g_2 0 [.int .i64 x44_0, .int .i64 x44_1, .int .i64 x44_2, .int .i64 x44_3, .int .i64 x44_4, .int .i64 x44_5, .slice a44_6 n44_6 c44_6, .int .i64 x44_7, .int .i64 x44_8, .int .i64 x44_9, .slice a44_10 n44_10 c44_10] ∧
          ∀ w_17 : World, BoxSt g w_15 w_17 →
          K (.tuple #[.agg #[.int .i64 x44_0, .int .i64 x44_1, .int .i64 x44_2, .int .i64 x44_3, .int .i64 x44_4, .int .i64 x44_5, .slice a44_6 n44_6 c44_6, .int .i64 x44_7, .int .i64 x44_8, .int .i64 x44_9, .slice a44_10 n44_10 c44_10], .int .i64 0]) w_17
        )
      )
    ) (
      Calls Try.prog 67 #[.pointer p10] w_10 fun e_7 w_18 => KeepG [g] w_10 w_18 ∧
      ∃ (x35_2 : Int),
      e_7 = .returned (.int .i64 x35_2) ∧
      br (decide (x35_2 ≠ 0)) (
        ∀ w_19 : World, BoxSt g w_18 w_19 →
        K (.tuple #[.agg #[.int .i64 0, .int .i64 0, .int .i64 0, .int .i64 0, .int .i64 0, .int .i64 0, .slice none 0 0, .int .i64 0, .int .i64 0, .int .i64 0, .slice none 0 0], .int .i64 2]) w_19
      ) (
        ∃ (x38_0_2 : Int) (x38_1_2 : Int) (x38_2_2 : Int) (x38_3_2 : Int) (x38_4_2 : Int) (x38_5_2 : Int) (a38_6_2 : Option Addr) (n38_6_2 : Nat) (c38_6_2 : Nat) (x38_7_2 : Int) (x38_8_2 : Int) (x38_9_2 : Int) (a38_10_2 : Option Addr) (n38_10_2 : Nat) (c38_10_2 : Nat),
        cellsAt w_18 g_2 0 [.int .i64 x38_0_2, .int .i64 x38_1_2, .int .i64 x38_2_2, .int .i64 x38_3_2, .int .i64 x38_4_2, .int .i64 x38_5_2, .slice a38_6_2 n38_6_2 c38_6_2, .int .i64 x38_7_2, .int .i64 x38_8_2, .int .i64 x38_9_2, .slice a38_10_2 n38_10_2 c38_10_2] ∧
        Calls Try.prog 72 #[.agg #[.int .i64 x38_0_2, .int .i64 x38_1_2, .int .i64 x38_2_2, .int .i64 x38_3_2, .int .i64 x38_4_2, .int .i64 x38_5_2, .slice a38_6_2 n38_6_2 c38_6_2, .int .i64 x38_7_2, .int .i64 x38_8_2, .int .i64 x38_9_2, .slice a38_10_2 n38_10_2 c38_10_2]] w_18 fun e_8 w_20 => KeepG [g] w_18 w_20 ∧
        ∃ (x39_2 : Int),
        e_8 = .returned (.int .i64 x39_2) ∧
        br (decide (x39_2 ≠ 0)) (
          ∀ w_21 : World, BoxSt g w_20 w_21 →
          K (.tuple #[.agg #[.int .i64 0, .int .i64 0, .int .i64 0, .int .i64 0, .int .i64 0, .int .i64 0, .slice none 0 0, .int .i64 0, .int .i64 0, .int .i64 0, .slice none 0 0], .int .i64 x39_2]) w_21
        ) (
          ∃ (x44_0_2 : Int) (x44_1_2 : Int) (x44_2_2 : Int) (x44_3_2 : Int) (x44_4_2 : Int) (x44_5_2 : Int) (a44_6_2 : Option Addr) (n44_6_2 : Nat) (c44_6_2 : Nat) (x44_7_2 : Int) (x44_8_2 : Int) (x44_9_2 : Int) (a44_10_2 : Option Addr) (n44_10_2 : Nat) (c44_10_2 : Nat),
          cellsAt w_20 g_2 0 [.int .i64 x44_0_2, .int .i64 x44_1_2, .int .i64 x44_2_2, .int .i64 x44_3_2, .int .i64 x44_4_2, .int .i64 x44_5_2, .slice a44_6_2 n44_6_2 c44_6_2, .int .i64 x44_7_2, .int .i64 x44_8_2, .int .i64 x44_9_2, .slice a44_10_2 n44_10_2 c44_10_2] ∧
          ∀ w_22 : World, BoxSt g w_20 w_22 →
          K (.tuple #[.agg #[.int .i64 x44_0_2, .int .i64 x44_1_2, .int .i64 x44_2_2, .int .i64 x44_3_2, .int .i64 x44_4_2, .int .i64 x44_5_2, .slice a44_6_2 n44_6_2 c44_6_2, .int .i64 x44_7_2, .int .i64 x44_8_2, .int .i64 x44_9_2, .slice a44_10_2 n44_10_2 c44_10_2], .int .i64 0]) w_22
        )
      )
    )
  )
def read_notes : Notes := ⟨[], [(4, ⟨[(16, .lf (.int .i64))], [], [17, 18, 19, 7, 20, 21, 22, 23, 24, 16], []⟩)], [], []⟩
set_option maxHeartbeats 4000000 in
theorem read_calls (a0 : Option Addr) (n0 : Nat) (c0 : Nat) (w : World) (K : Value → World → Prop) (h : read_vc a0 n0 c0 w K) : Calls Try.prog 66 #[.slice a0 n0 c0] w fun e w' => ∃ v, e = .returned v ∧ K v w' :=
  calls_of_eq envOk Try.func66 read_notes [2] [.slice a0 n0 c0] w K h (by as_aux_lemma => kernel_rfl)
/-- purser/purserref09.tariff -/
def rtariff_vc (x0_0 : Int) (x0_1 : Int) (x0_2 : Int) (a0_3 : Option Addr) (n0_3 : Nat) (c0_3 : Nat) (w : World) (K : Value → World → Prop) : Prop :=
  newO w (.cells #[.int .i64 x0_0, .int .i64 x0_1, .int .i64 x0_2, .slice a0_3 n0_3 c0_3] 25) fun g w_2 =>
  drewO w_2 fun w_3 =>
  Calls Try.prog 58 #[.int .i64 x0_0] w_3 fun e w_4 => KeepG [g] w_3 w_4 ∧
  ∃ (s7 : ByteArray),
  e = .returned (.string s7) ∧
  Calls Try.prog 58 #[.int .i64 x0_1] w_4 fun e_2 w_5 => KeepG [g] w_4 w_5 ∧
  ∃ (s10 : ByteArray),
  e_2 = .returned (.string s10) ∧
  s7.size + s10.size ≤ 9223372036854775807 ∧
  Calls Try.prog 58 #[.int .i64 x0_2] w_5 fun e_3 w_6 => KeepG [g] w_5 w_6 ∧
  ∃ (s14 : ByteArray),
  e_3 = .returned (.string s14) ∧
  (s7 ++ s10).size + s14.size ≤ 9223372036854775807 ∧
  Calls Try.prog 58 #[.int .i64 ((n0_3 : Nat) : Int)] w_6 fun e_4 w_7 => KeepG [g] w_6 w_7 ∧
  ∃ (s19 : ByteArray),
  e_4 = .returned (.string s19) ∧
  ((s7 ++ s10) ++ s14).size + s19.size ≤ 9223372036854775807 ∧
  ∃ (I : ByteArray → Int → World → Prop) (μ : ByteArray → Int → World → Nat),
  I (((s7 ++ s10) ++ s14) ++ s19) 0 w_7 ∧
  ∀ (s3 : ByteArray) (x4 : Int) (w_8 : World), I s3 x4 w_8 →
  br (decide (x4 < ((n0_3 : Nat) : Int))) (
    drewO w_8 fun w_9 =>
    withP a0_3 fun g32 o32 =>
    (0 : Int) ≤ x4 ∧ x4 < (((n0_3 : Nat) : Int) : Int) ∧
    ∃ (x34 : Int), w_9.cell? ⟨g32, o32 + x4.toNat * 2, none⟩ = some (.int .i64 x34) ∧
    withP a0_3 fun g40 o40 =>
    (0 : Int) ≤ x4 ∧ x4 < (((n0_3 : Nat) : Int) : Int) ∧
    ∃ (x42 : Int), w_9.cell? ⟨g40, o40 + x4.toNat * 2 + 1, none⟩ = some (.int .i64 x42) ∧
    Calls Try.prog 58 #[.int .i64 x34] w_9 fun e_5 w_10 => KeepG [g] w_9 w_10 ∧
    ∃ (s35 : ByteArray),
    e_5 = .returned (.string s35) ∧
    w_10.cell? ⟨g40, o40 + x4.toNat * 2 + 1, none⟩ = some (.int .i64 x42) ∧
    s3.size + s35.size ≤ 9223372036854775807 ∧
    Calls Try.prog 58 #[.int .i64 x42] w_10 fun e_6 w_11 => KeepG [g] w_10 w_11 ∧
    ∃ (s43 : ByteArray),
    e_6 = .returned (.string s43) ∧
    (s3 ++ s35).size + s43.size ≤ 9223372036854775807 ∧
    I ((s3 ++ s35) ++ s43) (IntKind.i64.wrap (x4 + 1)) w_11 ∧ μ ((s3 ++ s35) ++ s43) (IntKind.i64.wrap (x4 + 1)) w_11 < μ s3 x4 w_8
  ) (
    K (.string s3) w_8
  )
def rtariff_notes : Notes := ⟨[(1, ⟨[0, 1, 3, 0, 8, 31, 63, 0, 128, 447, 1023, 0, 2048, 6144, 15295, 32767, 65535], [2, 5, 9, 14], [0, 1, 3, 4, 6, 7, 8, 10, 11, 12, 13, 15, 16]⟩), (5, ⟨[0, 0, 2, 0, 14, 30, 62, 126, 255, 0, 512, 0, 3584, 7680, 15872, 32510, 65535, 131071], [7, 15], [0, 1, 2, 3, 4, 5, 6, 8, 9, 10, 11, 12, 13, 14, 16, 17]⟩)], [(3, ⟨[(3, .lf (.str)), (4, .lf (.int .i64))], [], [21, 22, 23, 24, 25, 28, 29, 30, 31, 32, 33, 34, 35, 36, 37, 38, 39, 40, 41, 42, 43, 44, 3, 26, 27, 4], []⟩)], [], []⟩
set_option maxHeartbeats 4000000 in
theorem rtariff_calls (x0_0 : Int) (x0_1 : Int) (x0_2 : Int) (a0_3 : Option Addr) (n0_3 : Nat) (c0_3 : Nat) (w : World) (K : Value → World → Prop) (h : rtariff_vc x0_0 x0_1 x0_2 a0_3 n0_3 c0_3 w K) : Calls Try.prog 61 #[.agg #[.int .i64 x0_0, .int .i64 x0_1, .int .i64 x0_2, .slice a0_3 n0_3 c0_3]] w fun e w' => ∃ v, e = .returned v ∧ K v w' :=
  calls_of_eq envOk Try.func61 rtariff_notes [1] [.agg #[.int .i64 x0_0, .int .i64 x0_1, .int .i64 x0_2, .slice a0_3 n0_3 c0_3]] w K h (by as_aux_lemma => kernel_rfl)
/-- purser/purserref09.Write -/
def rwrite_vc (x0_0 : Int) (x0_1 : Int) (x0_2 : Int) (x0_3 : Int) (x0_4 : Int) (x0_5 : Int) (a0_6 : Option Addr) (n0_6 : Nat) (c0_6 : Nat) (x0_7 : Int) (x0_8 : Int) (x0_9 : Int) (a0_10 : Option Addr) (n0_10 : Nat) (c0_10 : Nat) (w : World) (K : Value → World → Prop) : Prop :=
  newO w (.cells #[.int .i64 x0_0, .int .i64 x0_1, .int .i64 x0_2, .int .i64 x0_3, .int .i64 x0_4, .int .i64 x0_5, .slice a0_6 n0_6 c0_6, .int .i64 x0_7, .int .i64 x0_8, .int .i64 x0_9, .slice a0_10 n0_10 c0_10] 27) fun g w_2 =>
  drewO w_2 fun w_3 =>
  Calls Try.prog 58 #[.int .i64 x0_0] w_3 fun e w_4 => KeepG [g] w_3 w_4 ∧
  ∃ (s6 : ByteArray),
  e = .returned (.string s6) ∧
  Calls Try.prog 58 #[.int .i64 x0_1] w_4 fun e_2 w_5 => KeepG [g] w_4 w_5 ∧
  ∃ (s9 : ByteArray),
  e_2 = .returned (.string s9) ∧
  s6.size + s9.size ≤ 9223372036854775807 ∧
  Calls Try.prog 58 #[.int .i64 x0_2] w_5 fun e_3 w_6 => KeepG [g] w_5 w_6 ∧
  ∃ (s13 : ByteArray),
  e_3 = .returned (.string s13) ∧
  (s6 ++ s9).size + s13.size ≤ 9223372036854775807 ∧
  Calls Try.prog 61 #[.agg #[.int .i64 x0_3, .int .i64 x0_4, .int .i64 x0_5, .slice a0_6 n0_6 c0_6]] w_6 fun e_4 w_7 => KeepG [g] w_6 w_7 ∧
  ∃ (s17 : ByteArray),
  e_4 = .returned (.string s17) ∧
  ((s6 ++ s9) ++ s13).size + s17.size ≤ 9223372036854775807 ∧
  br (decide (x0_0 ≠ 0)) (
    Calls Try.prog 61 #[.agg #[.int .i64 x0_7, .int .i64 x0_8, .int .i64 x0_9, .slice a0_10 n0_10 c0_10]] w_7 fun e_5 w_8 => KeepG [g] w_7 w_8 ∧
    ∃ (s25 : ByteArray),
    e_5 = .returned (.string s25) ∧
    (((s6 ++ s9) ++ s13) ++ s17).size + s25.size ≤ 9223372036854775807 ∧
    K (.string ((((s6 ++ s9) ++ s13) ++ s17) ++ s25)) w_8
  ) (
    K (.string (((s6 ++ s9) ++ s13) ++ s17)) w_7
  )
def rwrite_notes : Notes := ⟨[(1, ⟨[0, 1, 3, 0, 8, 31, 63, 0, 128, 447, 1023, 0, 2048, 7103, 16383, 32767], [2, 5, 9, 13], [0, 1, 3, 4, 6, 7, 8, 10, 11, 12, 14, 15]⟩)], [], [], []⟩
set_option maxHeartbeats 4000000 in
theorem rwrite_calls (x0_0 : Int) (x0_1 : Int) (x0_2 : Int) (x0_3 : Int) (x0_4 : Int) (x0_5 : Int) (a0_6 : Option Addr) (n0_6 : Nat) (c0_6 : Nat) (x0_7 : Int) (x0_8 : Int) (x0_9 : Int) (a0_10 : Option Addr) (n0_10 : Nat) (c0_10 : Nat) (w : World) (K : Value → World → Prop) (h : rwrite_vc x0_0 x0_1 x0_2 x0_3 x0_4 x0_5 a0_6 n0_6 c0_6 x0_7 x0_8 x0_9 a0_10 n0_10 c0_10 w K) : Calls Try.prog 32 #[.agg #[.int .i64 x0_0, .int .i64 x0_1, .int .i64 x0_2, .int .i64 x0_3, .int .i64 x0_4, .int .i64 x0_5, .slice a0_6 n0_6 c0_6, .int .i64 x0_7, .int .i64 x0_8, .int .i64 x0_9, .slice a0_10 n0_10 c0_10]] w fun e w' => ∃ v, e = .returned v ∧ K v w' :=
  calls_of_eq envOk Try.func32 rwrite_notes [1] [.agg #[.int .i64 x0_0, .int .i64 x0_1, .int .i64 x0_2, .int .i64 x0_3, .int .i64 x0_4, .int .i64 x0_5, .slice a0_6 n0_6 c0_6, .int .i64 x0_7, .int .i64 x0_8, .int .i64 x0_9, .slice a0_10 n0_10 c0_10]] w K h (by as_aux_lemma => kernel_rfl)
/-- purser/purserref09.take -/
def rtake_vc (p0 : Option Addr) (w : World) (K : Value → World → Prop) : Prop :=
  newO w (.cells #[.int .i64 0, .int .i64 0, .int .i64 0, .slice none 0 0] 25) fun g w_2 =>
  Calls Try.prog 38 #[.pointer p0, .int .i64 1099511627776] w_2 fun e w_3 => KeepG [g] w_2 w_3 ∧
  ∃ (x8 : Int),
  e = .returned (.int .i64 x8) ∧
  newO w_3 (.cells #[.int .i64 0, .int .i64 0, .int .i64 0, .slice none 0 0] 25) fun g_2 w_4 =>
  ∀ w_5 : World, BoxSt g_2 w_4 w_5 →
  Calls Try.prog 38 #[.pointer p0, .int .i64 1099511627776] w_5 fun e_2 w_6 => KeepG [g_2, g] w_5 w_6 ∧
  ∃ (x11 : Int),
  e_2 = .returned (.int .i64 x11) ∧
  ∀ w_7 : World, BoxSt g_2 w_6 w_7 →
  Calls Try.prog 38 #[.pointer p0, .int .i64 1099511627776] w_7 fun e_3 w_8 => KeepG [g_2, g] w_7 w_8 ∧
  ∃ (x14 : Int),
  e_3 = .returned (.int .i64 x14) ∧
  ∀ w_9 : World, BoxSt g_2 w_8 w_9 →
  Calls Try.prog 38 #[.pointer p0, .int .i64 6] w_9 fun e_4 w_10 => KeepG [g_2, g] w_9 w_10 ∧
  ∃ (x17 : Int),
  e_4 = .returned (.int .i64 x17) ∧
  ∃ (I : Int → Int → Int → Int → Option Addr → Nat → Nat → World → Prop) (μ : Int → Int → Int → Int → Option Addr → Nat → Nat → World → Nat),
  I 0 x8 x11 x14 none 0 0 w_10 ∧
  ∀ (x5 : Int) (x3_0 : Int) (x3_1 : Int) (x3_2 : Int) (a3_3 : Option Addr) (n3_3 : Nat) (c3_3 : Nat) (w_11 : World), I x5 x3_0 x3_1 x3_2 a3_3 n3_3 c3_3 w_11 →
  br (decide (x5 < x17)) (
    withP p0 fun g23 o23 =>
    ∃ (x25 : Int), w_11.cell? ⟨g23, o23 + 1, none⟩ = some (.int .i64 x25) ∧
    br (decide (x25 = 0)) (
      Calls Try.prog 38 #[.pointer p0, .int .i64 1099511627776] w_11 fun e_5 w_12 => KeepG [g_2, g] w_11 w_12 ∧
      ∃ (x31 : Int),
      e_5 = .returned (.int .i64 x31) ∧
      newO w_12 (.cells #[.int .i64 0, .int .i64 0] 142) fun g_3 w_13 =>
      ∀ w_14 : World, BoxSt g_3 w_13 w_14 →
      Calls Try.prog 38 #[.pointer p0, .int .i64 1099511627776] w_14 fun e_6 w_15 => KeepG [g_3, g_2, g] w_14 w_15 ∧
      ∃ (x34 : Int),
      e_6 = .returned (.int .i64 x34) ∧
      ∀ w_16 : World, BoxSt g_3 w_15 w_16 →
      newO w_16 (.cells #[.int .i64 x31, .int .i64 x34] 142) fun g_4 w_17 =>
      appO Try.prog [g_3, g_2, g] w_17 142 2 16 23 a3_3 n3_3 c3_3 (.slice (some ⟨g_4, 0, none⟩) 1 1) fun m40 a40 c40 w_18 =>
      ∀ w_19 : World, BoxSt g_2 w_18 w_19 →
      I (IntKind.i64.wrap (x5 + 1)) x3_0 x3_1 x3_2 a40 (n3_3 + m40) c40 w_19 ∧ μ (IntKind.i64.wrap (x5 + 1)) x3_0 x3_1 x3_2 a40 (n3_3 + m40) c40 w_19 < μ x5 x3_0 x3_1 x3_2 a3_3 n3_3 c3_3 w_11
    ) (
      ∀ w_20 : World, BoxSt g w_11 w_20 →
      K (.agg #[.int .i64 x3_0, .int .i64 x3_1, .int .i64 x3_2, .slice a3_3 n3_3 c3_3]) w_20
    )
  ) (
    ∀ w_21 : World, BoxSt g w_11 w_21 →
    K (.agg #[.int .i64 x3_0, .int .i64 x3_1, .int .i64 x3_2, .slice a3_3 n3_3 c3_3]) w_21
  )
def rtake_notes : Notes := ⟨[], [(6, ⟨[(5, .lf (.int .i64))], [(3, [.int .i64, .int .i64, .int .i64, .slice])], [18, 19, 20, 21, 22, 23, 24, 25, 26, 27, 30, 31, 32, 6, 33, 34, 35, 36, 37, 38, 39, 40, 41, 28, 29, 5], [6, 3]⟩)], [], []⟩
set_option maxHeartbeats 4000000 in
theorem rtake_calls (p0 : Option Addr) (w : World) (K : Value → World → Prop) (h : rtake_vc p0 w K) : Calls Try.prog 70 #[.pointer p0] w fun e w' => ∃ v, e = .returned v ∧ K v w' :=
  calls_of_eq envOk Try.func70 rtake_notes [2, 3, 6] [.pointer p0] w K h (by as_aux_lemma => kernel_rfl)
/-- purser/purserref09.Read -/
def rread_vc (s0 : ByteArray) (w : World) (K : Value → World → Prop) : Prop :=
  newO w (.cells #[.int .i64 0, .int .i64 0, .int .i64 0, .int .i64 0, .int .i64 0, .int .i64 0, .slice none 0 0, .int .i64 0, .int .i64 0, .int .i64 0, .slice none 0 0] 27) fun g w_2 =>
  newO w_2 (.cells #[.string s0, .int .i64 0] 100) fun g_2 w_3 =>
  Calls Try.prog 38 #[.pointer (some ⟨g_2, 0, none⟩), .int .i64 1099511627776] w_3 fun e w_4 => KeepG [g] w_3 w_4 ∧
  ∃ (x11 : Int),
  e = .returned (.int .i64 x11) ∧
  newO w_4 (.cells #[.int .i64 0, .int .i64 0, .int .i64 0, .int .i64 0, .int .i64 0, .int .i64 0, .slice none 0 0, .int .i64 0, .int .i64 0, .int .i64 0, .slice none 0 0] 27) fun g_3 w_5 =>
  ∀ w_6 : World, BoxSt g_3 w_5 w_6 →
  Calls Try.prog 38 #[.pointer (some ⟨g_2, 0, none⟩), .int .i64 1099511627776] w_6 fun e_2 w_7 => KeepG [g_3, g] w_6 w_7 ∧
  ∃ (x14 : Int),
  e_2 = .returned (.int .i64 x14) ∧
  ∀ w_8 : World, BoxSt g_3 w_7 w_8 →
  Calls Try.prog 38 #[.pointer (some ⟨g_2, 0, none⟩), .int .i64 1099511627776] w_8 fun e_3 w_9 => KeepG [g_3, g] w_8 w_9 ∧
  ∃ (x17 : Int),
  e_3 = .returned (.int .i64 x17) ∧
  ∀ w_10 : World, BoxSt g_3 w_9 w_10 →
  Calls Try.prog 70 #[.pointer (some ⟨g_2, 0, none⟩)] w_10 fun e_4 w_11 => KeepG [g_3, g] w_10 w_11 ∧
  ∃ (x20_0 : Int) (x20_1 : Int) (x20_2 : Int) (a20_3 : Option Addr) (n20_3 : Nat) (c20_3 : Nat),
  e_4 = .returned (.agg #[.int .i64 x20_0, .int .i64 x20_1, .int .i64 x20_2, .slice a20_3 n20_3 c20_3]) ∧
  ∀ w_12 : World, BoxSt g_3 w_11 w_12 →
  br (decide (x11 ≠ 0)) (
    Calls Try.prog 70 #[.pointer (some ⟨g_2, 0, none⟩)] w_12 fun e_5 w_13 => KeepG [g_3, g] w_12 w_13 ∧
    ∃ (x26_0 : Int) (x26_1 : Int) (x26_2 : Int) (a26_3 : Option Addr) (n26_3 : Nat) (c26_3 : Nat),
    e_5 = .returned (.agg #[.int .i64 x26_0, .int .i64 x26_1, .int .i64 x26_2, .slice a26_3 n26_3 c26_3]) ∧
    ∀ w_14 : World, BoxSt g_3 w_13 w_14 →
    Calls Try.prog 43 #[.pointer (some ⟨g_2, 0, none⟩)] w_14 fun e_6 w_15 => KeepG [g_3, g] w_14 w_15 ∧
    ∃ (x29 : Int),
    e_6 = .returned (.int .i64 x29) ∧
    br (decide (x29 ≠ 0)) (
      ∀ w_16 : World, BoxSt g w_15 w_16 →
      K (.tuple #[.agg #[.int .i64 0, .int .i64 0, .int .i64 0, .int .i64 0, .int .i64 0, .int .i64 0, .slice none 0 0, .int .i64 0, .int .i64 0, .int .i64 0, .slice none 0 0], .int .i64 2]) w_16
    ) (
      Calls Try.prog 30 #[.agg #[.int .i64 x11, .int .i64 x14, .int .i64 x17, .int .i64 x20_0, .int .i64 x20_1, .int .i64 x20_2, .slice a20_3 n20_3 c20_3, .int .i64 x26_0, .int .i64 x26_1, .int .i64 x26_2, .slice a26_3 n26_3 c26_3]] w_15 fun e_7 w_17 => KeepG [g_3, g] w_15 w_17 ∧
      ∃ (x33 : Int),
      e_7 = .returned (.int .i64 x33) ∧
      br (decide (x33 ≠ 0)) (
        ∀ w_18 : World, BoxSt g w_17 w_18 →
        K (.tuple #[.agg #[.int .i64 0, .int .i64 0, .int .i64 0, .int .i64 0, .int .i64 0, .int .i64 0, .slice none 0 0, .int .i64 0, .int .i64 0, .int .i64 0, .slice none 0 0], .int .i64 x33]) w_18
      ) (
        ∀ w_19 : World, BoxSt g w_17 w_19 →
        K (.tuple #[.agg #[.int .i64 x11, .int .i64 x14, .int .i64 x17, .int .i64 x20_0, .int .i64 x20_1, .int .i64 x20_2, .slice a20_3 n20_3 c20_3, .int .i64 x26_0, .int .i64 x26_1, .int .i64 x26_2, .slice a26_3 n26_3 c26_3], .int .i64 0]) w_19
      )
    )
  ) (
    Calls Try.prog 43 #[.pointer (some ⟨g_2, 0, none⟩)] w_12 fun e_8 w_20 => KeepG [g_3, g] w_12 w_20 ∧
    ∃ (x29_2 : Int),
    e_8 = .returned (.int .i64 x29_2) ∧
    br (decide (x29_2 ≠ 0)) (
      ∀ w_21 : World, BoxSt g w_20 w_21 →
      K (.tuple #[.agg #[.int .i64 0, .int .i64 0, .int .i64 0, .int .i64 0, .int .i64 0, .int .i64 0, .slice none 0 0, .int .i64 0, .int .i64 0, .int .i64 0, .slice none 0 0], .int .i64 2]) w_21
    ) (
      Calls Try.prog 30 #[.agg #[.int .i64 x11, .int .i64 x14, .int .i64 x17, .int .i64 x20_0, .int .i64 x20_1, .int .i64 x20_2, .slice a20_3 n20_3 c20_3, .int .i64 0, .int .i64 0, .int .i64 0, .slice none 0 0]] w_20 fun e_9 w_22 => KeepG [g_3, g] w_20 w_22 ∧
      ∃ (x33_2 : Int),
      e_9 = .returned (.int .i64 x33_2) ∧
      br (decide (x33_2 ≠ 0)) (
        ∀ w_23 : World, BoxSt g w_22 w_23 →
        K (.tuple #[.agg #[.int .i64 0, .int .i64 0, .int .i64 0, .int .i64 0, .int .i64 0, .int .i64 0, .slice none 0 0, .int .i64 0, .int .i64 0, .int .i64 0, .slice none 0 0], .int .i64 x33_2]) w_23
      ) (
        ∀ w_24 : World, BoxSt g w_22 w_24 →
        K (.tuple #[.agg #[.int .i64 x11, .int .i64 x14, .int .i64 x17, .int .i64 x20_0, .int .i64 x20_1, .int .i64 x20_2, .slice a20_3 n20_3 c20_3, .int .i64 0, .int .i64 0, .int .i64 0, .slice none 0 0], .int .i64 0]) w_24
      )
    )
  )
def rread_notes : Notes := ⟨[], [], [], []⟩
set_option maxHeartbeats 4000000 in
theorem rread_calls (s0 : ByteArray) (w : World) (K : Value → World → Prop) (h : rread_vc s0 w K) : Calls Try.prog 41 #[.string s0] w fun e w' => ∃ v, e = .returned v ∧ K v w' :=
  calls_of_eq envOk Try.func41 rread_notes [2, 5] [.string s0] w K h (by as_aux_lemma => kernel_rfl)
/-- purser/purserref09.SamePlan -/
def rsamep_vc (x0_0 : Int) (x0_1 : Int) (x0_2 : Int) (x0_3 : Int) (x0_4 : Int) (x0_5 : Int) (a0_6 : Option Addr) (n0_6 : Nat) (c0_6 : Nat) (x0_7 : Int) (x0_8 : Int) (x0_9 : Int) (a0_10 : Option Addr) (n0_10 : Nat) (c0_10 : Nat) (x1_0 : Int) (x1_1 : Int) (x1_2 : Int) (x1_3 : Int) (x1_4 : Int) (x1_5 : Int) (a1_6 : Option Addr) (n1_6 : Nat) (c1_6 : Nat) (x1_7 : Int) (x1_8 : Int) (x1_9 : Int) (a1_10 : Option Addr) (n1_10 : Nat) (c1_10 : Nat) (w : World) (K : Value → World → Prop) : Prop :=
  newO w (.cells #[.int .i64 x0_0, .int .i64 x0_1, .int .i64 x0_2, .int .i64 x0_3, .int .i64 x0_4, .int .i64 x0_5, .slice a0_6 n0_6 c0_6, .int .i64 x0_7, .int .i64 x0_8, .int .i64 x0_9, .slice a0_10 n0_10 c0_10] 27) fun g w_2 =>
  newO w_2 (.cells #[.int .i64 x1_0, .int .i64 x1_1, .int .i64 x1_2, .int .i64 x1_3, .int .i64 x1_4, .int .i64 x1_5, .slice a1_6 n1_6 c1_6, .int .i64 x1_7, .int .i64 x1_8, .int .i64 x1_9, .slice a1_10 n1_10 c1_10] 27) fun g_2 w_3 =>
  br (decide (x0_0 = x1_0)) (
    br (decide (x0_1 = x1_1)) (
      br (decide (x0_2 = x1_2)) (
        Calls Try.prog 71 #[.agg #[.int .i64 x0_3, .int .i64 x0_4, .int .i64 x0_5, .slice a0_6 n0_6 c0_6], .agg #[.int .i64 x1_3, .int .i64 x1_4, .int .i64 x1_5, .slice a1_6 n1_6 c1_6]] w_3 fun e w_4 => KeepG [g_2, g] w_3 w_4 ∧
        ∃ (b29 : Bool),
        e = .returned (.bool b29) ∧
        br b29 (
          Calls Try.prog 71 #[.agg #[.int .i64 x0_7, .int .i64 x0_8, .int .i64 x0_9, .slice a0_10 n0_10 c0_10], .agg #[.int .i64 x1_7, .int .i64 x1_8, .int .i64 x1_9, .slice a1_10 n1_10 c1_10]] w_4 fun e_2 w_5 => KeepG [g_2, g] w_4 w_5 ∧
          ∃ (b36 : Bool),
          e_2 = .returned (.bool b36) ∧
          K (.bool b36) w_5
        ) (
          K (.bool false) w_4
        )
      ) (
        K (.bool false) w_3
      )
    ) (
      K (.bool false) w_3
    )
  ) (
    K (.bool false) w_3
  )
def rsamep_notes : Notes := ⟨[], [], [], []⟩
set_option maxHeartbeats 4000000 in
theorem rsamep_calls (x0_0 : Int) (x0_1 : Int) (x0_2 : Int) (x0_3 : Int) (x0_4 : Int) (x0_5 : Int) (a0_6 : Option Addr) (n0_6 : Nat) (c0_6 : Nat) (x0_7 : Int) (x0_8 : Int) (x0_9 : Int) (a0_10 : Option Addr) (n0_10 : Nat) (c0_10 : Nat) (x1_0 : Int) (x1_1 : Int) (x1_2 : Int) (x1_3 : Int) (x1_4 : Int) (x1_5 : Int) (a1_6 : Option Addr) (n1_6 : Nat) (c1_6 : Nat) (x1_7 : Int) (x1_8 : Int) (x1_9 : Int) (a1_10 : Option Addr) (n1_10 : Nat) (c1_10 : Nat) (w : World) (K : Value → World → Prop) (h : rsamep_vc x0_0 x0_1 x0_2 x0_3 x0_4 x0_5 a0_6 n0_6 c0_6 x0_7 x0_8 x0_9 a0_10 n0_10 c0_10 x1_0 x1_1 x1_2 x1_3 x1_4 x1_5 a1_6 n1_6 c1_6 x1_7 x1_8 x1_9 a1_10 n1_10 c1_10 w K) : Calls Try.prog 44 #[.agg #[.int .i64 x0_0, .int .i64 x0_1, .int .i64 x0_2, .int .i64 x0_3, .int .i64 x0_4, .int .i64 x0_5, .slice a0_6 n0_6 c0_6, .int .i64 x0_7, .int .i64 x0_8, .int .i64 x0_9, .slice a0_10 n0_10 c0_10], .agg #[.int .i64 x1_0, .int .i64 x1_1, .int .i64 x1_2, .int .i64 x1_3, .int .i64 x1_4, .int .i64 x1_5, .slice a1_6 n1_6 c1_6, .int .i64 x1_7, .int .i64 x1_8, .int .i64 x1_9, .slice a1_10 n1_10 c1_10]] w fun e w' => ∃ v, e = .returned v ∧ K v w' :=
  calls_of_eq envOk Try.func44 rsamep_notes [2, 3] [.agg #[.int .i64 x0_0, .int .i64 x0_1, .int .i64 x0_2, .int .i64 x0_3, .int .i64 x0_4, .int .i64 x0_5, .slice a0_6 n0_6 c0_6, .int .i64 x0_7, .int .i64 x0_8, .int .i64 x0_9, .slice a0_10 n0_10 c0_10], .agg #[.int .i64 x1_0, .int .i64 x1_1, .int .i64 x1_2, .int .i64 x1_3, .int .i64 x1_4, .int .i64 x1_5, .slice a1_6 n1_6 c1_6, .int .i64 x1_7, .int .i64 x1_8, .int .i64 x1_9, .slice a1_10 n1_10 c1_10]] w K h (by as_aux_lemma => kernel_rfl)
end GTarB
end Go.Proofs.Ytkggnbabnfhcpaa
end
section
/- A writer, and a reader, at work since a world: what else has turned. -/
namespace Go.Proofs.Ytkggnbabnfhcpaa
open Go.RowKit
/-- Since w0 only the writer's blocks, and new ones, have turned. -/
structure WP (w0 : World) (K0 : List Nat) (w : World) (g : Nat) (bs : List UInt8) (bad : Bool) : Prop where
  ex : ∃ K, WAt w K g bs bad ∧ Gr K0 K w0.heap.size
  fr : Fr K0 w0 w
  un : Under K0 w0.heap.size
section
variable {w0 w w1 w2 : World} {K0 : List Nat} {g : Nat} {bs bs' : List UInt8} {bad bad' : Bool}
theorem WP.start (h : WAt w K0 g bs bad) : WP w K0 w g bs bad := ⟨⟨K0, h, Gr.refl _ _⟩, Fr.refl _ _, h.under⟩
theorem WP.make {t : TypeId} (h : w.heap[g]? = some (.cells #[.slice none 0 0, .bool false] 71 (0, 0))) (ht : t = 71) : WP w [g] w g [] false :=
  WP.start (by have := WAt.make (v := .slice none 0 0) (bs := []) h (Own.nil _ _ _ _); simpa [Value.ownBlock] using this)
theorem WP.below (h : WP w0 K0 w g bs bad) (b : Below w.heap.size w w1) : WP w0 K0 w1 g bs bad := by
  obtain ⟨⟨K, h1, h2⟩, h3, h4⟩ := h
  exact ⟨⟨K, h1.keep (fun k hk => b.block k (h1.under k hk)) b.size, h2⟩, h3.trans (Fr.ofBelow (L := K0) b) (Gr.refl _ _), h4⟩
/-- A box that is newer than the base was written. -/
theorem WP.newbox (h : WP w0 K0 w g bs bad) (b : Below w.heap.size w w1) {x : Nat} (sx : w.heap.size = x) (hx : BoxSt x w1 w2) : WP w0 K0 w2 g bs bad := by
  obtain ⟨⟨K, h1, h2⟩, h3, h4⟩ := h
  have z := b.size
  have z2 := hx.2
  have z3 := h3.size
  refine ⟨⟨K, h1.keep (fun k hk => (hx.1.block k (by have := h1.under k hk; omega) (by rw [List.mem_singleton]; have := h1.under k hk; omega)).trans (b.block k (h1.under k hk))) (by omega), h2⟩, ?_, h4⟩
  exact (h3.trans (Fr.ofBelow (L := K0) b) (Gr.refl _ _)).trans hx.1 (fun k hk => by rw [List.mem_singleton] at hk; exact .inr (by omega))
theorem WP.keep (h : WP w0 K0 w g bs bad) {b : Nat} (hb : b < w0.heap.size) (hn : b ∉ K0) : w.heap[b]? = w0.heap[b]? := h.fr.block b hb hn
theorem WP.old {wb : World} (h : WP w0 K0 w g bs bad) (B : Bs wb w0) (hf : From wb.heap.size K0) : Bs wb w := B.trans (h.fr.below hf B.size)
theorem WP.call (h : WP w0 K0 w g bs bad) {P : Program} {f : FuncId} {av : Array Value} {gs : List Nat} {R : Ending → World → Prop} (hc : ∀ K, WAt w K g bs bad → Gr K0 K w0.heap.size → Calls P f av w (W1 w K g bs' bad')) (hg : ∀ x ∈ gs, x < w0.heap.size ∧ x ∉ K0)
    (k : ∀ w1, WP w0 K0 w1 g bs' bad' → w.heap.size ≤ w1.heap.size → R (.returned (.tuple #[])) w1) : Calls P f av w fun e w1 => KeepG gs w w1 ∧ R e w1 := by
  obtain ⟨⟨K, h1, h2⟩, h3, h4⟩ := h
  refine (hc K h1 h2).mono ?_
  rintro e w1 ⟨rfl, K', h5, f5, g5⟩
  refine ⟨keepG_fr f5 fun x hx hm => ?_, k w1 ⟨⟨K', h5, h2.trans g5 h3.size⟩, h3.trans f5 h2, h4⟩ f5.size⟩
  rcases h2 x hm with h | h
  · exact (hg x hx).2 h
  · have := (hg x hx).1; omega
/-- The same, with boxes that are newer than the base: told of the writer's blocks. -/
theorem WP.out {K : List Nat} (h : WP w K w1 g bs bad) : W1 w K g bs bad (.returned (.tuple #[])) w1 := by
  obtain ⟨⟨K', h1, h2⟩, h3, h4⟩ := h
  exact ⟨rfl, K', h1, h3, h2⟩
/-- A new base. -/
theorem WP.rebase (h : WP w0 K0 w g bs bad) : ∃ K, WP w K w g bs bad ∧ Gr K0 K w0.heap.size := by
  obtain ⟨⟨K, h1, h2⟩, h3, h4⟩ := h
  exact ⟨K, WP.start h1, h2⟩
/-- A new base behind a box that was made and filled. -/
theorem WP.rebox (h : WP w0 K0 w g bs bad) (b : Below w.heap.size w w1) {x : Nat} (sx : w.heap.size = x) (hs : w1.heap.size = x + 1) (hx : BoxSt x w1 w2) :
    ∃ K, WP w2 K w2 g bs bad ∧ Gr K0 K w0.heap.size ∧ x ∉ K ∧ x < w2.heap.size := by
  obtain ⟨⟨K, h1, h2⟩, h3, h4⟩ := h
  have z2 := hx.2
  have z3 := h3.size
  refine ⟨K, WP.start (h1.keep (fun k hk => (hx.1.block k (by have := h1.under k hk; omega) (by rw [List.mem_singleton]; have := h1.under k hk; omega)).trans (b.block k (h1.under k hk))) (by omega)), h2, fun hm => ?_, by omega⟩
  have := h1.under x hm
  omega
theorem WP.join {K : List Nat} (h : WP w0 K0 w g bs bad) (h2 : WP w K w1 g bs' bad') (hg : Gr K0 K w0.heap.size) : WP w0 K0 w1 g bs' bad' := by
  obtain ⟨⟨K', k1, k2⟩, k3, k4⟩ := h2
  exact ⟨⟨K', k1, hg.trans k2 h.fr.size⟩, h.fr.trans k3 hg, h.un⟩
end
theorem WP.uint {w0 w : World} {K0 : List Nat} {g : Nat} {bs : List UInt8} {bad : Bool} (h : WP w0 K0 w g bs bad) {gs : List Nat} {R : Ending → World → Prop} (z : Int) (hz : 0 ≤ z) (hz2 : z ≤ 9223372036854775807) (hl : bs.length ≤ 100000000) (hg : ∀ x ∈ gs, x < w0.heap.size ∧ x ∉ K0)
    (k : ∀ w1, WP w0 K0 w1 g (bs ++ uintB z) bad → w.heap.size ≤ w1.heap.size → R (.returned (.tuple #[])) w1) : Calls Try.prog 22 #[.pointer (some ⟨g, 0, none⟩), .int .i64 z] w fun e w1 => KeepG gs w w1 ∧ R e w1 :=
  h.call (fun K h1 _ => by
    have := wUint_any g z hz2 bs bad K w h1 hl
    rw [decide_eq_false (show ¬ z < 0 by omega), Bool.or_false] at this
    exact this) hg k
/-- Since w0 only the reader's blocks, and new ones, have turned. -/
structure RP (w0 : World) (L : List Nat) (w : World) (g : Nat) (bs : List UInt8) (e : Int) : Prop where
  at' : RdAt w L g bs e
  fr : Fr L w0 w
  un : Under L w0.heap.size
section
variable {w0 w w1 w2 : World} {L : List Nat} {g : Nat} {bs : List UInt8} {e : Int}
theorem RP.start (h : RdAt w L g bs e) : RP w L w g bs e := ⟨h, Fr.refl _ _, h.under⟩
theorem RP.below (h : RP w0 L w g bs e) (b : Below w.heap.size w w1) : RP w0 L w1 g bs e := ⟨h.at'.below b, h.fr.trans (Fr.ofBelow (L := L) b) (Gr.refl _ _), h.un⟩
theorem RP.newbox (h : RP w0 L w g bs e) (b : Below w.heap.size w w1) {x : Nat} (sx : w.heap.size = x) (hx : BoxSt x w1 w2) : RP w0 L w2 g bs e := by
  have z := b.size
  have z3 := h.fr.size
  exact ⟨(h.at'.below b).fr hx.1 (fun k h1 h2 => by rw [List.mem_singleton] at h2; have := h.at'.under k h1; omega), (h.fr.trans (Fr.ofBelow (L := L) b) (Gr.refl _ _)).trans hx.1 (fun k hk => by rw [List.mem_singleton] at hk; exact .inr (by omega)), h.un⟩
theorem RP.box (h : RP w0 L w g bs e) {x : Nat} (hx : BoxSt x w w1) (hn : x ∉ L) (hz : w0.heap.size ≤ x) : RP w0 L w1 g bs e :=
  ⟨h.at'.fr hx.1 (fun k h1 h2 => by rw [List.mem_singleton] at h2; exact hn (h2 ▸ h1)), h.fr.trans hx.1 (fun k hk => by rw [List.mem_singleton] at hk; exact .inr (by omega)), h.un⟩
theorem RP.keep (h : RP w0 L w g bs e) {b : Nat} (hb : b < w0.heap.size) (hn : b ∉ L) : w.heap[b]? = w0.heap[b]? := h.fr.block b hb hn
theorem RP.old {wb : World} (h : RP w0 L w g bs e) (B : Bs wb w0) (hf : From wb.heap.size L) : Bs wb w := B.trans (h.fr.below hf B.size)
theorem RP.uint (h : RP w0 L w g bs e) {gs : List Nat} {R : Ending → World → Prop} (most : Int) (hm : most ≤ 9223372036854775807) (hm2 : 0 ≤ most) (hl : bs.length ≤ 100000000) (hg : ∀ x ∈ gs, x ∉ L)
    (k : ∀ w1, RP w0 L w1 g (rdUint most bs e).2.1 (rdUint most bs e).2.2 → Fr L w w1 → w.heap.size ≤ w1.heap.size → R (.returned (.int .i64 (rdUint most bs e).1)) w1) :
    Calls Try.prog 34 #[.pointer (some ⟨g, 0, none⟩), .int .i64 most] w fun r w1 => KeepG gs w w1 ∧ R r w1 :=
  (rUint_any g most hm (by omega) bs e L w h.at' hl).mono (by
    rintro r w1 ⟨rfl, h1, f1, _⟩
    exact ⟨keepG_fr f1 hg, k w1 ⟨h1, h.fr.trans f1 (Gr.refl _ _), h.un⟩ f1 f1.size⟩)
end
end Go.Proofs.Ytkggnbabnfhcpaa
end
section
/- Conditions of functions, printed by a program of this claim's own (vcgen.py) out of the loaded code; each is proved to be enough. -/
set_option maxRecDepth 100000
namespace Go.Proofs.Ytkggnbabnfhcpaa
open Go.RowKit
namespace GRefRd
def env : Env := ⟨[(3, ⟨.int .i64, 1, .int .i64 0, 8, [.int .i64]⟩), (5, ⟨.int .u8, 1, .int .u8 0, 1, [.int .u8]⟩), (9, ⟨.str, 1, .string ByteArray.empty, 16, [.str]⟩), (33, ⟨.int .i64, 1, .int .i64 0, 8, [.int .i64]⟩), (67, ⟨.int .u64, 1, .int .u64 0, 8, [.int .u64]⟩), (100, ⟨.struct [(0, 9), (1, 33)], 2, .agg #[.string ByteArray.empty, .int .i64 0], 24, [.str, .int .i64]⟩)], [(38, [.lf (.int .i64)]), (68, [.lf (.int .u64), .lf (.int .i64)])], []⟩
theorem ty3 : TyOk Try.prog 3 ⟨.int .i64, 1, .int .i64 0, 8, [.int .i64]⟩ := tyok (by kernel_rfl) (by kernel_rfl)
theorem ty5 : TyOk Try.prog 5 ⟨.int .u8, 1, .int .u8 0, 1, [.int .u8]⟩ := tyok (by kernel_rfl) (by kernel_rfl)
theorem ty9 : TyOk Try.prog 9 ⟨.str, 1, .string ByteArray.empty, 16, [.str]⟩ := tyok (by kernel_rfl) (by kernel_rfl)
theorem ty33 : TyOk Try.prog 33 ⟨.int .i64, 1, .int .i64 0, 8, [.int .i64]⟩ := tyok (by kernel_rfl) (by kernel_rfl)
theorem ty67 : TyOk Try.prog 67 ⟨.int .u64, 1, .int .u64 0, 8, [.int .u64]⟩ := tyok (by kernel_rfl) (by kernel_rfl)
theorem ty100 : TyOk Try.prog 100 ⟨.struct [(0, 9), (1, 33)], 2, .agg #[.string ByteArray.empty, .int .i64 0], 24, [.str, .int .i64]⟩ := tyok (by kernel_rfl) (by kernel_rfl)
theorem fn38 : FnOk Try.prog 38 := fnok Try.func38 (by kernel_rfl) (by kernel_rfl)
theorem fn68 : FnOk Try.prog 68 := fnok Try.func68 (by kernel_rfl) (by kernel_rfl)
theorem envOk : EOk Try.prog env := ⟨(by simp only [env, List.forall_mem_cons, List.not_mem_nil, false_implies, implies_true, and_true]; exact ⟨ty3, ty5, ty9, ty33, ty67, ty100⟩), (by simp only [env, List.forall_mem_cons, List.not_mem_nil, false_implies, implies_true, and_true]; exact ⟨fn38, fn68⟩), by kernel_rfl, (fun _ h => by cases h)⟩
/-- (*purser/purserref03.Reader).groups -/
def grp_vc (p0 : Option Addr) (x1 : Int) (w : World) (K : Value → World → Prop) : Prop :=
  ∃ (I : Int → Int → World → Prop) (μ : Int → Int → World → Nat),
  I 0 0 w ∧
  ∀ (x6 : Int) (x7 : Int) (w_2 : World), I x6 x7 w_2 →
  withP p0 fun g13 o13 =>
  ∃ (s15 : ByteArray), w_2.cell? ⟨g13, o13, none⟩ = some (.string s15) ∧
  br (decide (x7 ≥ ((s15.size : Nat) : Int))) (
    withP p0 fun g19 o19 =>
    stO [] w_2 g19 (o19 + 1) [.int .i64 3] fun w_3 =>
    K (.tuple #[.int .u64 0, .int .i64 0]) w_3
  ) (
    withP p0 fun g22 o22 =>
    ∃ (s24 : ByteArray), w_2.cell? ⟨g22, o22, none⟩ = some (.string s24) ∧
    (0 : Int) ≤ x7 ∧ x7 < (((s24.size : Nat) : Int) : Int) ∧
    ∃ (J : Bool → World → Prop), (
      br (decide (x7 ≥ x1)) (
        J true w_2
      ) (
        br (decide (x7 = 9)) (
          br (decide ((byteAt s24 x7) > 1)) (
            J true w_2
          ) (
            br (decide ((byteAt s24 x7) = 0)) (
              J (decide (x7 > 0)) w_2
            ) (
              J false w_2
            )
          )
        ) (
          br (decide ((byteAt s24 x7) = 0)) (
            J (decide (x7 > 0)) w_2
          ) (
            J false w_2
          )
        )
      )
    ) ∧
    ∀ (b45 : Bool) (w_4 : World), J b45 w_4 →
    br b45 (
      withP p0 fun g47 o47 =>
      stO [] w_4 g47 (o47 + 1) [.int .i64 2] fun w_5 =>
      K (.tuple #[.int .u64 0, .int .i64 0]) w_5
    ) (
      (128 : Int) ≠ 0 ∧
      (0 : Int) ≤ (IntKind.i64.wrap (7 * x7)) ∧
      br (decide ((byteAt s24 x7) < 128)) (
        K (.tuple #[.int .u64 (IntKind.u64.wrap (x6 + (IntKind.u64.wrap ((IntKind.u64.wrap (Int.tmod (byteAt s24 x7) 128)) * 2 ^ (min (IntKind.i64.wrap (7 * x7)).toNat (IntKind.bits .u64)))))), .int .i64 (IntKind.i64.wrap (x7 + 1))]) w_4
      ) (
        I (IntKind.u64.wrap (x6 + (IntKind.u64.wrap ((IntKind.u64.wrap (Int.tmod (byteAt s24 x7) 128)) * 2 ^ (min (IntKind.i64.wrap (7 * x7)).toNat (IntKind.bits .u64)))))) (IntKind.i64.wrap (x7 + 1)) w_4 ∧ μ (IntKind.u64.wrap (x6 + (IntKind.u64.wrap ((IntKind.u64.wrap (Int.tmod (byteAt s24 x7) 128)) * 2 ^ (min (IntKind.i64.wrap (7 * x7)).toNat (IntKind.bits .u64)))))) (IntKind.i64.wrap (x7 + 1)) w_4 < μ x6 x7 w_2
      )
    )
  )
def grp_notes : Notes := ⟨[], [(4, ⟨[(6, .lf (.int .u64)), (7, .lf (.int .i64))], [], [11, 12, 13, 14, 15, 16, 17, 18, 19, 20, 4, 5, 21, 22, 23, 24, 25, 26, 8, 27, 28, 29, 30, 31, 32, 33, 34, 35, 36, 37, 38, 39, 40, 41, 42, 43, 44, 45, 46, 47, 48, 49, 50, 51, 52, 53, 54, 55, 56, 6, 57, 58, 59, 60, 61, 9, 10, 7], []⟩)], [((0, 8), ⟨[(45, .lf (.bool))], [], [27, 28, 29, 30, 31, 32, 33, 34, 35, 36, 37, 38, 39, 40, 41, 42, 43, 44, 45], []⟩)], []⟩
set_option maxHeartbeats 4000000 in
theorem grp_calls (p0 : Option Addr) (x1 : Int) (w : World) (K : Value → World → Prop) (h : grp_vc p0 x1 w K) : Calls Try.prog 68 #[.pointer p0, .int .i64 x1] w fun e w' => ∃ v, e = .returned v ∧ K v w' :=
  calls_of_eq envOk Try.func68 grp_notes [] [.pointer p0, .int .i64 x1] w K h (by as_aux_lemma => kernel_rfl)
/-- (*purser/purserref03.Reader).Uint -/
def uint_vc (p0 : Option Addr) (x1 : Int) (w : World) (K : Value → World → Prop) : Prop :=
  withP p0 fun g8 o8 =>
  ∃ (x10 : Int), w.cell? ⟨g8, o8 + 1, none⟩ = some (.int .i64 x10) ∧
  br (decide (x10 ≠ 0)) (
    K (.int .i64 0) w
  ) (
    Calls Try.prog 68 #[.pointer p0, .int .i64 9] w fun e w_2 => KeepG [] w w_2 ∧
    ∃ (x14_0 : Int) (x14_1 : Int),
    e = .returned (.tuple #[.int .u64 x14_0, .int .i64 x14_1]) ∧
    withP p0 fun g18 o18 =>
    ∃ (x20 : Int), w_2.cell? ⟨g18, o18 + 1, none⟩ = some (.int .i64 x20) ∧
    br (decide (x20 ≠ 0)) (
      K (.int .i64 0) w_2
    ) (
      br (decide (x1 < 0)) (
        withP p0 fun g31 o31 =>
        stO [] w_2 g31 (o31 + 1) [.int .i64 5] fun w_3 =>
        K (.int .i64 0) w_3
      ) (
        br (decide (x14_0 > (IntKind.u64.wrap x1))) (
          withP p0 fun g31_2 o31_2 =>
          stO [] w_2 g31_2 (o31_2 + 1) [.int .i64 5] fun w_4 =>
          K (.int .i64 0) w_4
        ) (
          withP p0 fun g35 o35 =>
          ∃ (s37 : ByteArray), w_2.cell? ⟨g35, o35, none⟩ = some (.string s37) ∧
          (0 : Int) ≤ x14_1 ∧ x14_1 ≤ (((s37.size : Nat) : Int) : Int) ∧
          withP p0 fun g40 o40 =>
          stO [] w_2 g40 o40 [.string (s37.extract x14_1.toNat s37.size)] fun w_5 =>
          K (.int .i64 (IntKind.i64.wrap x14_0)) w_5
        )
      )
    )
  )
def uint_notes : Notes := ⟨[], [], [], []⟩
set_option maxHeartbeats 4000000 in
theorem uint_calls (p0 : Option Addr) (x1 : Int) (w : World) (K : Value → World → Prop) (h : uint_vc p0 x1 w K) : Calls Try.prog 38 #[.pointer p0, .int .i64 x1] w fun e w' => ∃ v, e = .returned v ∧ K v w' :=
  calls_of_eq envOk Try.func38 uint_notes [] [.pointer p0, .int .i64 x1] w K h (by as_aux_lemma => kernel_rfl)
/-- (*purser/purserref03.Reader).Int -/
def int_vc (p0 : Option Addr) (w : World) (K : Value → World → Prop) : Prop :=
  withP p0 fun g6 o6 =>
  ∃ (x8 : Int), w.cell? ⟨g6, o6 + 1, none⟩ = some (.int .i64 x8) ∧
  br (decide (x8 ≠ 0)) (
    K (.int .i64 0) w
  ) (
    Calls Try.prog 68 #[.pointer p0, .int .i64 10] w fun e w_2 => KeepG [] w w_2 ∧
    ∃ (x12_0 : Int) (x12_1 : Int),
    e = .returned (.tuple #[.int .u64 x12_0, .int .i64 x12_1]) ∧
    withP p0 fun g16 o16 =>
    ∃ (x18 : Int), w_2.cell? ⟨g16, o16 + 1, none⟩ = some (.int .i64 x18) ∧
    br (decide (x18 ≠ 0)) (
      K (.int .i64 0) w_2
    ) (
      withP p0 fun g22 o22 =>
      ∃ (s24 : ByteArray), w_2.cell? ⟨g22, o22, none⟩ = some (.string s24) ∧
      (0 : Int) ≤ x12_1 ∧ x12_1 ≤ (((s24.size : Nat) : Int) : Int) ∧
      withP p0 fun g27 o27 =>
      stO [] w_2 g27 o27 [.string (s24.extract x12_1.toNat s24.size)] fun w_3 =>
      (2 : Int) ≠ 0 ∧
      br (decide ((Int.tmod x12_0 2) = 1)) (
        (2 : Int) ≠ 0 ∧
        K (.int .i64 (IntKind.i64.wrap (IntKind.u64.wrap (0 - (IntKind.u64.wrap ((IntKind.u64.wrap (Int.tdiv x12_0 2)) + 1)))))) w_3
      ) (
        (2 : Int) ≠ 0 ∧
        K (.int .i64 (IntKind.i64.wrap (IntKind.u64.wrap (Int.tdiv x12_0 2)))) w_3
      )
    )
  )
def int_notes : Notes := ⟨[], [], [], []⟩
set_option maxHeartbeats 4000000 in
theorem int_calls (p0 : Option Addr) (w : World) (K : Value → World → Prop) (h : int_vc p0 w K) : Calls Try.prog 69 #[.pointer p0] w fun e w' => ∃ v, e = .returned v ∧ K v w' :=
  calls_of_eq envOk Try.func69 int_notes [] [.pointer p0] w K h (by as_aux_lemma => kernel_rfl)
/-- (*purser/purserref03.Reader).Text -/
def text_vc (p0 : Option Addr) (x1 : Int) (w : World) (K : Value → World → Prop) : Prop :=
  withP p0 fun g9 o9 =>
  ∃ (s11 : ByteArray), w.cell? ⟨g9, o9, none⟩ = some (.string s11) ∧
  Calls Try.prog 38 #[.pointer p0, .int .i64 x1] w fun e w_2 => KeepG [] w w_2 ∧
  ∃ (x14 : Int),
  e = .returned (.int .i64 x14) ∧
  withP p0 fun g16 o16 =>
  ∃ (x18 : Int), w_2.cell? ⟨g16, o16 + 1, none⟩ = some (.int .i64 x18) ∧
  br (decide (x18 ≠ 0)) (
    K (.string (⟨#[]⟩ : ByteArray)) w_2
  ) (
    withP p0 fun g21 o21 =>
    ∃ (s23 : ByteArray), w_2.cell? ⟨g21, o21, none⟩ = some (.string s23) ∧
    br (decide (((s23.size : Nat) : Int) < x14)) (
      withP p0 fun g30 o30 =>
      stO [] w_2 g30 o30 [.string s11] fun w_3 =>
      withP p0 fun g32 o32 =>
      stO [] w_3 g32 (o32 + 1) [.int .i64 3] fun w_4 =>
      K (.string (⟨#[]⟩ : ByteArray)) w_4
    ) (
      withP p0 fun g35 o35 =>
      ∃ (s37 : ByteArray), w_2.cell? ⟨g35, o35, none⟩ = some (.string s37) ∧
      (0 : Int) ≤ x14 ∧ x14 ≤ (((s37.size : Nat) : Int) : Int) ∧
      withP p0 fun g42 o42 =>
      ∃ (s44 : ByteArray), w_2.cell? ⟨g42, o42, none⟩ = some (.string s44) ∧
      (0 : Int) ≤ x14 ∧ x14 ≤ (((s44.size : Nat) : Int) : Int) ∧
      withP p0 fun g47 o47 =>
      stO [] w_2 g47 o47 [.string (s44.extract x14.toNat s44.size)] fun w_5 =>
      K (.string (s37.extract 0 x14.toNat)) w_5
    )
  )
def text_notes : Notes := ⟨[], [], [], []⟩
set_option maxHeartbeats 4000000 in
theorem text_calls (p0 : Option Addr) (x1 : Int) (w : World) (K : Value → World → Prop) (h : text_vc p0 x1 w K) : Calls Try.prog 42 #[.pointer p0, .int .i64 x1] w fun e w' => ∃ v, e = .returned v ∧ K v w' :=
  calls_of_eq envOk Try.func42 text_notes [] [.pointer p0, .int .i64 x1] w K h (by as_aux_lemma => kernel_rfl)
/-- (*purser/purserref03.Reader).End -/
def end_vc (p0 : Option Addr) (w : World) (K : Value → World → Prop) : Prop :=
  withP p0 fun g4 o4 =>
  ∃ (x6 : Int), w.cell? ⟨g4, o4 + 1, none⟩ = some (.int .i64 x6) ∧
  br (decide (x6 = 0)) (
    withP p0 fun g10 o10 =>
    ∃ (s12 : ByteArray), w.cell? ⟨g10, o10, none⟩ = some (.string s12) ∧
    br (decide (s12 ≠ (⟨#[]⟩ : ByteArray))) (
      K (.int .i64 4) w
    ) (
      withP p0 fun g16 o16 =>
      ∃ (x18 : Int), w.cell? ⟨g16, o16 + 1, none⟩ = some (.int .i64 x18) ∧
      K (.int .i64 x18) w
    )
  ) (
    withP p0 fun g16_2 o16_2 =>
    ∃ (x18_2 : Int), w.cell? ⟨g16_2, o16_2 + 1, none⟩ = some (.int .i64 x18_2) ∧
    K (.int .i64 x18_2) w
  )
def end_notes : Notes := ⟨[], [], [], []⟩
set_option maxHeartbeats 4000000 in
theorem end_calls (p0 : Option Addr) (w : World) (K : Value → World → Prop) (h : end_vc p0 w K) : Calls Try.prog 43 #[.pointer p0] w fun e w' => ∃ v, e = .returned v ∧ K v w' :=
  calls_of_eq envOk Try.func43 end_notes [] [.pointer p0] w K h (by as_aux_lemma => kernel_rfl)
end GRefRd
end Go.Proofs.Ytkggnbabnfhcpaa
end
section
/- The document's reader: what it takes. -/
namespace Go.Proofs.Ytkggnbabnfhcpaa
open Go.RowKit
def RfAt (w : World) (g : Nat) (bs : List UInt8) (e : Int) : Prop := Bk w g #[.string (strOf bs), .int .i64 e] 100
theorem RfAt.c0 {w : World} {g : Nat} {bs : List UInt8} {e : Int} (h : RfAt w g bs e) : w.cell? ⟨g, 0, none⟩ = some (.string (strOf bs)) := by rw [Bk.cell h]; rfl
theorem RfAt.c1 {w : World} {g : Nat} {bs : List UInt8} {e : Int} (h : RfAt w g bs e) : w.cell? ⟨g, 0 + 1, none⟩ = some (.int .i64 e) := by rw [Bk.cell h]; rfl
/-- The reader's block alone is written. -/
def F1 (w : World) (g : Nat) (v : Value) (bs : List UInt8) (e : Int) (r : Ending) (w' : World) : Prop :=
  r = .returned v ∧ RfAt w' g bs e ∧ Fr [g] w w' ∧ w'.heap.size = w.heap.size
theorem rf_err {w : World} {g : Nat} {bs : List UInt8} {e : Int} (h : RfAt w g bs e) (k : Int) {K : World → Prop} (hk : ∀ w1, RfAt w1 g bs k → Fr [g] w w1 → w1.heap.size = w.heap.size → K w1) : stO [] w g (0 + 1) [.int .i64 k] K :=
  stO_bk h (by simp) (by simp) fun w1 h1 h2 h3 => hk w1 h1 h2 h3
theorem rf_bytes {w : World} {g : Nat} {bs : List UInt8} {e : Int} (h : RfAt w g bs e) (cs : List UInt8) {K : World → Prop} (hk : ∀ w1, RfAt w1 g cs e → Fr [g] w w1 → w1.heap.size = w.heap.size → K w1) : stO [] w g 0 [.string (strOf cs)] K :=
  stO_bk h (by simp) (by simp) fun w1 h1 h2 h3 => hk w1 h1 h2 h3
theorem grp_shift {i : Nat} (hi : i ≤ 9) : (2 : Int) ^ (min (IntKind.i64.wrap (7 * (i : Int))).toNat (IntKind.bits .u64)) = ((128 ^ i : Nat) : Int) := by
  have H : ∀ i : Fin 10, (2 : Int) ^ (min (IntKind.i64.wrap (7 * (i.val : Int))).toNat (IntKind.bits .u64)) = ((128 ^ i.val : Nat) : Int) := by decide +kernel
  exact H ⟨i, by omega⟩
theorem tk_zero {most : Nat} : ∀ (bs : List UInt8) (i u a n : Nat) (e : Int), tk most i u bs = (a, n, e) → e ≠ 0 → a = 0 ∧ n = 0
  | [], i, u, a, n, e, h, _ => by cases h; exact ⟨rfl, rfl⟩
  | x :: r, i, u, a, n, e, h, he => by
    by_cases hb : i = most ∨ (x.toNat = 0 ∧ 0 < i) ∨ (i = 9 ∧ 1 < x.toNat)
    · rw [tk_bad hb] at h; cases h; exact ⟨rfl, rfl⟩
    · by_cases h2 : 128 ≤ x.toNat
      · rw [tk_more hb h2] at h; exact tk_zero r _ _ _ _ _ h he
      · rw [tk_last hb h2] at h; cases h; exact absurd rfl he
set_option maxRecDepth 100000 in
theorem fgrp_any (g most : Nat) (hm0 : 0 < most) (hm : most ≤ 10) (bs : List UInt8) (w : World) (h : RfAt w g bs 0) (hl : bs.length ≤ 100000000) (u0 n0 : Nat) (e0 : Int) (hr : tk most 0 0 bs = (u0, n0, e0)) :
    Calls Try.prog 68 #[.pointer (some ⟨g, 0, none⟩), .int .i64 most] w (F1 w g (.tuple #[.int .u64 u0, .int .i64 n0]) bs e0) := by
  refine (GRefRd.grp_calls (some ⟨g, 0, none⟩) most w (fun v w' => v = .tuple #[.int .u64 u0, .int .i64 n0] ∧ RfAt w' g bs e0 ∧ Fr [g] w w' ∧ w'.heap.size = w.heap.size) ?_).mono (by rintro e w' ⟨v, rfl, rfl, hb⟩; exact ⟨rfl, hb⟩)
  unfold GRefRd.grp_vc
  refine ⟨fun x y wx => ∃ u i : Nat, x = u ∧ y = i ∧ u < 128 ^ i ∧ i ≤ 9 ∧ i ≤ most ∧ i ≤ bs.length ∧ tk most i u (bs.drop i) = (u0, n0, e0) ∧ w = wx, fun _ y _ => bs.length - y.toNat, ⟨0, 0, rfl, rfl, by decide, by omega, by omega, by omega, hr, rfl⟩, ?_⟩
  rintro x y wx ⟨u, i, rfl, rfl, hu, hi, him, hib, ht, rfl⟩
  have hsz := strOf_size bs
  have fail : ∀ k : Int, (u0, n0, e0) = (0, 0, k) → stO [] w g (0 + 1) [.int .i64 k] fun w3 => Value.tuple #[.int .u64 0, .int .i64 0] = .tuple #[.int .u64 u0, .int .i64 n0] ∧ RfAt w3 g bs e0 ∧ Fr [g] w w3 ∧ w3.heap.size = w.heap.size := by
    intro k hk; cases hk
    exact rf_err h _ fun w1 h1 h2 h3 => ⟨rfl, h1, h2, h3⟩
  refine ⟨_, h.c0, br_dec (fun h1 => fail 3 (by rw [← ht, List.drop_eq_nil_of_le (by omega)]; rfl)) fun h1 => ?_⟩
  have hlt : i < bs.length := by omega
  refine ⟨_, h.c0, by omega, by omega, ?_⟩
  rw [List.drop_eq_getElem_cons hlt] at ht
  have hx : byteAt (strOf bs) (i : Int) = (bs[i].toNat : Int) := by rw [byteAt_strOf]; simp [hlt]
  rw [hx]
  generalize bs[i] = x at *
  refine ⟨fun b wx => b = decide (i = most ∨ (x.toNat = 0 ∧ 0 < i) ∨ (i = 9 ∧ 1 < x.toNat)) ∧ w = wx, ?_, ?_⟩
  · refine br_dec (fun h1 => ⟨(decide_eq_true (by omega)).symm, rfl⟩) fun h1 => br_dec (fun h2 => br_dec (fun h3 => ⟨(decide_eq_true (by omega)).symm, rfl⟩) fun h3 => br_dec (fun h4 => ⟨?_, rfl⟩) fun h4 => ⟨(decide_eq_false (by omega)).symm, rfl⟩) fun h2 => br_dec (fun h4 => ⟨?_, rfl⟩) fun h4 => ⟨(decide_eq_false (by omega)).symm, rfl⟩
    · exact decide_eq_decide.2 (by omega)
    · exact decide_eq_decide.2 (by omega)
  rintro b wx ⟨rfl, rfl⟩
  refine br_dec (fun hb => fail 2 (by rw [← ht, tk_bad hb])) fun hb => ⟨by omega, by rw [wr64 (by omega) (by omega)]; omega, ?_⟩
  rw [grp_shift hi]
  have hx8 : x.toNat < 256 := x.toNat_lt
  have hy : IntKind.u64.wrap (Int.tmod (x.toNat : Int) 128) = ((x.toNat % 128 : Nat) : Int) := by
    rw [Int.tmod_eq_emod_of_nonneg (by omega), wru64 (by omega) (by omega)]; omega
  rw [hy]
  have key : u + x.toNat % 128 * 128 ^ i < 18446744073709551616 ∧ (i ≤ 8 → u + x.toNat % 128 * 128 ^ i < 128 ^ (i + 1)) := by
    have e1 : 128 ^ (i + 1) = 128 * 128 ^ i := by rw [Nat.pow_succ, Nat.mul_comm]
    have k8 : i ≤ 8 → 128 ^ i ≤ 128 ^ 8 := fun h => Nat.pow_le_pow_right (by decide) h
    have k9 : i = 9 → 128 ^ i = 9223372036854775808 := fun h => by subst h; decide
    generalize 128 ^ i = P at *
    have m1 : x.toNat % 128 * P ≤ 127 * P := Nat.mul_le_mul_right _ (by omega)
    refine ⟨?_, fun h8 => by omega⟩
    by_cases h9 : i = 9
    · have := k9 h9
      have m2 : x.toNat % 128 * P ≤ 1 * P := Nat.mul_le_mul_right _ (by omega)
      omega
    · have := k8 (by omega)
      have : (128 : Nat) ^ 8 = 72057594037927936 := by decide
      omega
  have hs : IntKind.u64.wrap (((x.toNat % 128 : Nat) : Int) * ((128 ^ i : Nat) : Int)) = ((x.toNat % 128 * 128 ^ i : Nat) : Int) := by
    rw [← Int.natCast_mul, wru64 (by omega) (by omega)]
  rw [hs]
  have hS : IntKind.u64.wrap ((u : Int) + ((x.toNat % 128 * 128 ^ i : Nat) : Int)) = ((u + x.toNat % 128 * 128 ^ i : Nat) : Int) := by
    rw [wru64 (by omega) (by omega)]; omega
  rw [hS, wr64 (z := (i : Int) + 1) (by omega) (by omega)]
  refine br_dec (fun h2 => ?_) fun h2 => ?_
  · rw [tk_last hb (by omega)] at ht
    cases ht
    exact ⟨rfl, h, Fr.refl _ _, rfl⟩
  · rw [tk_more hb (by omega)] at ht
    exact ⟨⟨_, i + 1, rfl, by omega, key.2 (by omega), by omega, by omega, by omega, ht, rfl⟩, by dsimp only; omega⟩
theorem F1.of {g : Nat} {w : World} {bs : List UInt8} {e : Int} {v : Value} {r : Ending} {w' : World} (h : F1 w g v bs e r w') : r = .returned v ∧ RfAt w' g bs e ∧ Fr [g] w w' ∧ w'.heap.size = w.heap.size := h
theorem fRuint_any (g : Nat) (most : Int) (hm : most ≤ 9223372036854775807) (hm2 : -9223372036854775808 ≤ most) (bs : List UInt8) (e : Int) (w : World) (h : RfAt w g bs e) (hl : bs.length ≤ 100000000) :
    Calls Try.prog 38 #[.pointer (some ⟨g, 0, none⟩), .int .i64 most] w (F1 w g (.int .i64 (rdUint most bs e).1) (rdUint most bs e).2.1 (rdUint most bs e).2.2) := by
  refine (GRefRd.uint_calls (some ⟨g, 0, none⟩) most w (fun v w' => v = .int .i64 (rdUint most bs e).1 ∧ RfAt w' g (rdUint most bs e).2.1 (rdUint most bs e).2.2 ∧ Fr [g] w w' ∧ w'.heap.size = w.heap.size) ?_).mono (by rintro e w' ⟨v, rfl, rfl, hb⟩; exact ⟨rfl, hb⟩)
  unfold GRefRd.uint_vc rdUint
  refine ⟨_, h.c1, br_dec (fun he => ?_) fun he => ?_⟩
  · rw [if_pos he]; exact ⟨rfl, h, Fr.refl _ _, rfl⟩
  rw [if_neg he]
  have he : e = 0 := by omega
  subst he
  obtain ⟨u, n, e0, ht⟩ : ∃ u n e0, tk 9 0 0 bs = (u, n, e0) := ⟨_, _, _, rfl⟩
  refine (fgrp_any g 9 (by decide) (by decide) bs w h hl u n e0 ht).mono ?_
  rintro r w2 ⟨rfl, h2, f2, z2⟩
  refine ⟨keepG_nil _ _, _, _, rfl, _, h2.c1, ?_⟩
  rw [ht]
  refine br_dec (fun h0 => ?_) fun h0 => ?_
  · rw [if_pos h0]; exact ⟨rfl, h2, f2, z2⟩
  rw [if_neg h0]
  have h0 : e0 = 0 := by omega
  subst h0
  have hu := tk9_lt ht
  have hn := tk_enc0 ht
  refine br_dec (fun hneg => ?_) fun hneg => ?_
  · rw [if_pos (.inl hneg)]
    exact rf_err h2 _ fun w3 h3 f3 z3 => ⟨rfl, h3, f2.trans f3 (Gr.refl _ _), by omega⟩
  rw [wru64 (by omega) (by omega)]
  refine br_dec (fun hbig => ?_) fun hbig => ?_
  · rw [if_pos (.inr hbig)]
    exact rf_err h2 _ fun w3 h3 f3 z3 => ⟨rfl, h3, f2.trans f3 (Gr.refl _ _), by omega⟩
  rw [if_neg (by omega)]
  refine ⟨_, h2.c0, by omega, by rw [strOf_size]; omega, ?_⟩
  rw [strOf_extract, strOf_size, List.take_of_length_le (by rw [List.length_drop]; omega), wr64 (by omega) (by omega), Int.toNat_natCast]
  exact rf_bytes h2 _ fun w3 h3 f3 z3 => ⟨rfl, h3, f2.trans f3 (Gr.refl _ _), by omega⟩
theorem fRint_any (g : Nat) (bs : List UInt8) (e : Int) (w : World) (h : RfAt w g bs e) (hl : bs.length ≤ 100000000) :
    Calls Try.prog 69 #[.pointer (some ⟨g, 0, none⟩)] w (F1 w g (.int .i64 (rdInt bs e).1) (rdInt bs e).2.1 (rdInt bs e).2.2) := by
  refine (GRefRd.int_calls (some ⟨g, 0, none⟩) w (fun v w' => v = .int .i64 (rdInt bs e).1 ∧ RfAt w' g (rdInt bs e).2.1 (rdInt bs e).2.2 ∧ Fr [g] w w' ∧ w'.heap.size = w.heap.size) ?_).mono (by rintro e w' ⟨v, rfl, rfl, hb⟩; exact ⟨rfl, hb⟩)
  unfold GRefRd.int_vc rdInt
  refine ⟨_, h.c1, br_dec (fun he => ?_) fun he => ?_⟩
  · rw [if_pos he]; exact ⟨rfl, h, Fr.refl _ _, rfl⟩
  rw [if_neg he]
  have he : e = 0 := by omega
  subst he
  obtain ⟨u, n, e0, ht⟩ : ∃ u n e0, tk 10 0 0 bs = (u, n, e0) := ⟨_, _, _, rfl⟩
  refine (fgrp_any g 10 (by decide) (by decide) bs w h hl u n e0 ht).mono ?_
  rintro r w2 ⟨rfl, h2, f2, z2⟩
  refine ⟨keepG_nil _ _, _, _, rfl, _, h2.c1, ?_⟩
  rw [ht]
  refine br_dec (fun h0 => ?_) fun h0 => ?_
  · rw [if_pos h0]; exact ⟨rfl, h2, f2, z2⟩
  rw [if_neg h0]
  have h0 : e0 = 0 := by omega
  subst h0
  have hu := tk_lt 10 bs 0 0 u n (by omega) (by decide) ht
  have hn := tk_enc0 ht
  refine ⟨_, h2.c0, by omega, by rw [strOf_size]; omega, ?_⟩
  rw [strOf_extract, strOf_size, List.take_of_length_le (by rw [List.length_drop]; omega), Int.toNat_natCast]
  refine rf_bytes h2 _ fun w3 h3 f3 z3 => ⟨by omega, ?_⟩
  have f23 : Fr [g] w w3 := f2.trans f3 (Gr.refl _ _)
  rw [Int.tmod_eq_emod_of_nonneg (by omega), Int.tdiv_eq_ediv_of_nonneg (by omega)]
  unfold zag
  refine br_dec (fun ho => ⟨by omega, ?_, h3, f23, by omega⟩) fun ho => ⟨by omega, ?_, h3, f23, by omega⟩
  · rw [if_pos (by omega)]
    congr 1
    simp only [IntKind.wrap_u64, IntKind.wrap_i64]
    omega
  · rw [if_neg (by omega)]
    congr 1
    simp only [IntKind.wrap_u64, IntKind.wrap_i64]
    omega
theorem fRtext_any (g : Nat) (most : Int) (hm : most ≤ 9223372036854775807) (hm2 : -9223372036854775808 ≤ most) (bs : List UInt8) (e : Int) (w : World) (h : RfAt w g bs e) (hl : bs.length ≤ 100000000) :
    Calls Try.prog 42 #[.pointer (some ⟨g, 0, none⟩), .int .i64 most] w (F1 w g (.string (strOf (rdText most bs e).1)) (rdText most bs e).2.1 (rdText most bs e).2.2) := by
  refine (GRefRd.text_calls (some ⟨g, 0, none⟩) most w (fun v w' => v = .string (strOf (rdText most bs e).1) ∧ RfAt w' g (rdText most bs e).2.1 (rdText most bs e).2.2 ∧ Fr [g] w w' ∧ w'.heap.size = w.heap.size) ?_).mono (by rintro e w' ⟨v, rfl, rfl, hb⟩; exact ⟨rfl, hb⟩)
  unfold GRefRd.text_vc
  refine ⟨_, h.c0, (fRuint_any g most hm hm2 bs e w h hl).mono ?_⟩
  rintro r w2 ⟨rfl, h2, f2, z2⟩
  refine ⟨keepG_nil _ _, _, rfl, _, h2.c1, ?_⟩
  have hr := rdUint_range most bs e
  have hlen := rdLenU most bs e
  unfold rdText
  by_cases he : e = 0
  · subst he
    rw [if_neg (by omega)]
    dsimp only
    generalize rdUint most bs 0 = q at *
    obtain ⟨z, cs, e1⟩ := q
    dsimp only at *
    refine br_dec (fun h1 => ?_) fun h1 => ?_
    · rw [if_pos h1]; exact ⟨rfl, h2, f2, z2⟩
    rw [if_neg h1]
    have h1 : e1 = 0 := by omega
    subst h1
    have hsz := strOf_size cs
    refine ⟨_, h2.c0, br_dec (fun h3 => ?_) fun h3 => ?_⟩
    · rw [if_pos (by omega)]
      refine rf_bytes h2 bs fun w3 h3 f3 z3 => rf_err h3 _ fun w4 h4 f4 z4 => ⟨rfl, h4, (f2.trans f3 (Gr.refl _ _)).trans f4 (Gr.refl _ _), by omega⟩
    rw [if_neg (by omega)]
    refine ⟨_, h2.c0, by omega, by omega, _, h2.c0, by omega, by omega, ?_⟩
    rw [strOf_extract, strOf_extract, hsz, List.take_of_length_le (by rw [List.length_drop]; omega)]
    exact rf_bytes h2 _ fun w3 h3 f3 z3 => ⟨rfl, h3, f2.trans f3 (Gr.refl _ _), by omega⟩
  · rw [if_pos he]
    have hq : rdUint most bs e = (0, bs, e) := by unfold rdUint; rw [if_pos he]
    rw [hq] at h2 ⊢
    exact br_y he ⟨rfl, h2, f2, z2⟩
theorem strOf_nil (bs : List UInt8) : (strOf bs ≠ (⟨#[]⟩ : ByteArray)) ↔ bs ≠ [] := by
  refine not_congr ⟨fun h => ?_, fun h => by subst h; rfl⟩
  have := congrArg ByteArray.size h
  exact List.eq_nil_of_length_eq_zero this
theorem fRend_any (g : Nat) (bs : List UInt8) (e : Int) (w : World) (h : RfAt w g bs e) :
    Calls Try.prog 43 #[.pointer (some ⟨g, 0, none⟩)] w fun r w' => r = .returned (.int .i64 (rdEnd bs e)) ∧ w = w' := by
  refine (GRefRd.end_calls (some ⟨g, 0, none⟩) w (fun v w' => v = .int .i64 (rdEnd bs e) ∧ w = w') ?_).mono (by rintro e w' ⟨v, rfl, rfl, rfl⟩; exact ⟨rfl, rfl⟩)
  unfold GRefRd.end_vc rdEnd
  refine ⟨_, h.c1, br_dec (fun he => ?_) fun he => ?_⟩
  · refine ⟨_, h.c0, br_dec (fun h1 => ?_) fun h1 => ⟨_, h.c1, ?_, rfl⟩⟩
    · rw [if_pos ⟨he, (strOf_nil bs).1 h1⟩]; exact ⟨rfl, rfl⟩
    · rw [if_neg (fun h2 => h1 ((strOf_nil bs).2 h2.2))]
  · exact ⟨_, h.c1, by rw [if_neg (fun h2 => he h2.1)], rfl⟩
end Go.Proofs.Ytkggnbabnfhcpaa
end
section
/- Conditions of functions, printed by a program of this claim's own (vcgen.py) out of the loaded code; each is proved to be enough. -/
set_option maxRecDepth 100000
namespace Go.Proofs.Ytkggnbabnfhcpaa
open Go.RowKit
namespace GTar
def env : Env := ⟨[(3, ⟨.int .i64, 1, .int .i64 0, 8, [.int .i64]⟩), (23, ⟨.slice 142, 1, .slice none 0 0, 24, [.slice]⟩), (25, ⟨.struct [(0, 3), (1, 3), (2, 3), (3, 23)], 4, .agg #[.int .i64 0, .int .i64 0, .int .i64 0, .slice none 0 0], 48, [.int .i64, .int .i64, .int .i64, .slice]⟩), (27, ⟨.struct [(0, 3), (1, 3), (2, 3), (3, 25), (7, 25)], 11, .agg #[.int .i64 0, .int .i64 0, .int .i64 0, .int .i64 0, .int .i64 0, .int .i64 0, .slice none 0 0, .int .i64 0, .int .i64 0, .int .i64 0, .slice none 0 0], 120, [.int .i64, .int .i64, .int .i64, .int .i64, .int .i64, .int .i64, .slice, .int .i64, .int .i64, .int .i64, .slice]⟩), (37, ⟨.struct [(0, 3), (1, 3), (2, 3), (3, 25), (7, 25)], 11, .agg #[.int .i64 0, .int .i64 0, .int .i64 0, .int .i64 0, .int .i64 0, .int .i64 0, .slice none 0 0, .int .i64 0, .int .i64 0, .int .i64 0, .slice none 0 0], 120, [.int .i64, .int .i64, .int .i64, .int .i64, .int .i64, .int .i64, .slice, .int .i64, .int .i64, .int .i64, .slice]⟩), (142, ⟨.struct [(0, 3), (1, 3)], 2, .agg #[.int .i64 0, .int .i64 0], 16, [.int .i64, .int .i64]⟩)], [(60, [.lf (.int .i64)]), (76, [.lf (.int .i64)]), (77, [.lf (.bool)]), (78, [.lf (.bool)]), (80, [.lf (.int .i64)])], [142]⟩
theorem ty3 : TyOk Try.prog 3 ⟨.int .i64, 1, .int .i64 0, 8, [.int .i64]⟩ := tyok (by kernel_rfl) (by kernel_rfl)
theorem ty23 : TyOk Try.prog 23 ⟨.slice 142, 1, .slice none 0 0, 24, [.slice]⟩ := tyok (by kernel_rfl) (by kernel_rfl)
theorem ty25 : TyOk Try.prog 25 ⟨.struct [(0, 3), (1, 3), (2, 3), (3, 23)], 4, .agg #[.int .i64 0, .int .i64 0, .int .i64 0, .slice none 0 0], 48, [.int .i64, .int .i64, .int .i64, .slice]⟩ := tyok (by kernel_rfl) (by kernel_rfl)
theorem ty27 : TyOk Try.prog 27 ⟨.struct [(0, 3), (1, 3), (2, 3), (3, 25), (7, 25)], 11, .agg #[.int .i64 0, .int .i64 0, .int .i64 0, .int .i64 0, .int .i64 0, .int .i64 0, .slice none 0 0, .int .i64 0, .int .i64 0, .int .i64 0, .slice none 0 0], 120, [.int .i64, .int .i64, .int .i64, .int .i64, .int .i64, .int .i64, .slice, .int .i64, .int .i64, .int .i64, .slice]⟩ := tyok (by kernel_rfl) (by kernel_rfl)
theorem ty37 : TyOk Try.prog 37 ⟨.struct [(0, 3), (1, 3), (2, 3), (3, 25), (7, 25)], 11, .agg #[.int .i64 0, .int .i64 0, .int .i64 0, .int .i64 0, .int .i64 0, .int .i64 0, .slice none 0 0, .int .i64 0, .int .i64 0, .int .i64 0, .slice none 0 0], 120, [.int .i64, .int .i64, .int .i64, .int .i64, .int .i64, .int .i64, .slice, .int .i64, .int .i64, .int .i64, .slice]⟩ := tyok (by kernel_rfl) (by kernel_rfl)
theorem ty142 : TyOk Try.prog 142 ⟨.struct [(0, 3), (1, 3)], 2, .agg #[.int .i64 0, .int .i64 0], 16, [.int .i64, .int .i64]⟩ := tyok (by kernel_rfl) (by kernel_rfl)
theorem fn60 : FnOk Try.prog 60 := fnok Try.func60 (by kernel_rfl) (by kernel_rfl)
theorem fn76 : FnOk Try.prog 76 := fnok Try.func76 (by kernel_rfl) (by kernel_rfl)
theorem fn77 : FnOk Try.prog 77 := fnok Try.func77 (by kernel_rfl) (by kernel_rfl)
theorem fn78 : FnOk Try.prog 78 := fnok Try.func78 (by kernel_rfl) (by kernel_rfl)
theorem fn80 : FnOk Try.prog 80 := fnok Try.func80 (by kernel_rfl) (by kernel_rfl)
theorem eqt142 : EqTy Try.prog 142 := ⟨by kernel_rfl, by kernel_rfl, by kernel_rfl⟩
theorem envOk : EOk Try.prog env := ⟨(by simp only [env, List.forall_mem_cons, List.not_mem_nil, false_implies, implies_true, and_true]; exact ⟨ty3, ty23, ty25, ty27, ty37, ty142⟩), (by simp only [env, List.forall_mem_cons, List.not_mem_nil, false_implies, implies_true, and_true]; exact ⟨fn60, fn76, fn77, fn78, fn80⟩), by kernel_rfl, (by simp only [env, List.forall_mem_cons, List.not_mem_nil, false_implies, implies_true, and_true]; exact eqt142)⟩
/-- purser/tariff.within -/
def within_vc (x0 : Int) (x1 : Int) (x2 : Int) (w : World) (K : Value → World → Prop) : Prop :=
  br (decide (x0 ≥ x1)) (
    K (.bool (decide (x0 ≤ x2))) w
  ) (
    K (.bool false) w
  )
def within_notes : Notes := ⟨[], [], [], []⟩
set_option maxHeartbeats 4000000 in
theorem within_calls (x0 : Int) (x1 : Int) (x2 : Int) (w : World) (K : Value → World → Prop) (h : within_vc x0 x1 x2 w K) : Calls Try.prog 78 #[.int .i64 x0, .int .i64 x1, .int .i64 x2] w fun e w' => ∃ v, e = .returned v ∧ K v w' :=
  calls_of_eq envOk Try.func78 within_notes [] [.int .i64 x0, .int .i64 x1, .int .i64 x2] w K h (by as_aux_lemma => kernel_rfl)
/-- purser/tariff.tiers -/
def tiers_vc (a0 : Option Addr) (n0 : Nat) (c0 : Nat) (w : World) (K : Value → World → Prop) : Prop :=
  ∃ (I : Int → Int → World → Prop) (μ : Int → Int → World → Nat),
  I 0 0 w ∧
  ∀ (x3 : Int) (x9 : Int) (w_2 : World), I x3 x9 w_2 →
  br (decide (x9 < ((n0 : Nat) : Int))) (
    withP a0 fun g12 o12 =>
    (0 : Int) ≤ x9 ∧ x9 < (((n0 : Nat) : Int) : Int) ∧
    ∃ (x13_0 : Int) (x13_1 : Int),
    cellsAt w_2 g12 (o12 + x9.toNat * 2) [.int .i64 x13_0, .int .i64 x13_1] ∧
    newO w_2 (.cells #[.int .i64 0, .int .i64 0] 142) fun g w_3 =>
    ∀ w_4 : World, BoxSt g w_3 w_4 →
    Calls Try.prog 78 #[.int .i64 x13_1, .int .i64 0, .int .i64 1048576] w_4 fun e w_5 => KeepG [g] w_4 w_5 ∧
    ∃ (b22 : Bool),
    e = .returned (.bool b22) ∧
    br (!b22) (
      K (.int .i64 1) w_5
    ) (
      br (decide (x9 = (IntKind.i64.wrap (((n0 : Nat) : Int) - 1)))) (
        br (decide (x13_0 ≠ 0)) (
          K (.int .i64 15) w_5
        ) (
          br (!(decide (x9 = (IntKind.i64.wrap (((n0 : Nat) : Int) - 1))))) (
            Calls Try.prog 78 #[.int .i64 x13_0, .int .i64 (IntKind.i64.wrap (x3 + 1)), .int .i64 1099511627776] w_5 fun e_2 w_6 => KeepG [g] w_5 w_6 ∧
            ∃ (b38 : Bool),
            e_2 = .returned (.bool b38) ∧
            br (!b38) (
              K (.int .i64 15) w_6
            ) (
              I x13_0 (IntKind.i64.wrap (x9 + 1)) w_6 ∧ μ x13_0 (IntKind.i64.wrap (x9 + 1)) w_6 < μ x3 x9 w_2
            )
          ) (
            I x13_0 (IntKind.i64.wrap (x9 + 1)) w_5 ∧ μ x13_0 (IntKind.i64.wrap (x9 + 1)) w_5 < μ x3 x9 w_2
          )
        )
      ) (
        br (!(decide (x9 = (IntKind.i64.wrap (((n0 : Nat) : Int) - 1))))) (
          Calls Try.prog 78 #[.int .i64 x13_0, .int .i64 (IntKind.i64.wrap (x3 + 1)), .int .i64 1099511627776] w_5 fun e_3 w_7 => KeepG [g] w_5 w_7 ∧
          ∃ (b38_2 : Bool),
          e_3 = .returned (.bool b38_2) ∧
          br (!b38_2) (
            K (.int .i64 15) w_7
          ) (
            I x13_0 (IntKind.i64.wrap (x9 + 1)) w_7 ∧ μ x13_0 (IntKind.i64.wrap (x9 + 1)) w_7 < μ x3 x9 w_2
          )
        ) (
          I x13_0 (IntKind.i64.wrap (x9 + 1)) w_5 ∧ μ x13_0 (IntKind.i64.wrap (x9 + 1)) w_5 < μ x3 x9 w_2
        )
      )
    )
  ) (
    K (.int .i64 0) w_2
  )
def tiers_notes : Notes := ⟨[], [(3, ⟨[(3, .lf (.int .i64)), (9, .lf (.int .i64))], [], [10, 11, 12, 13, 5, 4, 14, 15, 16, 17, 18, 6, 20, 21, 22, 23, 19, 2, 25, 26, 27, 28, 29, 30, 24, 31, 32, 33, 34, 35, 36, 37, 38, 39, 40, 41, 42, 3, 43, 9], [5]⟩)], [], []⟩
set_option maxHeartbeats 4000000 in
theorem tiers_calls (a0 : Option Addr) (n0 : Nat) (c0 : Nat) (w : World) (K : Value → World → Prop) (h : tiers_vc a0 n0 c0 w K) : Calls Try.prog 80 #[.slice a0 n0 c0] w fun e w' => ∃ v, e = .returned v ∧ K v w' :=
  calls_of_eq envOk Try.func80 tiers_notes [5] [.slice a0 n0 c0] w K h (by as_aux_lemma => kernel_rfl)
/-- purser/tariff.Check -/
def check_vc (x0_0 : Int) (x0_1 : Int) (x0_2 : Int) (a0_3 : Option Addr) (n0_3 : Nat) (c0_3 : Nat) (w : World) (K : Value → World → Prop) : Prop :=
  newO w (.cells #[.int .i64 x0_0, .int .i64 x0_1, .int .i64 x0_2, .slice a0_3 n0_3 c0_3] 25) fun g w_2 =>
  Calls Try.prog 78 #[.int .i64 x0_0, .int .i64 1, .int .i64 8] w_2 fun e w_3 => KeepG [g] w_2 w_3 ∧
  ∃ (b6 : Bool),
  e = .returned (.bool b6) ∧
  br (!b6) (
    K (.int .i64 1) w_3
  ) (
    Calls Try.prog 78 #[.int .i64 x0_2, .int .i64 1, .int .i64 1073741824] w_3 fun e_2 w_4 => KeepG [g] w_3 w_4 ∧
    ∃ (b11 : Bool),
    e_2 = .returned (.bool b11) ∧
    br (!b11) (
      K (.int .i64 1) w_4
    ) (
      br (decide (x0_1 ≠ 1)) (
        br (decide (x0_1 ≠ 2)) (
          K (.int .i64 21) w_4
        ) (
          Calls Try.prog 78 #[.int .i64 ((n0_3 : Nat) : Int), .int .i64 1, .int .i64 6] w_4 fun e_3 w_5 => KeepG [g] w_4 w_5 ∧
          ∃ (b27 : Bool),
          e_3 = .returned (.bool b27) ∧
          br (!b27) (
            K (.int .i64 5) w_5
          ) (
            Calls Try.prog 80 #[.slice a0_3 n0_3 c0_3] w_5 fun e_4 w_6 => KeepG [g] w_5 w_6 ∧
            ∃ (x31 : Int),
            e_4 = .returned (.int .i64 x31) ∧
            K (.int .i64 x31) w_6
          )
        )
      ) (
        Calls Try.prog 78 #[.int .i64 ((n0_3 : Nat) : Int), .int .i64 1, .int .i64 6] w_4 fun e_5 w_7 => KeepG [g] w_4 w_7 ∧
        ∃ (b27_2 : Bool),
        e_5 = .returned (.bool b27_2) ∧
        br (!b27_2) (
          K (.int .i64 5) w_7
        ) (
          Calls Try.prog 80 #[.slice a0_3 n0_3 c0_3] w_7 fun e_6 w_8 => KeepG [g] w_7 w_8 ∧
          ∃ (x31_2 : Int),
          e_6 = .returned (.int .i64 x31_2) ∧
          K (.int .i64 x31_2) w_8
        )
      )
    )
  )
def check_notes : Notes := ⟨[], [], [], []⟩
set_option maxHeartbeats 4000000 in
theorem check_calls (x0_0 : Int) (x0_1 : Int) (x0_2 : Int) (a0_3 : Option Addr) (n0_3 : Nat) (c0_3 : Nat) (w : World) (K : Value → World → Prop) (h : check_vc x0_0 x0_1 x0_2 a0_3 n0_3 c0_3 w K) : Calls Try.prog 76 #[.agg #[.int .i64 x0_0, .int .i64 x0_1, .int .i64 x0_2, .slice a0_3 n0_3 c0_3]] w fun e w' => ∃ v, e = .returned v ∧ K v w' :=
  calls_of_eq envOk Try.func76 check_notes [1] [.agg #[.int .i64 x0_0, .int .i64 x0_1, .int .i64 x0_2, .slice a0_3 n0_3 c0_3]] w K h (by as_aux_lemma => kernel_rfl)
/-- purser/tariff.nothing -/
def nothing_vc (x0_0 : Int) (x0_1 : Int) (x0_2 : Int) (a0_3 : Option Addr) (n0_3 : Nat) (c0_3 : Nat) (w : World) (K : Value → World → Prop) : Prop :=
  newO w (.cells #[.int .i64 x0_0, .int .i64 x0_1, .int .i64 x0_2, .slice a0_3 n0_3 c0_3] 25) fun g w_2 =>
  br (decide (x0_0 = 0)) (
    br (decide (x0_1 = 0)) (
      br (decide (x0_2 = 0)) (
        K (.bool (decide (((n0_3 : Nat) : Int) = 0))) w_2
      ) (
        K (.bool false) w_2
      )
    ) (
      K (.bool false) w_2
    )
  ) (
    K (.bool false) w_2
  )
def nothing_notes : Notes := ⟨[], [], [], []⟩
set_option maxHeartbeats 4000000 in
theorem nothing_calls (x0_0 : Int) (x0_1 : Int) (x0_2 : Int) (a0_3 : Option Addr) (n0_3 : Nat) (c0_3 : Nat) (w : World) (K : Value → World → Prop) (h : nothing_vc x0_0 x0_1 x0_2 a0_3 n0_3 c0_3 w K) : Calls Try.prog 77 #[.agg #[.int .i64 x0_0, .int .i64 x0_1, .int .i64 x0_2, .slice a0_3 n0_3 c0_3]] w fun e w' => ∃ v, e = .returned v ∧ K v w' :=
  calls_of_eq envOk Try.func77 nothing_notes [1] [.agg #[.int .i64 x0_0, .int .i64 x0_1, .int .i64 x0_2, .slice a0_3 n0_3 c0_3]] w K h (by as_aux_lemma => kernel_rfl)
/-- purser/tariff.CheckPlan -/
def cplan_vc (x0_0 : Int) (x0_1 : Int) (x0_2 : Int) (x0_3 : Int) (x0_4 : Int) (x0_5 : Int) (a0_6 : Option Addr) (n0_6 : Nat) (c0_6 : Nat) (x0_7 : Int) (x0_8 : Int) (x0_9 : Int) (a0_10 : Option Addr) (n0_10 : Nat) (c0_10 : Nat) (w : World) (K : Value → World → Prop) : Prop :=
  newO w (.cells #[.int .i64 x0_0, .int .i64 x0_1, .int .i64 x0_2, .int .i64 x0_3, .int .i64 x0_4, .int .i64 x0_5, .slice a0_6 n0_6 c0_6, .int .i64 x0_7, .int .i64 x0_8, .int .i64 x0_9, .slice a0_10 n0_10 c0_10] 37) fun g w_2 =>
  Calls Try.prog 76 #[.agg #[.int .i64 x0_3, .int .i64 x0_4, .int .i64 x0_5, .slice a0_6 n0_6 c0_6]] w_2 fun e w_3 => KeepG [g] w_2 w_3 ∧
  ∃ (x7 : Int),
  e = .returned (.int .i64 x7) ∧
  br (decide (x7 ≠ 0)) (
    K (.int .i64 x7) w_3
  ) (
    br (decide (x0_0 = 0)) (
      br (decide (x0_1 ≠ 0)) (
        K (.int .i64 2) w_3
      ) (
        br (decide (x0_2 ≠ 0)) (
          K (.int .i64 2) w_3
        ) (
          Calls Try.prog 77 #[.agg #[.int .i64 x0_7, .int .i64 x0_8, .int .i64 x0_9, .slice a0_10 n0_10 c0_10]] w_3 fun e_2 w_4 => KeepG [g] w_3 w_4 ∧
          ∃ (b25 : Bool),
          e_2 = .returned (.bool b25) ∧
          br (!b25) (
            K (.int .i64 2) w_4
          ) (
            K (.int .i64 0) w_4
          )
        )
      )
    ) (
      Calls Try.prog 78 #[.int .i64 x0_0, .int .i64 2, .int .i64 1073741824] w_3 fun e_3 w_5 => KeepG [g] w_3 w_5 ∧
      ∃ (b30 : Bool),
      e_3 = .returned (.bool b30) ∧
      br (!b30) (
        K (.int .i64 1) w_5
      ) (
        Calls Try.prog 78 #[.int .i64 x0_1, .int .i64 0, .int .i64 (IntKind.i64.wrap (x0_0 - 1))] w_5 fun e_4 w_6 => KeepG [g] w_5 w_6 ∧
        ∃ (b38 : Bool),
        e_4 = .returned (.bool b38) ∧
        br (!b38) (
          K (.int .i64 1) w_6
        ) (
          Calls Try.prog 78 #[.int .i64 x0_2, .int .i64 0, .int .i64 (IntKind.i64.wrap (x0_0 - 1))] w_6 fun e_5 w_7 => KeepG [g] w_6 w_7 ∧
          ∃ (b47 : Bool),
          e_5 = .returned (.bool b47) ∧
          br (!b47) (
            K (.int .i64 1) w_7
          ) (
            br (decide (x0_1 = x0_2)) (
              K (.int .i64 1) w_7
            ) (
              Calls Try.prog 76 #[.agg #[.int .i64 x0_7, .int .i64 x0_8, .int .i64 x0_9, .slice a0_10 n0_10 c0_10]] w_7 fun e_6 w_8 => KeepG [g] w_7 w_8 ∧
              ∃ (x59 : Int),
              e_6 = .returned (.int .i64 x59) ∧
              br (decide (x59 ≠ 0)) (
                K (.int .i64 x59) w_8
              ) (
                br (decide (x0_3 ≠ x0_7)) (
                  K (.int .i64 20) w_8
                ) (
                  br (decide (x0_5 ≠ x0_9)) (
                    K (.int .i64 20) w_8
                  ) (
                    K (.int .i64 0) w_8
                  )
                )
              )
            )
          )
        )
      )
    )
  )
def cplan_notes : Notes := ⟨[], [], [], []⟩
set_option maxHeartbeats 4000000 in
theorem cplan_calls (x0_0 : Int) (x0_1 : Int) (x0_2 : Int) (x0_3 : Int) (x0_4 : Int) (x0_5 : Int) (a0_6 : Option Addr) (n0_6 : Nat) (c0_6 : Nat) (x0_7 : Int) (x0_8 : Int) (x0_9 : Int) (a0_10 : Option Addr) (n0_10 : Nat) (c0_10 : Nat) (w : World) (K : Value → World → Prop) (h : cplan_vc x0_0 x0_1 x0_2 x0_3 x0_4 x0_5 a0_6 n0_6 c0_6 x0_7 x0_8 x0_9 a0_10 n0_10 c0_10 w K) : Calls Try.prog 72 #[.agg #[.int .i64 x0_0, .int .i64 x0_1, .int .i64 x0_2, .int .i64 x0_3, .int .i64 x0_4, .int .i64 x0_5, .slice a0_6 n0_6 c0_6, .int .i64 x0_7, .int .i64 x0_8, .int .i64 x0_9, .slice a0_10 n0_10 c0_10]] w fun e w' => ∃ v, e = .returned v ∧ K v w' :=
  calls_of_eq envOk Try.func72 cplan_notes [1] [.agg #[.int .i64 x0_0, .int .i64 x0_1, .int .i64 x0_2, .int .i64 x0_3, .int .i64 x0_4, .int .i64 x0_5, .slice a0_6 n0_6 c0_6, .int .i64 x0_7, .int .i64 x0_8, .int .i64 x0_9, .slice a0_10 n0_10 c0_10]] w K h (by as_aux_lemma => kernel_rfl)
/-- purser/purserref09.Check -/
def rcheck_vc (x0_0 : Int) (x0_1 : Int) (x0_2 : Int) (a0_3 : Option Addr) (n0_3 : Nat) (c0_3 : Nat) (w : World) (K : Value → World → Prop) : Prop :=
  newO w (.cells #[.int .i64 x0_0, .int .i64 x0_1, .int .i64 x0_2, .slice a0_3 n0_3 c0_3] 25) fun g w_2 =>
  br (decide (x0_0 < 1)) (
    K (.int .i64 1) w_2
  ) (
    br (decide (x0_0 > 8)) (
      K (.int .i64 1) w_2
    ) (
      br (decide (x0_2 < 1)) (
        K (.int .i64 1) w_2
      ) (
        br (decide (x0_2 > 1073741824)) (
          K (.int .i64 1) w_2
        ) (
          ∃ (J : Bool → World → Prop), (
            br (decide (x0_1 ≠ 1)) (
              J (decide (x0_1 ≠ 2)) w_2
            ) (
              J false w_2
            )
          ) ∧
          ∀ (b31 : Bool) (w_3 : World), J b31 w_3 →
          br b31 (
            K (.int .i64 21) w_3
          ) (
            br (decide (((n0_3 : Nat) : Int) < 1)) (
              K (.int .i64 5) w_3
            ) (
              br (decide (((n0_3 : Nat) : Int) > 6)) (
                K (.int .i64 5) w_3
              ) (
                ∃ (I : Int → Int → World → Prop) (μ : Int → Int → World → Nat),
                I 0 0 w_3 ∧
                ∀ (x3 : Int) (x4 : Int) (w_4 : World), I x3 x4 w_4 →
                br (decide (x4 < ((n0_3 : Nat) : Int))) (
                  withP a0_3 fun g52 o52 =>
                  (0 : Int) ≤ x4 ∧ x4 < (((n0_3 : Nat) : Int) : Int) ∧
                  ∃ (x53_0 : Int) (x53_1 : Int),
                  cellsAt w_4 g52 (o52 + x4.toNat * 2) [.int .i64 x53_0, .int .i64 x53_1] ∧
                  newO w_4 (.cells #[.int .i64 0, .int .i64 0] 142) fun g_2 w_5 =>
                  ∀ w_6 : World, BoxSt g_2 w_5 w_6 →
                  br (decide (x53_1 < 0)) (
                    K (.int .i64 1) w_6
                  ) (
                    br (decide (x53_1 > 1048576)) (
                      K (.int .i64 1) w_6
                    ) (
                      br (decide (x4 = (IntKind.i64.wrap (((n0_3 : Nat) : Int) - 1)))) (
                        br (decide (x53_0 ≠ 0)) (
                          K (.int .i64 15) w_6
                        ) (
                          I x53_0 (IntKind.i64.wrap (x4 + 1)) w_6 ∧ μ x53_0 (IntKind.i64.wrap (x4 + 1)) w_6 < μ x3 x4 w_4
                        )
                      ) (
                        br (decide (x53_0 ≤ x3)) (
                          K (.int .i64 15) w_6
                        ) (
                          br (decide (x53_0 > 1099511627776)) (
                            K (.int .i64 15) w_6
                          ) (
                            I x53_0 (IntKind.i64.wrap (x4 + 1)) w_6 ∧ μ x53_0 (IntKind.i64.wrap (x4 + 1)) w_6 < μ x3 x4 w_4
                          )
                        )
                      )
                    )
                  )
                ) (
                  K (.int .i64 0) w_4
                )
              )
            )
          )
        )
      )
    )
  )
def rcheck_notes : Notes := ⟨[], [(9, ⟨[(3, .lf (.int .i64)), (4, .lf (.int .i64))], [], [42, 43, 44, 45, 46, 49, 50, 51, 52, 53, 5, 54, 55, 56, 57, 58, 59, 60, 61, 2, 62, 63, 64, 65, 66, 67, 68, 69, 70, 71, 72, 73, 74, 75, 76, 77, 78, 79, 80, 81, 3, 47, 48, 4], [5]⟩)], [((0, 3), ⟨[(31, .lf (.bool))], [], [24, 25, 26, 27, 28, 29, 30, 31], []⟩)], []⟩
set_option maxHeartbeats 4000000 in
theorem rcheck_calls (x0_0 : Int) (x0_1 : Int) (x0_2 : Int) (a0_3 : Option Addr) (n0_3 : Nat) (c0_3 : Nat) (w : World) (K : Value → World → Prop) (h : rcheck_vc x0_0 x0_1 x0_2 a0_3 n0_3 c0_3 w K) : Calls Try.prog 60 #[.agg #[.int .i64 x0_0, .int .i64 x0_1, .int .i64 x0_2, .slice a0_3 n0_3 c0_3]] w fun e w' => ∃ v, e = .returned v ∧ K v w' :=
  calls_of_eq envOk Try.func60 rcheck_notes [1, 5] [.agg #[.int .i64 x0_0, .int .i64 x0_1, .int .i64 x0_2, .slice a0_3 n0_3 c0_3]] w K h (by as_aux_lemma => kernel_rfl)
/-- purser/purserref09.CheckPlan -/
def rcplan_vc (x0_0 : Int) (x0_1 : Int) (x0_2 : Int) (x0_3 : Int) (x0_4 : Int) (x0_5 : Int) (a0_6 : Option Addr) (n0_6 : Nat) (c0_6 : Nat) (x0_7 : Int) (x0_8 : Int) (x0_9 : Int) (a0_10 : Option Addr) (n0_10 : Nat) (c0_10 : Nat) (w : World) (K : Value → World → Prop) : Prop :=
  newO w (.cells #[.int .i64 x0_0, .int .i64 x0_1, .int .i64 x0_2, .int .i64 x0_3, .int .i64 x0_4, .int .i64 x0_5, .slice a0_6 n0_6 c0_6, .int .i64 x0_7, .int .i64 x0_8, .int .i64 x0_9, .slice a0_10 n0_10 c0_10] 27) fun g w_2 =>
  Calls Try.prog 60 #[.agg #[.int .i64 x0_3, .int .i64 x0_4, .int .i64 x0_5, .slice a0_6 n0_6 c0_6]] w_2 fun e w_3 => KeepG [g] w_2 w_3 ∧
  ∃ (x8 : Int),
  e = .returned (.int .i64 x8) ∧
  br (decide (x8 ≠ 0)) (
    K (.int .i64 x8) w_3
  ) (
    br (decide (x0_0 = 0)) (
      newO w_3 (.cells #[.int .i64 0, .int .i64 0, .int .i64 0, .slice none 0 0] 25) fun g_2 w_4 =>
      ∀ w_5 : World, BoxSt g_2 w_4 w_5 →
      br (decide (x0_1 ≠ 0)) (
        K (.int .i64 2) w_5
      ) (
        br (decide (x0_2 ≠ 0)) (
          K (.int .i64 2) w_5
        ) (
          br (decide (x0_7 ≠ 0)) (
            K (.int .i64 2) w_5
          ) (
            br (decide (x0_8 ≠ 0)) (
              K (.int .i64 2) w_5
            ) (
              br (decide (x0_9 ≠ 0)) (
                K (.int .i64 2) w_5
              ) (
                br (decide (((n0_10 : Nat) : Int) ≠ 0)) (
                  K (.int .i64 2) w_5
                ) (
                  K (.int .i64 0) w_5
                )
              )
            )
          )
        )
      )
    ) (
      br (decide (x0_0 < 2)) (
        K (.int .i64 1) w_3
      ) (
        br (decide (x0_0 > 1073741824)) (
          K (.int .i64 1) w_3
        ) (
          br (decide (x0_1 < 0)) (
            K (.int .i64 1) w_3
          ) (
            br (decide (x0_1 ≥ x0_0)) (
              K (.int .i64 1) w_3
            ) (
              br (decide (x0_2 < 0)) (
                K (.int .i64 1) w_3
              ) (
                br (decide (x0_2 ≥ x0_0)) (
                  K (.int .i64 1) w_3
                ) (
                  br (decide (x0_1 = x0_2)) (
                    K (.int .i64 1) w_3
                  ) (
                    Calls Try.prog 60 #[.agg #[.int .i64 x0_7, .int .i64 x0_8, .int .i64 x0_9, .slice a0_10 n0_10 c0_10]] w_3 fun e_2 w_6 => KeepG [g] w_3 w_6 ∧
                    ∃ (x87 : Int),
                    e_2 = .returned (.int .i64 x87) ∧
                    br (decide (x87 ≠ 0)) (
                      K (.int .i64 x87) w_6
                    ) (
                      br (decide (x0_3 ≠ x0_7)) (
                        K (.int .i64 20) w_6
                      ) (
                        br (decide (x0_5 ≠ x0_9)) (
                          K (.int .i64 20) w_6
                        ) (
                          K (.int .i64 0) w_6
                        )
                      )
                    )
                  )
                )
              )
            )
          )
        )
      )
    )
  )
def rcplan_notes : Notes := ⟨[], [], [], []⟩
set_option maxHeartbeats 4000000 in
theorem rcplan_calls (x0_0 : Int) (x0_1 : Int) (x0_2 : Int) (x0_3 : Int) (x0_4 : Int) (x0_5 : Int) (a0_6 : Option Addr) (n0_6 : Nat) (c0_6 : Nat) (x0_7 : Int) (x0_8 : Int) (x0_9 : Int) (a0_10 : Option Addr) (n0_10 : Nat) (c0_10 : Nat) (w : World) (K : Value → World → Prop) (h : rcplan_vc x0_0 x0_1 x0_2 x0_3 x0_4 x0_5 a0_6 n0_6 c0_6 x0_7 x0_8 x0_9 a0_10 n0_10 c0_10 w K) : Calls Try.prog 30 #[.agg #[.int .i64 x0_0, .int .i64 x0_1, .int .i64 x0_2, .int .i64 x0_3, .int .i64 x0_4, .int .i64 x0_5, .slice a0_6 n0_6 c0_6, .int .i64 x0_7, .int .i64 x0_8, .int .i64 x0_9, .slice a0_10 n0_10 c0_10]] w fun e w' => ∃ v, e = .returned v ∧ K v w' :=
  calls_of_eq envOk Try.func30 rcplan_notes [1, 4] [.agg #[.int .i64 x0_0, .int .i64 x0_1, .int .i64 x0_2, .int .i64 x0_3, .int .i64 x0_4, .int .i64 x0_5, .slice a0_6 n0_6 c0_6, .int .i64 x0_7, .int .i64 x0_8, .int .i64 x0_9, .slice a0_10 n0_10 c0_10]] w K h (by as_aux_lemma => kernel_rfl)
/-- purser/purserref09.Same -/
def rsame_vc (x0_0 : Int) (x0_1 : Int) (x0_2 : Int) (a0_3 : Option Addr) (n0_3 : Nat) (c0_3 : Nat) (x1_0 : Int) (x1_1 : Int) (x1_2 : Int) (a1_3 : Option Addr) (n1_3 : Nat) (c1_3 : Nat) (w : World) (K : Value → World → Prop) : Prop :=
  newO w (.cells #[.int .i64 x0_0, .int .i64 x0_1, .int .i64 x0_2, .slice a0_3 n0_3 c0_3] 25) fun g w_2 =>
  newO w_2 (.cells #[.int .i64 x1_0, .int .i64 x1_1, .int .i64 x1_2, .slice a1_3 n1_3 c1_3] 25) fun g_2 w_3 =>
  br (decide (x0_0 ≠ x1_0)) (
    K (.bool false) w_3
  ) (
    br (decide (x0_1 ≠ x1_1)) (
      K (.bool false) w_3
    ) (
      br (decide (x0_2 ≠ x1_2)) (
        K (.bool false) w_3
      ) (
        br (decide (((n0_3 : Nat) : Int) ≠ ((n1_3 : Nat) : Int))) (
          K (.bool false) w_3
        ) (
          ∃ (I : Int → World → Prop) (μ : Int → World → Nat),
          I 0 w_3 ∧
          ∀ (x5 : Int) (w_4 : World), I x5 w_4 →
          br (decide (x5 < ((n0_3 : Nat) : Int))) (
            drewO w_4 fun w_5 =>
            withP a0_3 fun g44 o44 =>
            (0 : Int) ≤ x5 ∧ x5 < (((n0_3 : Nat) : Int) : Int) ∧
            ∃ (x45_0 : Int) (x45_1 : Int),
            cellsAt w_5 g44 (o44 + x5.toNat * 2) [.int .i64 x45_0, .int .i64 x45_1] ∧
            withP a1_3 fun g49 o49 =>
            (0 : Int) ≤ x5 ∧ x5 < (((n1_3 : Nat) : Int) : Int) ∧
            ∃ (x50_0 : Int) (x50_1 : Int),
            cellsAt w_5 g49 (o49 + x5.toNat * 2) [.int .i64 x50_0, .int .i64 x50_1] ∧
            br (!((decide (x45_0 = x50_0)) && ((decide (x45_1 = x50_1)) && true))) (
              K (.bool false) w_5
            ) (
              I (IntKind.i64.wrap (x5 + 1)) w_5 ∧ μ (IntKind.i64.wrap (x5 + 1)) w_5 < μ x5 w_4
            )
          ) (
            K (.bool true) w_4
          )
        )
      )
    )
  )
def rsame_notes : Notes := ⟨[(6, ⟨[0, 1, 0, 7, 15, 0, 32, 0, 224, 480, 1023], [], [0, 1, 2, 3, 4, 5, 6, 7, 8, 9, 10]⟩)], [(4, ⟨[(5, .lf (.int .i64))], [], [34, 35, 36, 37, 38, 41, 42, 43, 44, 45, 46, 47, 48, 49, 50, 51, 4, 39, 40, 5], []⟩)], [], []⟩
set_option maxHeartbeats 4000000 in
theorem rsame_calls (x0_0 : Int) (x0_1 : Int) (x0_2 : Int) (a0_3 : Option Addr) (n0_3 : Nat) (c0_3 : Nat) (x1_0 : Int) (x1_1 : Int) (x1_2 : Int) (a1_3 : Option Addr) (n1_3 : Nat) (c1_3 : Nat) (w : World) (K : Value → World → Prop) (h : rsame_vc x0_0 x0_1 x0_2 a0_3 n0_3 c0_3 x1_0 x1_1 x1_2 a1_3 n1_3 c1_3 w K) : Calls Try.prog 71 #[.agg #[.int .i64 x0_0, .int .i64 x0_1, .int .i64 x0_2, .slice a0_3 n0_3 c0_3], .agg #[.int .i64 x1_0, .int .i64 x1_1, .int .i64 x1_2, .slice a1_3 n1_3 c1_3]] w fun e w' => ∃ v, e = .returned v ∧ K v w' :=
  calls_of_eq envOk Try.func71 rsame_notes [2, 3] [.agg #[.int .i64 x0_0, .int .i64 x0_1, .int .i64 x0_2, .slice a0_3 n0_3 c0_3], .agg #[.int .i64 x1_0, .int .i64 x1_1, .int .i64 x1_2, .slice a1_3 n1_3 c1_3]] w K h (by as_aux_lemma => kernel_rfl)
end GTar
end Go.Proofs.Ytkggnbabnfhcpaa
end
section
/- Tariffs and plans: are they ones; which is it; the dearest; walked. -/
namespace Go.Proofs.Ytkggnbabnfhcpaa
open Go.RowKit
def trCells (t : Tr) : List Value := [.int .i64 t.upto, .int .i64 t.price]
theorem tr_len (t : Tr) : (trCells t).length = 2 := rfl
theorem tr_one (t : Tr) : ∀ v ∈ trCells t, v.oneCell' = true := by
  intro v hv
  simp [trCells] at hv
  rcases hv with rfl | rfl <;> rfl
abbrev TsAt (n0 : Nat) (w : World) (a : Option Addr) (ts : List Tr) : Prop := Rws trCells 2 n0 w a ts
def tarV (t : Tar) (a : Option Addr) (c : Nat) : Value := .agg #[.int .i64 t.grp, .int .i64 t.mode, .int .i64 t.block, .slice a t.ts.length c]
def planV (p : Pl) (a : Option Addr) (c : Nat) (a2 : Option Addr) (c2 : Nat) : Value :=
  .agg #[.int .i64 p.day, .int .i64 p.frm, .int .i64 p.til, .int .i64 p.base.grp, .int .i64 p.base.mode, .int .i64 p.base.block, .slice a p.base.ts.length c, .int .i64 p.other.grp, .int .i64 p.other.mode, .int .i64 p.other.block, .slice a2 p.other.ts.length c2]
/-- A plan's tiers lie in memory, not too many. -/
structure PlAt (w : World) (p : Pl) (a a2 : Option Addr) : Prop where
  base : TsAt 0 w a p.base.ts
  other : TsAt 0 w a2 p.other.ts
  lb : p.base.ts.length ≤ 1000
  lo : p.other.ts.length ≤ 1000
theorem PlAt.to {w w' : World} {p : Pl} {a a2 : Option Addr} (h : PlAt w p a a2) (b : Below w.heap.size w w') : PlAt w' p a a2 := ⟨h.base.below b, h.other.below b, h.lb, h.lo⟩
theorem within_ret (x lo hi : Int) (w : World) : Calls Try.prog 78 #[.int .i64 x, .int .i64 lo, .int .i64 hi] w (Ret (.bool (decide (lo ≤ x ∧ x ≤ hi))) w) := by
  refine ret_in (GTar.within_calls x lo hi w (fun u w' => u = .bool (decide (lo ≤ x ∧ x ≤ hi)) ∧ Below w.heap.size w w') ?_)
  unfold GTar.within_vc
  refine br_dec (fun h => ⟨?_, Bs.refl _⟩) fun h => ⟨?_, Bs.refl _⟩
  · congr 1; exact decide_eq_decide.2 (by omega)
  · congr 1; exact (decide_eq_false (by omega)).symm
theorem tiersE_cons (ahead : Int) (t : Tr) (r : List Tr) : tiersE ahead (t :: r) = if ¬ (0 ≤ t.price ∧ t.price ≤ 1048576) then 1 else if r = [] then (if t.upto ≠ 0 then 15 else 0) else if ¬ (ahead + 1 ≤ t.upto ∧ t.upto ≤ 1099511627776) then 15 else tiersE t.upto r := rfl
theorem tiers_ret (a : Option Addr) (c : Nat) (ts : List Tr) (w : World) (h : TsAt 0 w a ts) (hl : ts.length ≤ 1000) : Calls Try.prog 80 #[.slice a ts.length c] w (Ret (.int .i64 (tiersE 0 ts)) w) := by
  refine ret_in (GTar.tiers_calls a ts.length c w (fun u w' => u = .int .i64 (tiersE 0 ts) ∧ Below w.heap.size w w') ?_)
  unfold GTar.tiers_vc
  refine ⟨fun x y wx => ∃ i : Nat, y = i ∧ i ≤ ts.length ∧ tiersE 0 ts = tiersE x (ts.drop i) ∧ 0 ≤ x ∧ x ≤ 1099511627776 ∧ Bs w wx, fun _ y _ => ts.length - y.toNat, ⟨0, rfl, by omega, by simp, by omega, by omega, Bs.refl _⟩, ?_⟩
  rintro x y wx ⟨i, rfl, hi, he, hx0, hx1, B⟩
  refine br_dec (fun hlt => ?_) fun hge => ?_
  · have hil : i < ts.length := by omega
    obtain ⟨b, off, rfl, hc⟩ := (h.below B).get hil
    have hlast : (ts.drop (i + 1) = []) ↔ i = ts.length - 1 := by rw [List.drop_eq_nil_iff]; omega
    rw [List.drop_eq_getElem_cons hil, tiersE_cons] at he
    refine ⟨by omega, by omega, ts[i].upto, ts[i].price, by rw [Int.toNat_natCast]; exact hc, newB B fun g w3 g0 sg n3 z3 b3 B3 => boxB B3 g0 fun w4 h4 B4 z4 => callB B4 (within_ret _ _ _ _) fun w5 b5 B5 => ⟨_, rfl, ?_⟩⟩
    refine br_not (br_dec (fun hp => ?_) fun hp => ⟨by rw [he, if_pos hp], B5⟩)
    rw [if_neg (not_not_intro hp)] at he
    rw [wr64 (show -9223372036854775808 ≤ ((ts.length : Nat) : Int) - 1 by omega) (by omega), wr64 (show -9223372036854775808 ≤ ((i : Nat) : Int) + 1 by omega) (by omega), wr64 (show -9223372036854775808 ≤ x + 1 by omega) (by omega)]
    have next : ∀ wy, Bs w wy → 0 ≤ ts[i].upto → ts[i].upto ≤ 1099511627776 → tiersE 0 ts = tiersE ts[i].upto (ts.drop (i + 1)) → (∃ j : Nat, ((i : Nat) : Int) + 1 = j ∧ j ≤ ts.length ∧ tiersE 0 ts = tiersE ts[i].upto (ts.drop j) ∧ 0 ≤ ts[i].upto ∧ ts[i].upto ≤ 1099511627776 ∧ Bs w wy) ∧ ts.length - (((i : Nat) : Int) + 1).toNat < ts.length - ((i : Nat) : Int).toNat :=
      fun wy By h0 h1 h2 => ⟨⟨i + 1, by omega, by omega, h2, h0, h1, By⟩, by omega⟩
    by_cases hla : i = ts.length - 1
    · rw [if_pos (hlast.2 hla)] at he
      refine br_y (by omega) (br_dec (fun hu => ⟨by rw [he, if_pos hu], B5⟩) fun hu => br_f (by simp; omega) ?_)
      have hu := Decidable.not_not.1 hu
      exact next w5 B5 (by omega) (by omega) (by rw [he, if_neg (not_not_intro hu), hlast.2 hla]; rfl)
    · rw [if_neg (fun h => hla (hlast.1 h))] at he
      refine br_n (by omega) (br_t (by simp; omega) (callB B5 (within_ret _ _ _ _) fun w6 b6 B6 => ⟨_, rfl, br_not (br_dec (fun hu => ?_) fun hu => ⟨by rw [he, if_pos hu], B6⟩)⟩))
      exact next w6 B6 (by omega) (by omega) (by rw [he, if_neg (not_not_intro hu)])
  · obtain rfl : i = ts.length := by omega
    refine ⟨?_, B⟩
    rw [he, List.drop_length]; rfl
theorem check_ret (t : Tar) (a : Option Addr) (c : Nat) (w : World) (h : TsAt 0 w a t.ts) (hl : t.ts.length ≤ 1000) : Calls Try.prog 76 #[tarV t a c] w (Ret (.int .i64 (chkE t)) w) := by
  refine ret_in (GTar.check_calls t.grp t.mode t.block a t.ts.length c w (fun u w' => u = .int .i64 (chkE t) ∧ Below w.heap.size w w') ?_)
  unfold GTar.check_vc chkE
  refine newB (Bs.refl w) fun g w2 g0 sg n2 z2 b2 B2 => callB B2 (within_ret _ _ _ _) fun w3 b3 B3 => ⟨_, rfl, br_not (br_dec (fun h1 => ?_) fun h1 => ⟨by rw [if_pos (by omega)], B3⟩)⟩
  refine callB B3 (within_ret _ _ _ _) fun w4 b4 B4 => ⟨_, rfl, br_not (br_dec (fun h2 => ?_) fun h2 => ⟨by rw [if_pos (by omega)], B4⟩)⟩
  rw [if_neg (by omega)]
  have rest : ∀ w4, Bs w w4 → ¬ (t.mode ≠ 1 ∧ t.mode ≠ 2) → Calls Try.prog 78 #[.int .i64 ((t.ts.length : Nat) : Int), .int .i64 1, .int .i64 6] w4 fun e w5 => KeepG [g] w4 w5 ∧ ∃ b : Bool, e = .returned (.bool b) ∧ br (!b) (Value.int .i64 5 = .int .i64 (if t.mode ≠ 1 ∧ t.mode ≠ 2 then 21 else if ¬ (1 ≤ t.ts.length ∧ t.ts.length ≤ 6) then 5 else tiersE 0 t.ts) ∧ Below w.heap.size w w5)
      (Calls Try.prog 80 #[.slice a t.ts.length c] w5 fun e w6 => KeepG [g] w5 w6 ∧ ∃ x : Int, e = .returned (.int .i64 x) ∧ (Value.int .i64 x = .int .i64 (if t.mode ≠ 1 ∧ t.mode ≠ 2 then 21 else if ¬ (1 ≤ t.ts.length ∧ t.ts.length ≤ 6) then 5 else tiersE 0 t.ts) ∧ Below w.heap.size w w6)) := by
    intro w4 B4 hm
    refine callB B4 (within_ret _ _ _ _) fun w5 b5 B5 => ⟨_, rfl, br_not (br_dec (fun h3 => ?_) fun h3 => ⟨by rw [if_neg hm, if_pos (by omega)], B5⟩)⟩
    exact callB B5 (tiers_ret a c t.ts w5 (h.below B5) hl) fun w6 b6 B6 => ⟨_, rfl, by rw [if_neg hm, if_neg (by omega)], B6⟩
  refine br_dec (fun h3 => br_dec (fun h4 => ⟨by rw [if_pos ⟨h3, h4⟩], B4⟩) fun h4 => rest w4 B4 (by omega)) fun h3 => rest w4 B4 (by omega)
theorem nothing_ret (t : Tar) (a : Option Addr) (c : Nat) (w : World) : Calls Try.prog 77 #[tarV t a c] w (Ret (.bool (decide (nothingT t))) w) := by
  refine ret_in (GTar.nothing_calls t.grp t.mode t.block a t.ts.length c w (fun u w' => u = .bool (decide (nothingT t)) ∧ Below w.heap.size w w') ?_)
  unfold GTar.nothing_vc nothingT
  refine newB (Bs.refl w) fun g w2 g0 sg n2 z2 b2 B2 => br_dec (fun h1 => br_dec (fun h2 => br_dec (fun h3 => ⟨?_, B2⟩) fun h => ⟨?_, B2⟩) fun h => ⟨?_, B2⟩) fun h => ⟨?_, B2⟩
  · congr 1
    exact decide_eq_decide.2 ⟨fun h => ⟨h1, h2, h3, List.length_eq_zero_iff.1 (by omega)⟩, fun h => by rw [h.2.2.2]; rfl⟩
  · congr 1; exact (decide_eq_false fun k => h k.2.2.1).symm
  · congr 1; exact (decide_eq_false fun k => h k.2.1).symm
  · congr 1; exact (decide_eq_false fun k => h k.1).symm
theorem cplan_ret (p : Pl) (a a2 : Option Addr) (c c2 : Nat) (w : World) (h : PlAt w p a a2) (hd : -9223372036854775808 ≤ p.day) (hd2 : p.day ≤ 9223372036854775807) : Calls Try.prog 72 #[planV p a c a2 c2] w (Ret (.int .i64 (planE p)) w) := by
  refine ret_in (GTar.cplan_calls p.day p.frm p.til p.base.grp p.base.mode p.base.block a p.base.ts.length c p.other.grp p.other.mode p.other.block a2 p.other.ts.length c2 w (fun u w' => u = .int .i64 (planE p) ∧ Below w.heap.size w w') ?_)
  unfold GTar.cplan_vc planE
  refine newB (Bs.refl w) fun g w2 g0 sg n2 z2 b2 B2 => callB B2 (check_ret p.base a c w2 (h.base.below B2) h.lb) fun w3 b3 B3 => ⟨_, rfl, br_dec (fun h1 => ⟨by rw [if_pos h1], B3⟩) fun h1 => ?_⟩
  rw [if_neg h1]
  refine br_dec (fun h0 => ?_) fun h0 => ?_
  · rw [if_pos h0]
    refine br_dec (fun h2 => ⟨by rw [if_neg (fun k => h2 k.1)], B3⟩) fun h2 => br_dec (fun h3 => ⟨by rw [if_neg (fun k => h3 k.2.1)], B3⟩) fun h3 => callB B3 (nothing_ret p.other a2 c2 w3) fun w4 b4 B4 => ⟨_, rfl, br_not (br_dec (fun h4 => ⟨?_, B4⟩) fun h4 => ⟨by rw [if_neg (fun k => h4 k.2.2)], B4⟩)⟩
    rw [if_pos ⟨Decidable.not_not.1 h2, Decidable.not_not.1 h3, h4⟩]
  · rw [if_neg h0]
    have no : ∀ {q : Prop}, ¬ q → (dayOk p → q) → ∀ z : Int, (1 : Int) = if ¬ dayOk p then 1 else z := fun hq hk z => by rw [if_pos fun k => hq (hk k)]
    refine callB B3 (within_ret _ _ _ _) fun w4 b4 B4 => ⟨_, rfl, br_not (br_dec (fun h2 => ?_) fun h2 => ⟨by rw [← no h2 fun k => k.1], B4⟩)⟩
    rw [wr64 (show -9223372036854775808 ≤ p.day - 1 by omega) (by omega)]
    refine callB B4 (within_ret _ _ _ _) fun w5 b5 B5 => ⟨_, rfl, br_not (br_dec (fun h3 => ?_) fun h3 => ⟨by rw [← no h3 fun k => k.2.1], B5⟩)⟩
    refine callB B5 (within_ret _ _ _ _) fun w6 b6 B6 => ⟨_, rfl, br_not (br_dec (fun h4 => ?_) fun h4 => ⟨by rw [← no h4 fun k => k.2.2.1], B6⟩)⟩
    refine br_dec (fun h5 => ⟨by rw [← no (not_not_intro h5) fun k => k.2.2.2], B6⟩) fun h5 => ?_
    rw [if_neg (not_not_intro (show dayOk p from ⟨h2, h3, h4, h5⟩))]
    refine callB B6 (check_ret p.other a2 c2 w6 (h.other.below B6) h.lo) fun w7 b7 B7 => ⟨_, rfl, br_dec (fun h6 => ⟨by rw [if_pos h6], B7⟩) fun h6 => ?_⟩
    rw [if_neg h6]
    exact br_dec (fun h7 => ⟨by rw [if_pos (.inl h7)], B7⟩) fun h7 => br_dec (fun h8 => ⟨by rw [if_pos (.inr h8)], B7⟩) fun h8 => ⟨by rw [if_neg (by omega)], B7⟩
theorem isOther_day {p : Pl} {now : Int} (h : p.day ≠ 0) : isOther p now ↔ if p.frm < p.til then p.frm ≤ Int.tmod now p.day ∧ Int.tmod now p.day < p.til else p.frm ≤ Int.tmod now p.day ∨ Int.tmod now p.day < p.til := ⟨fun k => k.2, fun k => ⟨h, k⟩⟩
end Go.Proofs.Ytkggnbabnfhcpaa
end
section
/- Numbers in ten parts of 32 bits: what one part of a sum, a difference, a product is. No program in sight. -/
namespace Go.Proofs.Ytkggnbabnfhcpaa
open Go.RowKit
def limb (n i : Nat) : Nat := n / 2 ^ (32 * i) % 4294967296
def uV (n : Nat) : Value := .int .u64 n
def arr (f : Nat → Nat) (neg : Bool) : Array Value := #[uV (f 0), uV (f 1), uV (f 2), uV (f 3), uV (f 4), uV (f 5), uV (f 6), uV (f 7), uV (f 8), uV (f 9), .bool neg]
def bigM (n : Nat) (neg : Bool) : Value := .agg (arr (limb n) neg)
def bigOf (z : Int) : Value := bigM z.natAbs (decide (z < 0))
theorem limb_lt (n i : Nat) : limb n i < 4294967296 := Nat.mod_lt _ (by omega)
theorem cases10 {P : Nat → Prop} (h0 : P 0) (h1 : P 1) (h2 : P 2) (h3 : P 3) (h4 : P 4) (h5 : P 5) (h6 : P 6) (h7 : P 7) (h8 : P 8) (h9 : P 9) : ∀ i, i < 10 → P i := by
  intro i hi
  match i, hi with
  | 0, _ => exact h0
  | 1, _ => exact h1
  | 2, _ => exact h2
  | 3, _ => exact h3
  | 4, _ => exact h4
  | 5, _ => exact h5
  | 6, _ => exact h6
  | 7, _ => exact h7
  | 8, _ => exact h8
  | 9, _ => exact h9
  | n + 10, h => omega
theorem arr_get (f : Nat → Nat) (neg : Bool) : ∀ i, i < 10 → (arr f neg)[i]? = some (.int .u64 (f i)) := cases10 rfl rfl rfl rfl rfl rfl rfl rfl rfl rfl
theorem arr_neg (f : Nat → Nat) (neg : Bool) : (arr f neg)[10]? = some (.bool neg) := rfl
theorem arr_size (f : Nat → Nat) (neg : Bool) : (arr f neg).size = 11 := rfl
theorem arr_congr {f g : Nat → Nat} (neg : Bool) (h : ∀ i, i < 10 → f i = g i) : arr f neg = arr g neg := by
  unfold arr
  rw [h 0 (by omega), h 1 (by omega), h 2 (by omega), h 3 (by omega), h 4 (by omega), h 5 (by omega), h 6 (by omega), h 7 (by omega), h 8 (by omega), h 9 (by omega)]
theorem arr_set (f : Nat → Nat) (neg : Bool) (v : Nat) : ∀ i, i < 10 → (arr f neg).setIfInBounds i (.int .u64 v) = arr (fun k => if k = i then v else f k) neg := cases10 rfl rfl rfl rfl rfl rfl rfl rfl rfl rfl
theorem arr_setNeg (f : Nat → Nat) (neg b : Bool) : (arr f neg).setIfInBounds 10 (.bool b) = arr f b := rfl
theorem arr_one (f : Nat → Nat) (neg : Bool) : (arr f neg).all (·.oneCell') = true := by simp [arr, uV, Value.oneCell']
theorem arr_zero : arr (fun _ => 0) false = #[.int .u64 0, .int .u64 0, .int .u64 0, .int .u64 0, .int .u64 0, .int .u64 0, .int .u64 0, .int .u64 0, .int .u64 0, .int .u64 0, .bool false] := rfl
theorem limb_zero (i : Nat) : limb 0 i = 0 := by unfold limb; rw [Nat.zero_div]
theorem bigOf_zero : bigOf 0 = .agg (arr (fun _ => 0) false) := by
  show Value.agg (arr (limb 0) false) = _
  rw [arr_congr false (g := fun _ => 0) (fun i _ => limb_zero i)]

/-! One step of a sum. -/
def carry (n m i : Nat) : Nat := (n % 2 ^ (32 * i) + m % 2 ^ (32 * i)) / 2 ^ (32 * i)
theorem pow_succ32 (i : Nat) : 2 ^ (32 * (i + 1)) = 2 ^ (32 * i) * 4294967296 := by rw [Nat.mul_add, Nat.pow_add]
theorem mod_limb (n i : Nat) : n % 2 ^ (32 * (i + 1)) = n % 2 ^ (32 * i) + 2 ^ (32 * i) * limb n i := by
  rw [pow_succ32, Nat.mod_mul]; rfl
theorem carry_zero (n m : Nat) : carry n m 0 = 0 := by unfold carry; simp [Nat.mod_one]
theorem carry_le (n m i : Nat) : carry n m i ≤ 1 := by
  unfold carry
  have hp : 0 < 2 ^ (32 * i) := Nat.pow_pos (by omega)
  have h1 := Nat.mod_lt n hp
  have h2 := Nat.mod_lt m hp
  have : (n % 2 ^ (32 * i) + m % 2 ^ (32 * i)) / 2 ^ (32 * i) < 2 := by rw [Nat.div_lt_iff_lt_mul hp]; omega
  omega
theorem add_step (n m i : Nat) : (limb n i + limb m i + carry n m i) / 4294967296 = carry n m (i + 1) ∧ (limb n i + limb m i + carry n m i) % 4294967296 = limb (n + m) i := by
  have hp : 0 < 2 ^ (32 * i) := Nat.pow_pos (by omega)
  constructor
  · unfold carry
    rw [mod_limb, mod_limb, pow_succ32]
    generalize 2 ^ (32 * i) = p at *
    rw [← Nat.div_div_eq_div_mul]
    congr 1
    rw [show n % p + p * limb n i + (m % p + p * limb m i) = (n % p + m % p) + p * (limb n i + limb m i) by rw [Nat.mul_add]; omega, Nat.add_mul_div_left _ _ hp]
    omega
  · unfold carry limb
    generalize 2 ^ (32 * i) = p at *
    have h : (n + m) / p = n / p + m / p + (n % p + m % p) / p := by
      conv => lhs; rw [← Nat.div_add_mod n p, ← Nat.div_add_mod m p]
      rw [show p * (n / p) + n % p + (p * (m / p) + m % p) = (n % p + m % p) + p * (n / p + m / p) by rw [Nat.mul_add]; omega, Nat.add_mul_div_left _ _ hp]
      omega
    rw [h]
    omega
theorem u64_mask (s : Nat) (h : s < 18446744073709551616) : bits BinOp.and IntKind.u64 (s : Int) 4294967295 = ((s % 4294967296 : Nat) : Int) := by
  rw [show (4294967295 : Int) = ((4294967295 : Nat) : Int) from rfl, u64_and_nat _ _ h (by omega), show (4294967295 : Nat) = 2 ^ 32 - 1 from rfl, Nat.and_two_pow_sub_one_eq_mod]
/-! One step of a difference. -/
def borrow (n m i : Nat) : Nat := if n % 2 ^ (32 * i) < m % 2 ^ (32 * i) then 1 else 0
theorem borrow_zero (n m : Nat) : borrow n m 0 = 0 := by unfold borrow; simp [Nat.mod_one]
theorem borrow_le (n m i : Nat) : borrow n m i ≤ 1 := by unfold borrow; split <;> omega
theorem sub_step (n m i : Nat) (h : m ≤ n) : 1 - (limb n i + 4294967296 - limb m i - borrow n m i) / 4294967296 = borrow n m (i + 1) ∧ (limb n i + 4294967296 - limb m i - borrow n m i) % 4294967296 = limb (n - m) i := by
  have hp : 0 < 2 ^ (32 * i) := Nat.pow_pos (by omega)
  constructor
  · unfold borrow
    rw [mod_limb, mod_limb]
    have lx := limb_lt n i
    have ly := limb_lt m i
    have r1 := Nat.mod_lt n hp
    have r2 := Nat.mod_lt m hp
    generalize limb n i = x at *
    generalize limb m i = y at *
    generalize 2 ^ (32 * i) = p at *
    generalize n % p = r at *
    generalize m % p = s at *
    rcases Nat.lt_trichotomy x y with hxy | hxy | hxy
    · have h1 : p * (x + 1) ≤ p * y := Nat.mul_le_mul_left p hxy
      rw [Nat.mul_add, Nat.mul_one] at h1
      rw [if_pos (show r + p * x < s + p * y by omega)]
      split <;> omega
    · subst hxy
      by_cases hrs : r < s
      · rw [if_pos hrs, if_pos (by omega)]; omega
      · rw [if_neg hrs, if_neg (by omega)]; omega
    · have h1 : p * (y + 1) ≤ p * x := Nat.mul_le_mul_left p hxy
      rw [Nat.mul_add, Nat.mul_one] at h1
      rw [if_neg (show ¬ (r + p * x < s + p * y) by omega)]
      split <;> omega
  · unfold borrow limb
    have r1 := Nat.mod_lt n hp
    have r2 := Nat.mod_lt m hp
    generalize 2 ^ (32 * i) = p at *
    have e1 := Nat.div_add_mod n p
    have e2 := Nat.div_add_mod m p
    have hd : m / p ≤ n / p := Nat.div_le_div_right h
    have key : (n - m) / p = n / p - m / p - (if n % p < m % p then 1 else 0) := by
      split
      · rename_i hlt
        have hne : m / p < n / p := by
          rcases Nat.lt_or_ge (m / p) (n / p) with h1 | h1
          · exact h1
          · have : n / p = m / p := by omega
            rw [this] at e1
            omega
        have hm : p * (m / p + 1) ≤ p * (n / p) := Nat.mul_le_mul_left p hne
        rw [Nat.mul_add, Nat.mul_one] at hm
        have e3 : n - m = (p + n % p - m % p) + p * (n / p - m / p - 1) := by
          rw [Nat.mul_sub, Nat.mul_sub]
          omega
        rw [e3, Nat.add_mul_div_left _ _ hp, Nat.div_eq_of_lt (by omega)]
        omega
      · have hm : p * (m / p) ≤ p * (n / p) := Nat.mul_le_mul_left p hd
        have e3 : n - m = (n % p - m % p) + p * (n / p - m / p) := by
          rw [Nat.mul_sub]
          omega
        rw [e3, Nat.add_mul_div_left _ _ hp, Nat.div_eq_of_lt (by omega)]
        omega
    rw [key]
    have hb : n % p < m % p → m / p < n / p := fun hlt => by
      rcases Nat.lt_or_ge (m / p) (n / p) with h1 | h1
      · exact h1
      · have : n / p = m / p := by omega
        rw [this] at e1
        omega
    generalize n / p = a at *
    generalize m / p = b at *
    split
    · rename_i hlt
      have := hb hlt
      omega
    · omega
/-! From the top: the first part that parts them decides. -/
theorem div_limb (n i : Nat) : n / 2 ^ (32 * i) = 4294967296 * (n / 2 ^ (32 * (i + 1))) + limb n i := by
  rw [pow_succ32, ← Nat.div_div_eq_div_mul]
  unfold limb
  omega
theorem less_same {n m i : Nat} (h : n / 2 ^ (32 * (i + 1)) = m / 2 ^ (32 * (i + 1))) (h2 : limb n i = limb m i) : n / 2 ^ (32 * i) = m / 2 ^ (32 * i) := by rw [div_limb n, div_limb m, h, h2]
theorem less_apart {n m i : Nat} (h : n / 2 ^ (32 * (i + 1)) = m / 2 ^ (32 * (i + 1))) (h2 : limb n i ≠ limb m i) : decide (limb n i < limb m i) = decide (n < m) := by
  have e1 := div_limb n i
  have e2 := div_limb m i
  rw [h] at e1
  have hp : 0 < 2 ^ (32 * i) := Nat.pow_pos (by omega)
  have f1 := Nat.div_add_mod n (2 ^ (32 * i))
  have f2 := Nat.div_add_mod m (2 ^ (32 * i))
  have r1 := Nat.mod_lt n hp
  have r2 := Nat.mod_lt m hp
  generalize 2 ^ (32 * i) = p at *
  generalize limb n i = x at *
  generalize limb m i = y at *
  rcases Nat.lt_or_gt_of_ne h2 with hxy | hxy
  · have h3 : n / p + 1 ≤ m / p := by omega
    have h4 := Nat.mul_le_mul_left p h3
    rw [Nat.mul_add, Nat.mul_one] at h4
    rw [decide_eq_true hxy, decide_eq_true (by omega)]
  · have h3 : m / p + 1 ≤ n / p := by omega
    have h4 := Nat.mul_le_mul_left p h3
    rw [Nat.mul_add, Nat.mul_one] at h4
    rw [decide_eq_false (by omega), decide_eq_false (by omega)]
/-- More than all ten parts hold. (A name: the number itself is never to be reckoned.) -/
def lim : Nat := 2 ^ (32 * 10)
theorem lim_eq : lim = 2 ^ (32 * 10) := by unfold lim; rfl
theorem lim_div {n : Nat} (h : n < lim) : n / 2 ^ (32 * 10) = 0 := by rw [← lim_eq]; exact Nat.div_eq_of_lt h
theorem lim_big {n k : Nat} (hk : k ≤ 32 * 10) (h : n < 2 ^ k) : n < lim := by
  have h2 := Nat.pow_le_pow_right (n := 2) (by omega) hk
  rw [← lim_eq] at h2
  exact Nat.lt_of_lt_of_le h h2
theorem top_zero {n : Nat} (h : n < lim) : n / 2 ^ (32 * (9 + 1)) = 0 := by
  rw [show 9 + 1 = 10 from rfl]; exact lim_div h
theorem all_same {n m : Nat} (h : n / 2 ^ (32 * 0) = m / 2 ^ (32 * 0)) : n = m := by simpa using h
/-- Nought has no part. -/
theorem limb_all_zero {n : Nat} (h : n < lim) (h0 : ∀ i, i < 10 → limb n i = 0) : n = 0 := by
  have e : ∀ k, k ≤ 10 → n / 2 ^ (32 * (10 - k)) = 0 := by
    intro k
    induction k with
    | zero => intro _; rw [Nat.sub_zero]; exact lim_div h
    | succ k ih =>
      intro hk
      have h1 := ih (by omega)
      rw [div_limb, show 10 - (k + 1) + 1 = 10 - k by omega, h1, h0 _ (by omega)]
  have := e 10 (by omega)
  simpa using this
theorem limb_small {n i : Nat} (h : n < 2 ^ (32 * i)) : limb n i = 0 := by unfold limb; rw [Nat.div_eq_of_lt h]
end Go.Proofs.Ytkggnbabnfhcpaa
end
section
/- 'add' of the reference, walked. -/
namespace Go.Proofs.Ytkggnbabnfhcpaa
open Go.RowKit
/-- A block that holds a row, whole. -/
def Blk (w : World) (g : Nat) (cs : Array Value) (t : TypeId) : Prop := w.heap[g]? = some (.cells cs t (0, 0))
theorem Blk.cell {w : World} {g : Nat} {cs : Array Value} {t : TypeId} (h : Blk w g cs t) (i : Nat) : w.cell? ⟨g, i, none⟩ = cs[i]? := cell_of_row _ _ _ _ _ _ h
theorem Blk.frozen {w : World} {g : Nat} {cs : Array Value} {t : TypeId} (h : Blk w g cs t) (i : Nat) : w.frozen? ⟨g, i, none⟩ = false := frozen_of_row _ _ _ _ _ h
theorem Blk.setCell {w : World} {g : Nat} {cs : Array Value} {t : TypeId} (h : Blk w g cs t) (i : Nat) (v : Value) : Blk (w.setCell ⟨g, i, none⟩ v) g (cs.setIfInBounds i v) t := heap_setCell_same _ _ _ _ _ _ h
theorem Blk.other {w : World} {g k i : Nat} {cs : Array Value} {t : TypeId} {v : Value} (h : Blk w g cs t) (hne : g ≠ k) : Blk (w.setCell ⟨k, i, none⟩ v) g cs t := (heap_setCell_other _ _ _ _ hne).trans h
theorem Blk.new {w : World} {cs : Array Value} {t : TypeId} {k : Nat} (h : k = w.heap.size) : Blk (w.alloc (.cells cs t)) k cs t := al_new h
theorem Blk.alloc {w : World} {g : Nat} {cs : Array Value} {t : TypeId} (h : Blk w g cs t) (o : Obj) : Blk (w.alloc o) g cs t := al_old h
theorem Blk.setRow {w : World} {g : Nat} {cs : Array Value} {t : TypeId} (h : Blk w g cs t) (ds : Array Value) : Blk (w.setRow g ds) g ds t := setRow_heap _ _ _ _ _ _ h
theorem Blk.otherRow {w : World} {g k : Nat} {cs : Array Value} {t : TypeId} (h : Blk w g cs t) (ds : Array Value) (hne : g ≠ k) : Blk (w.setRow k ds) g cs t := by
  unfold Blk at *
  simp only [World.setRow, Array.getElem?_modify]
  rw [if_neg (fun e => hne e.symm)]
  exact h
theorem Blk.lt {w : World} {g : Nat} {cs : Array Value} {t : TypeId} (h : Blk w g cs t) : g < w.heap.size := heap_lt h
theorem Blk.below {w w' : World} {g B : Nat} {cs : Array Value} {t : TypeId} (h : Blk w g cs t) (hb : Below B w w') (hB : w.heap.size ≤ B) : Blk w' g cs t := Below.kept hb (Nat.lt_of_lt_of_le h.lt hB) h
theorem al3 (w : World) (A B C : Obj) : ((w.alloc A).alloc B |>.alloc C).heap[w.heap.size]? = some A ∧ ((w.alloc A).alloc B |>.alloc C).heap[w.heap.size + 1]? = some B ∧ ((w.alloc A).alloc B |>.alloc C).heap[w.heap.size + 1 + 1]? = some C ∧
    Below w.heap.size w ((w.alloc A).alloc B |>.alloc C) :=
  ⟨al_old (al_old (al_new rfl)), al_old (al_new (by simp)), al_new (by simp), ((Below_one A).alloc (by simp) B).alloc (by simp; omega) C⟩
def mix (n m i k : Nat) : Nat := if k < i then limb (n + m) k else limb n k
end Go.Proofs.Ytkggnbabnfhcpaa
end
section
/- '==' of two arrays of integers. No program in sight. -/
namespace Go.Proofs.Ytkggnbabnfhcpaa
open Go.RowKit
variable {P : Program}
theorem run_part1 {e : TypeId} {k : IntKind} (he : P.underlying e = some (.int k)) (w : World) (cs : Array Value) (i : Nat) (v : Value) (h : cs[i]? = some v) : (part e cs i).run P w = .ok v w := by
  simp [part, isAgg, run_underlying he, h]
theorem run_eqRange {e : TypeId} {k : IntKind} (he : P.underlying e = some (.int k)) (w : World) (xs ys : Array Value) (d : Nat) (f g : Nat → Int) : ∀ (l : List Nat), (∀ i ∈ l, xs[i]? = some (.int k (f i)) ∧ ys[i]? = some (.int k (g i))) →
    (forIn (m := Sem) l ((none, ()) : Option Bool × Unit) fun i (_ : Option Bool × Unit) => do
      let a ← part e xs (i * 1)
      let b ← part e ys (i * 1)
      let r ← Op.equalIn (d + 1) e a b
      if (!r) = true then pure (ForInStep.done (some false, ())) else pure (ForInStep.yield (none, ()))).run P w =
      .ok (if l.all (fun i => f i == g i) then (none, ()) else (some false, ())) w := by
  intro l
  induction l with
  | nil => intro _; rfl
  | cons i l ih =>
    intro h
    obtain ⟨h1, h2⟩ := h i (by simp)
    have e1 := run_part1 he w xs (i * 1) _ (by rw [Nat.mul_one]; exact h1)
    have e2 := run_part1 he w ys (i * 1) _ (by rw [Nat.mul_one]; exact h2)
    have e3 := run_equalIn_int (P := P) w d e k k (f i) (g i) he
    simp only [List.forIn_cons, Sem.run_bind, e1, e2, e3, Result.andThen_ok]
    cases hq : (f i == g i)
    · simp [hq]
    · simp only [Bool.not_true, Bool.false_eq_true, if_false, Sem.run_pure, Result.andThen_ok, List.all_cons, hq, Bool.true_and]
      exact ih fun j hj => h j (by simp [hj])
theorem run_equalIn_arr {t e : TypeId} {k : IntKind} {n : Nat} (d : Nat) (ht : P.underlying t = some (.array n e)) (he : P.underlying e = some (.int k)) (hs : ∀ w, (sizeOf e).run P w = .ok 1 w) (xs ys : Array Value) (f g : Nat → Int)
    (h : ∀ i, i < n → xs[i]? = some (.int k (f i)) ∧ ys[i]? = some (.int k (g i))) (w : World) : (Op.equalIn (d + 2) t (.agg xs) (.agg ys)).run P w = .ok ((List.range n).all fun i => f i == g i) w := by
  unfold Op.equalIn
  simp only [Sem.run_bind, run_underlying ht, Result.andThen_ok, hs]
  rw [Std.Legacy.Range.forIn_eq_forIn_range']
  have hr := run_eqRange (P := P) he w xs ys d f g (List.range n) (fun i hi => h i (List.mem_range.1 hi))
  simp only [Std.Legacy.Range.size, Nat.sub_zero, Nat.add_sub_cancel, Nat.div_one, ← List.range_eq_range']
  rw [hr]
  split
  · rename_i hq
    simp [hq]
  · rename_i hq
    simp [hq]
end Go.Proofs.Ytkggnbabnfhcpaa
end
section
/- 'sub', 'less', 'zero' of the reference, walked. -/
namespace Go.Proofs.Ytkggnbabnfhcpaa
open Go.RowKit
def mixS (n m i k : Nat) : Nat := if k < i then limb (n - m) k else limb n k
theorem al2 (w : World) (A B : Obj) : ((w.alloc A).alloc B).heap[w.heap.size]? = some A ∧ ((w.alloc A).alloc B).heap[w.heap.size + 1]? = some B ∧ Below w.heap.size w ((w.alloc A).alloc B) :=
  ⟨al_old (al_new rfl), al_new (by simp), (Below_one A).alloc (by simp) B⟩
theorem all_limbs (n : Nat) (hn : n < lim) : ((List.range 10).all fun i => ((limb n i : Nat) : Int) == 0) = decide (n = 0) := by
  by_cases h : n = 0
  · subst h
    rw [decide_eq_true rfl, List.all_eq_true]
    intro i _
    rw [limb_zero]; rfl
  · rw [decide_eq_false h, List.all_eq_false]
    refine Classical.byContradiction fun hc => h (limb_all_zero hn fun i hi => Classical.byContradiction fun h0 => hc ⟨i, List.mem_range.2 hi, ?_⟩)
    simp; omega
end Go.Proofs.Ytkggnbabnfhcpaa
end
section
/- 'Plus', 'Of', 'Minus', 'Int' of the reference, walked. -/
namespace Go.Proofs.Ytkggnbabnfhcpaa
open Go.RowKit
/-- What is left of two numbers of unlike signs. -/
def diffM (n m : Nat) (na nb : Bool) : Value := if n < m then bigM (m - n) nb else bigM (n - m) (if n = m then false else na)
end Go.Proofs.Ytkggnbabnfhcpaa
end
section
/- 'Of', 'Minus', 'Int' of the reference, walked. -/
namespace Go.Proofs.Ytkggnbabnfhcpaa
open Go.RowKit
theorem ofArr (u : Nat) (h : u < 18446744073709551616) (neg : Bool) : arr (limb u) neg = #[.int .u64 ((u % 4294967296 : Nat) : Int), .int .u64 ((u / 4294967296 : Nat) : Int), .int .u64 0, .int .u64 0, .int .u64 0, .int .u64 0, .int .u64 0, .int .u64 0, .int .u64 0, .int .u64 0, .bool neg] := by
  have hz : ∀ i, 2 ≤ i → limb u i = 0 := fun i hi => limb_small (Nat.lt_of_lt_of_le h (Nat.pow_le_pow_right (n := 2) (by omega) (show 64 ≤ 32 * i by omega)))
  have h0 : limb u 0 = u % 4294967296 := by unfold limb; simp
  have h1 : limb u 1 = u / 4294967296 := by unfold limb; rw [show 2 ^ (32 * 1) = 4294967296 from rfl]; omega
  unfold arr uV
  rw [h0, h1, hz 2 (by omega), hz 3 (by omega), hz 4 (by omega), hz 5 (by omega), hz 6 (by omega), hz 7 (by omega), hz 8 (by omega), hz 9 (by omega)]
  rfl
def fitB (z : Int) : Bool := decide (-9223372036854775808 ≤ z ∧ z ≤ 9223372036854775807)
/-- A number and whether it is an int. -/
def fitV (z : Int) : Value := .tuple #[.int .i64 (if fitB z = true then z else 0), .bool (fitB z)]
theorem fitV_yes {z : Int} (h1 : -9223372036854775808 ≤ z) (h2 : z ≤ 9223372036854775807) : fitV z = .tuple #[.int .i64 z, .bool true] := by
  have : fitB z = true := by unfold fitB; simp [h1, h2]
  unfold fitV; rw [this]; rfl
theorem fitV_no {z : Int} (h : z < -9223372036854775808 ∨ 9223372036854775807 < z) : fitV z = .tuple #[.int .i64 0, .bool false] := by
  have : fitB z = false := by unfold fitB; simp; omega
  unfold fitV; rw [this]; rfl
theorem high_zero {n : Nat} (hn : n < lim) (h : ∀ k, 2 ≤ k → k < 10 → limb n k = 0) : n < 18446744073709551616 := by
  have e : ∀ k, k ≤ 8 → n / 2 ^ (32 * (10 - k)) = 0 := by
    intro k
    induction k with
    | zero => intro _; rw [Nat.sub_zero]; exact lim_div hn
    | succ k ih =>
      intro hk
      rw [div_limb, show 10 - (k + 1) + 1 = 10 - k by omega, ih (by omega), h _ (by omega) (by omega)]
  have := e 8 (by omega)
  have h2 : n / 18446744073709551616 = 0 := this
  omega
theorem or_limbs (n : Nat) (h : n < 18446744073709551616) : bits BinOp.or IntKind.u64 ((limb n 0 : Nat) : Int) (((limb n 1 : Nat) : Int) * 4294967296) = (n : Int) := by
  have h0 : limb n 0 = n % 4294967296 := by unfold limb; simp
  have h1 : limb n 1 = n / 4294967296 := by unfold limb; rw [show 2 ^ (32 * 1) = 4294967296 from rfl]; omega
  rw [h0, h1, show ((n / 4294967296 : Nat) : Int) * 4294967296 = ((n / 4294967296 * 4294967296 : Nat) : Int) by omega, u64_or_nat _ _ (by omega) (by omega), Nat.or_comm, nat_join 32 _ _ (by omega) (by omega)]
  omega
end Go.Proofs.Ytkggnbabnfhcpaa
end
section
/- 'Add', 'Sub', 'Mul' of the code, walked. -/
namespace Go.Proofs.Ytkggnbabnfhcpaa
open Go.RowKit
theorem maskN (a : Nat) (ha : a < 18446744073709551616) : bits .and .u64 (a : Int) 4294967295 = ((a % 4294967296 : Nat) : Int) := u64_mask a ha
theorem divN (a : Nat) : (a : Int) / 4294967296 = ((a / 4294967296 : Nat) : Int) := by omega
theorem mulN (a b : Nat) : (a : Int) * (b : Int) = ((a * b : Nat) : Int) := (Int.natCast_mul a b).symm
theorem addN (a b : Nat) : (a : Int) + (b : Int) = ((a + b : Nat) : Int) := (Int.natCast_add a b).symm
theorem wrapN (a : Nat) (ha : a < 18446744073709551616) : IntKind.u64.wrap (a : Int) = (a : Int) := by rw [IntKind.wrap_u64]; omega
theorem wrapM (a : Nat) : IntKind.u64.wrap (a : Int) = ((a % 18446744073709551616 : Nat) : Int) := by rw [IntKind.wrap_u64]; omega
end Go.Proofs.Ytkggnbabnfhcpaa
end
section
/- 'Times' of the reference, walked. -/
namespace Go.Proofs.Ytkggnbabnfhcpaa
open Go.RowKit
/-- A fact put by so that no search comes upon it. -/
structure Box (p : Prop) : Prop where
  out : p
theorem lim_mul {n m k : Nat} (hn : n < 2 ^ k) (hm : m < 2 ^ k) : n * m < 2 ^ (k + k) := by rw [Nat.pow_add]; exact Nat.mul_lt_mul'' hn hm
/-! One part set to another value. -/
theorem limb_div {n p j : Nat} (h : p ≤ j) : limb n j = limb (n / 2 ^ (32 * p)) (j - p) := by
  unfold limb
  rw [Nat.div_div_eq_div_mul, ← Nat.pow_add, ← Nat.mul_add, show p + (j - p) = j by omega]
theorem limb_mod {n p j : Nat} (h : j < p) : limb (n % 2 ^ (32 * p)) j = limb n j := by
  unfold limb
  rw [show 2 ^ (32 * p) = 2 ^ (32 * j) * (4294967296 * 2 ^ (32 * (p - j - 1))) by
    rw [← Nat.mul_assoc, ← pow_succ32, ← Nat.pow_add, ← Nat.mul_add, show j + 1 + (p - j - 1) = p by omega]]
  rw [Nat.mod_mul_right_div_self, Nat.mod_mul_right_mod]
/-- The number with another part. -/
def put (n p v : Nat) : Nat := (n / 2 ^ (32 * (p + 1)) * 4294967296 + v) * 2 ^ (32 * p) + n % 2 ^ (32 * p)
theorem put_div {n p v : Nat} : put n p v / 2 ^ (32 * p) = n / 2 ^ (32 * (p + 1)) * 4294967296 + v := by
  have hp : 0 < 2 ^ (32 * p) := Nat.pow_pos (by omega)
  unfold put
  rw [Nat.add_comm, Nat.add_mul_div_right _ _ hp, Nat.div_eq_of_lt (Nat.mod_lt _ hp), Nat.zero_add]
theorem put_mod {n p v : Nat} : put n p v % 2 ^ (32 * p) = n % 2 ^ (32 * p) := by
  unfold put
  rw [Nat.add_comm, Nat.add_mul_mod_self_right, Nat.mod_mod]
theorem limb_put {n p v : Nat} (hv : v < 4294967296) (j : Nat) : limb (put n p v) j = if j = p then v else limb n j := by
  by_cases h : j = p
  · subst h
    rw [if_pos rfl]
    unfold limb
    rw [put_div]
    omega
  · rw [if_neg h]
    by_cases hl : j < p
    · rw [← limb_mod hl, put_mod, limb_mod hl]
    · rw [limb_div (show p + 1 ≤ j by omega), limb_div (n := n) (show p + 1 ≤ j by omega)]
      congr 1
      rw [pow_succ32, ← Nat.div_div_eq_div_mul, put_div, ← Nat.div_div_eq_div_mul]
      have : (n / 2 ^ (32 * (p + 1)) * 4294967296 + v) / 4294967296 = n / 2 ^ (32 * (p + 1)) := by omega
      rw [this, pow_succ32, Nat.div_div_eq_div_mul]
theorem put_eq (n p v : Nat) : put n p v + limb n p * 2 ^ (32 * p) = n + v * 2 ^ (32 * p) := by
  have h1 := Nat.div_add_mod n (2 ^ (32 * p))
  have h2 := div_limb n p
  unfold put
  rw [Nat.add_mul]
  have h3 : n = (n / 2 ^ (32 * (p + 1)) * 4294967296) * 2 ^ (32 * p) + limb n p * 2 ^ (32 * p) + n % 2 ^ (32 * p) := by
    conv => lhs; rw [← h1, h2, Nat.mul_add, Nat.mul_comm, Nat.mul_comm 4294967296, Nat.mul_comm (2 ^ (32 * p)) (limb n p)]
  omega
/-- What is in the sum behind i rows and k parts of the next one. -/
def part (n m i k : Nat) : Nat := n % 2 ^ (32 * i) * m + limb n i * 2 ^ (32 * i) * (m % 2 ^ (32 * k))
theorem part_zero (n m i : Nat) : part n m i 0 = n % 2 ^ (32 * i) * m := by unfold part; simp [Nat.mod_one]
theorem part_next (n m i k : Nat) : part n m i (k + 1) = part n m i k + limb n i * limb m k * 2 ^ (32 * (i + k)) := by
  unfold part
  rw [mod_limb m k, Nat.mul_add, Nat.mul_add 32 i k, Nat.pow_add 2 (32 * i)]
  have : limb n i * 2 ^ (32 * i) * (2 ^ (32 * k) * limb m k) = limb n i * limb m k * (2 ^ (32 * i) * 2 ^ (32 * k)) := by
    generalize 2 ^ (32 * i) = a; generalize 2 ^ (32 * k) = b
    rw [Nat.mul_assoc, Nat.mul_assoc]
    congr 1
    rw [← Nat.mul_assoc a b, Nat.mul_comm (a * b)]
  omega
theorem part_row (n m i : Nat) (hm : m < 2 ^ (32 * 5)) : part n m i 5 = n % 2 ^ (32 * (i + 1)) * m := by
  unfold part
  rw [Nat.mod_eq_of_lt hm, mod_limb n i, Nat.add_mul, Nat.mul_comm (limb n i)]
theorem times_step {n m i k C over x : Nat} (hI : C + over * 2 ^ (32 * (i + k)) = part n m i k) (hx : x = limb C (i + k)) :
    put C (i + k) ((x + limb n i * limb m k + over) % 4294967296) + (x + limb n i * limb m k + over) / 4294967296 * 2 ^ (32 * (i + (k + 1))) = part n m i (k + 1) := by
  rw [part_next, ← hI]
  have h := put_eq C (i + k) ((x + limb n i * limb m k + over) % 4294967296)
  rw [← hx] at h
  rw [show i + (k + 1) = i + k + 1 by omega, pow_succ32]
  generalize 2 ^ (32 * (i + k)) = B at *
  generalize hq : limb n i * limb m k = q at *
  have e1 : (x + q + over) / 4294967296 * (B * 4294967296) + (x + q + over) % 4294967296 * B = (x + q + over) * B := by
    rw [Nat.mul_comm B, ← Nat.mul_assoc, ← Nat.add_mul]
    congr 1
    omega
  rw [Nat.add_mul, Nat.add_mul] at e1
  omega
theorem row_lt {n m i : Nat} (hm : m < 2 ^ (32 * 5)) (j : Nat) (hj : i + 5 ≤ j) : limb (n % 2 ^ (32 * i) * m) j = 0 := by
  refine limb_small ?_
  have h1 : n % 2 ^ (32 * i) < 2 ^ (32 * i) := Nat.mod_lt _ (Nat.pow_pos (by omega))
  have h2 : n % 2 ^ (32 * i) * m < 2 ^ (32 * i) * 2 ^ (32 * 5) := Nat.mul_lt_mul'' h1 hm
  rw [← Nat.pow_add, ← Nat.mul_add] at h2
  exact Nat.lt_of_lt_of_le h2 (Nat.pow_le_pow_right (by omega) (by omega))
end Go.Proofs.Ytkggnbabnfhcpaa
end
section
/- Lists of ints: 'Sum' of the code and of the reference, 'Same'. -/
namespace Go.Proofs.Ytkggnbabnfhcpaa
open Go.RowKit
theorem seI_load_row {P : Program} {ops : Array Oper} {wx : World} {Q : Act → Prop} {i : Nat} {r : List Nat} {a : Act} {o : Oper} (ho : ops[i]? = some o) (hgd : o.guard = none) (ty : TypeId) (x : Operand) (hop : o.op = .load ty x)
    (g : Nat) (hx : a.eval x = .pointer (some ⟨g, 0, none⟩)) (t : TypeId) (cs : Array Value) (fr : Nat × Nat) (d : TypeDesc) (hg : wx.heap[g]? = some (.cells cs t fr))
    (hu : P.underlying ty = some d) (hd : (match d with | .struct _ | .array _ _ => true | _ => false) = true) (hi : (P.info? ty).map (·.size) = some cs.size)
    (h : seI P ops wx Q r (a.put o.dst (.agg cs))) : seI P ops wx Q (i :: r) a := by
  refine seI_step ho fun K hK => ?_
  rw [if_pos (by simp [Region.wanted, hgd])]
  unfold Oper.still execOp
  simp only [hop, hx, Instr.loadAt, Instr.sureAddr, Sem.run_bind, Sem.run_pure, Result.andThen_ok, run_loadVar_row wx g t ty cs fr d hg hu hd hi]
  rw [Oper.stillUpon_value]
  exact hK _ h
def total (zs : List Int) : Int := zs.foldl (· + ·) 0
theorem total_take_succ {zs : List Int} {k : Nat} (h : k < zs.length) : total (zs.take (k + 1)) = total (zs.take k) + zs[k] := by
  unfold total
  rw [List.take_succ_eq_append_getElem h, List.foldl_append]
  rfl
theorem total_bound {zs : List Int} (h : ints zs) : ∀ k, k ≤ zs.length → -9223372036854775808 * (k : Int) ≤ total (zs.take k) ∧ total (zs.take k) ≤ 9223372036854775808 * (k : Int) := by
  intro k
  induction k with
  | zero => intro _; simp [total]
  | succ k ih =>
    intro hk
    have := ih (by omega)
    have hz := h zs[k] (List.getElem_mem _)
    rw [total_take_succ (by omega)]
    omega
def sLo (z : Int) : Int := z % 18446744073709551616
def sHi (z : Int) : Int := z / 18446744073709551616 % 18446744073709551616
theorem lo_step (s n : Int) : (sLo s + IntKind.u64.wrap n) % 18446744073709551616 = sLo (s + n) := by rw [IntKind.wrap_u64]; unfold sLo; omega
theorem hi_step (s n : Int) (h1 : -9223372036854775808 ≤ n) (h2 : n ≤ 9223372036854775807) :
    IntKind.u64.wrap (sHi s + IntKind.u64.wrap (IntKind.u64.wrap (n / 9223372036854775808) + (sLo s + IntKind.u64.wrap n) / 18446744073709551616)) = sHi (s + n) := by
  simp only [IntKind.wrap_u64]
  have e1 : n = n % 18446744073709551616 + 18446744073709551616 * (n / 9223372036854775808) := by omega
  have e2 : s = sLo s + 18446744073709551616 * (s / 18446744073709551616) := by unfold sLo; omega
  have e3 : (s + n) / 18446744073709551616 = s / 18446744073709551616 + n / 9223372036854775808 + (sLo s + n % 18446744073709551616) / 18446744073709551616 := by
    have e4 : s + n = (sLo s + n % 18446744073709551616) + 18446744073709551616 * (s / 18446744073709551616 + n / 9223372036854775808) := by omega
    generalize sLo s + n % 18446744073709551616 = z at *
    generalize s / 18446744073709551616 = q at *
    generalize n / 9223372036854775808 = r at *
    omega
  unfold sHi
  rw [e3]
  generalize (sLo s + n % 18446744073709551616) / 18446744073709551616 = z
  generalize s / 18446744073709551616 = q
  generalize n / 9223372036854775808 = r
  omega
end Go.Proofs.Ytkggnbabnfhcpaa
end
section
/- The law of sums, walked. -/
namespace Go.Proofs.Ytkggnbabnfhcpaa
open Go.RowKit
theorem Try.infoInt : (Try.prog.info? 3).map (fun i => (i.zero, i.size, i.bytes)) = some (some (.int .i64 0), 1, 8) := by kernel_rfl
end Go.Proofs.Ytkggnbabnfhcpaa
end
section
/- The law of pairs, walked. -/
namespace Go.Proofs.Ytkggnbabnfhcpaa
open Go.RowKit
theorem sign_mul (x y : Int) : decide (x * y < 0) = ((decide (x < 0) != decide (y < 0)) && !(decide ((x * y).natAbs = 0))) := by
  rcases Int.lt_trichotomy x 0 with hx | hx | hx <;> rcases Int.lt_trichotomy y 0 with hy | hy | hy
  · have := Int.mul_pos_of_neg_of_neg hx hy
    rw [decide_eq_true hx, decide_eq_true hy, decide_eq_false (by omega)]; rfl
  · subst hy; simp
  · have := Int.mul_neg_of_neg_of_pos hx hy
    rw [decide_eq_true hx, decide_eq_false (show ¬ y < 0 by omega), decide_eq_true this, decide_eq_false (show ¬ (x * y).natAbs = 0 by omega)]; rfl
  · subst hx; simp
  · subst hx; simp
  · subst hx; simp
  · have := Int.mul_neg_of_pos_of_neg hx hy
    rw [decide_eq_false (show ¬ x < 0 by omega), decide_eq_true hy, decide_eq_true this, decide_eq_false (show ¬ (x * y).natAbs = 0 by omega)]; rfl
  · subst hy; simp
  · have := Int.mul_pos hx hy
    rw [decide_eq_false (show ¬ x < 0 by omega), decide_eq_false (show ¬ y < 0 by omega), decide_eq_false (show ¬ x * y < 0 by omega)]; rfl
theorem fitV_out (z : Int) : ∃ x o, fitV z = .tuple #[.int .i64 x, .bool o] := ⟨_, _, rfl⟩
end Go.Proofs.Ytkggnbabnfhcpaa
end
section
/- 'Blocks' of both, walked. -/
namespace Go.Proofs.Ytkggnbabnfhcpaa
open Go.RowKit
/-- How many blocks, and whether there are any to be told. -/
def blkB (u b : Int) : Bool := decide (0 ≤ u ∧ 1 ≤ b)
def blkV (u b : Int) : Int := if blkB u b = true then (u + b - 1) / b else 0
def blkT (u b : Int) : Value := .tuple #[.int .i64 (blkV u b), .bool (blkB u b)]
theorem blkT_no {u b : Int} (h : u < 0 ∨ b < 1) : blkT u b = .tuple #[.int .i64 0, .bool false] := by
  have : blkB u b = false := by unfold blkB; simp; omega
  unfold blkT blkV; rw [this]; rfl
theorem blkT_yes {u b : Int} (h1 : 0 ≤ u) (h2 : 1 ≤ b) : blkT u b = .tuple #[.int .i64 ((u + b - 1) / b), .bool true] := by
  have : blkB u b = true := by unfold blkB; simp; omega
  unfold blkT blkV; rw [this]; rfl
theorem blk_one {u b : Int} (h1 : 1 ≤ u) (h2 : 1 ≤ b) : (u - 1).tdiv b + 1 = (u + b - 1) / b ∧ 0 ≤ (u - 1) / b ∧ (u - 1) / b < u := by
  rw [Int.tdiv_eq_ediv_of_nonneg (by omega), show u + b - 1 = (u - 1) + 1 * b by omega, Int.add_mul_ediv_right _ _ (by omega)]
  refine ⟨rfl, Int.ediv_nonneg (by omega) (by omega), ?_⟩
  have := Int.ediv_le_self b (show 0 ≤ u - 1 by omega)
  omega
theorem blk_two {u b : Int} (h1 : 0 ≤ u) (h2 : 1 ≤ b) : (u % b = 0 → (u + b - 1) / b = u / b) ∧ (u % b ≠ 0 → (u + b - 1) / b = u / b + 1) ∧ 0 ≤ u / b ∧ u / b ≤ u ∧ (u % b ≠ 0 → u / b < u) := by
  have hd := Int.mul_ediv_add_emod u b
  have m0 := Int.emod_nonneg u (show b ≠ 0 by omega)
  have m1 := Int.emod_lt_of_pos u (show 0 < b by omega)
  have q0 : 0 ≤ u / b := Int.ediv_nonneg h1 (by omega)
  have q1 := Int.ediv_le_self b h1
  have e : u + b - 1 = (u % b + b - 1) + (u / b) * b := by rw [Int.mul_comm]; omega
  refine ⟨fun h => ?_, fun h => ?_, q0, q1, fun h => ?_⟩
  · rw [e, Int.add_mul_ediv_right _ _ (by omega), h, Int.ediv_eq_zero_of_lt (by omega) (by omega)]; omega
  · rw [e, Int.add_mul_ediv_right _ _ (by omega), show u % b + b - 1 = (u % b - 1) + 1 * b by omega, Int.add_mul_ediv_right _ _ (by omega), Int.ediv_eq_zero_of_lt (by omega) (by omega)]; omega
  · refine Classical.byContradiction fun h3 => ?_
    · have h4 : u / b = u := by omega
      rw [h4] at hd
      have : u ≤ b * u := by
        have := Int.mul_le_mul_of_nonneg_right h2 h1
        omega
      omega
end Go.Proofs.Ytkggnbabnfhcpaa
end
section
/- Usage spread over tiers, and what it costs: tier and rate; walked. -/
namespace Go.Proofs.Ytkggnbabnfhcpaa
open Go.RowKit
def lnCells (l : Ln) : List Value := [.int .i64 l.tier, .int .i64 l.blocks, .int .i64 l.price]
theorem ln_len (l : Ln) : (lnCells l).length = 3 := rfl
theorem ln_one (l : Ln) : ∀ v ∈ lnCells l, v.oneCell' = true := by
  intro v hv
  simp [lnCells] at hv
  rcases hv with rfl | rfl | rfl <;> rfl
abbrev LsAt (n0 : Nat) (w : World) (a : Option Addr) (ls : List Ln) : Prop := Rws lnCells 3 n0 w a ls
end Go.Proofs.Ytkggnbabnfhcpaa
end
section
/- What lines cost; what units come to, at most, and how many fit: tier.Cost, rate; walked. -/
namespace Go.Proofs.Ytkggnbabnfhcpaa
open Go.RowKit
def prodsL (ls : List Ln) : List Int := ls.map fun l => l.blocks * l.price
def blksL (ls : List Ln) : List Int := ls.map (·.blocks)
theorem total_cons (z : Int) (zs : List Int) : total (z :: zs) = z + total zs := by
  unfold total
  have key : ∀ (l : List Int) (a b : Int), l.foldl (· + ·) (a + b) = a + l.foldl (· + ·) b := by
    intro l
    induction l with
    | nil => intro a b; rfl
    | cons x r ih => intro a b; simp only [List.foldl_cons]; rw [Int.add_assoc, ih]
  rw [List.foldl_cons, Int.zero_add]
  have := key zs z 0
  rwa [Int.add_zero] at this
theorem total_prods : ∀ ls : List Ln, total (prodsL ls) = costOf ls
  | [] => rfl
  | l :: r => by rw [prodsL, List.map_cons, total_cons]; show _ + total (prodsL r) = _; rw [total_prods r]; rfl
theorem total_blks : ∀ ls : List Ln, total (blksL ls) = blocksOf ls
  | [] => rfl
  | l :: r => by rw [blksL, List.map_cons, total_cons]; show _ + total (blksL r) = _; rw [total_blks r]; rfl
theorem prod_fits {l : Ln} (h : (0 ≤ l.blocks ∧ l.blocks ≤ 1073741824) ∧ 0 ≤ l.price ∧ l.price ≤ 1048576) : 0 ≤ l.blocks * l.price ∧ l.blocks * l.price ≤ 1125899906842624 := ⟨Int.mul_nonneg h.1.1 h.2.1, mul_le_mul_i h.1.2 h.2.2 h.2.1 (by omega)⟩
/-- Lines that are small enough. -/
def LsOk (ls : List Ln) : Prop := (∀ l ∈ ls, (0 ≤ l.blocks ∧ l.blocks ≤ 1073741824) ∧ 0 ≤ l.price ∧ l.price ≤ 1048576) ∧ ls.length ≤ 1000
theorem cost_fits {ls : List Ln} (h : LsOk ls) : 0 ≤ costOf ls ∧ costOf ls ≤ 1125899906842624 * ls.length := by
  obtain ⟨h1, h2⟩ := h
  clear h2
  induction ls with
  | nil => simp [costOf]
  | cons l r ih =>
    have h3 := prod_fits (h1 l (by simp))
    have h4 := ih fun x hx => h1 x (by simp [hx])
    simp only [costOf, List.length_cons]
    push_cast
    omega
def rtdV (r : Rtd) (a : Option Addr) (c : Nat) : Value := .agg #[.slice a r.ls.length c, .int .i64 r.blocks, .int .i64 r.cost, .int .i64 r.pos]
theorem splitO_ok {t : Tar} (h : chkE t = 0) (pos : Int) {n : Int} (hn : 0 ≤ n ∧ n ≤ 1073741824) : LsOk (splitO t pos n) := by
  unfold splitO
  split
  · rename_i hp
    obtain ⟨h1, _, h3⟩ := splitL_ok h hp.1 hn.1
    exact ⟨fun l hl => by have := h1 l hl; omega, by omega⟩
  · exact ⟨(fun l hl => by cases hl), by simp⟩
end Go.Proofs.Ytkggnbabnfhcpaa
end
section
/- The document's tariffs, lines and what they cost: references 9, 10, 11; walked. -/
namespace Go.Proofs.Ytkggnbabnfhcpaa
open Go.RowKit
theorem r9check_ret (t : Tar) (a : Option Addr) (c : Nat) (w : World) (h : TsAt 0 w a t.ts) (hl : t.ts.length ≤ 1000) : Calls Try.prog 60 #[tarV t a c] w (Ret (.int .i64 (chkE t)) w) := by
  refine ret_in (GTar.rcheck_calls t.grp t.mode t.block a t.ts.length c w (fun u w' => u = .int .i64 (chkE t) ∧ Below w.heap.size w w') ?_)
  unfold GTar.rcheck_vc chkE
  refine newB (Bs.refl w) fun g w2 g0 sg n2 z2 b2 B2 => br_dec (fun h1 => ⟨by rw [if_pos (by omega)], B2⟩) fun h1 => br_dec (fun h2 => ⟨by rw [if_pos (by omega)], B2⟩) fun h2 => br_dec (fun h3 => ⟨by rw [if_pos (by omega)], B2⟩) fun h3 => br_dec (fun h4 => ⟨by rw [if_pos (by omega)], B2⟩) fun h4 => ?_
  rw [if_neg (by omega)]
  refine ⟨fun b wx => b = decide (t.mode ≠ 1 ∧ t.mode ≠ 2) ∧ w2 = wx, br_dec (fun hm => ⟨decide_eq_decide.2 (by omega), rfl⟩) fun hm => ⟨(decide_eq_false (by omega)).symm, rfl⟩, ?_⟩
  rintro b wx ⟨rfl, rfl⟩
  refine br_dec (fun hm => ⟨by rw [if_pos hm], B2⟩) fun hm => br_dec (fun h5 => ⟨by rw [if_neg hm, if_pos (by omega)], B2⟩) fun h5 => br_dec (fun h6 => ⟨by rw [if_neg hm, if_pos (by omega)], B2⟩) fun h6 => ?_
  rw [if_neg hm, if_neg (by omega)]
  generalize t.ts = ts at *
  refine ⟨fun x y wx => ∃ i : Nat, y = i ∧ i ≤ ts.length ∧ tiersE 0 ts = tiersE x (ts.drop i) ∧ 0 ≤ x ∧ x ≤ 1099511627776 ∧ Bs w wx, fun _ y _ => ts.length - y.toNat, ⟨0, rfl, by omega, by simp, by omega, by omega, B2⟩, ?_⟩
  rintro x y wx ⟨i, rfl, hi, he, hx0, hx1, B⟩
  refine br_dec (fun hlt => ?_) fun hge => ?_
  · have hil : i < ts.length := by omega
    obtain ⟨b, off, rfl, hc⟩ := (h.below B).get hil
    have hlast : (ts.drop (i + 1) = []) ↔ i = ts.length - 1 := by rw [List.drop_eq_nil_iff]; omega
    rw [List.drop_eq_getElem_cons hil, tiersE_cons] at he
    refine ⟨by omega, by omega, ts[i].upto, ts[i].price, by rw [Int.toNat_natCast]; exact hc, newB B fun g w3 g0 sg n3 z3 b3 B3 => boxB B3 g0 fun w4 h4 B4 z4 => ?_⟩
    refine br_dec (fun hp => ⟨by rw [he, if_pos (by omega)], B4⟩) fun hp1 => br_dec (fun hp => ⟨by rw [he, if_pos (by omega)], B4⟩) fun hp2 => ?_
    rw [if_neg (by omega)] at he
    rw [wr64 (show -9223372036854775808 ≤ ((ts.length : Nat) : Int) - 1 by omega) (by omega), wr64 (show -9223372036854775808 ≤ ((i : Nat) : Int) + 1 by omega) (by omega)]
    have next : ∀ wy, Bs w wy → 0 ≤ ts[i].upto → ts[i].upto ≤ 1099511627776 → tiersE 0 ts = tiersE ts[i].upto (ts.drop (i + 1)) → (∃ j : Nat, ((i : Nat) : Int) + 1 = j ∧ j ≤ ts.length ∧ tiersE 0 ts = tiersE ts[i].upto (ts.drop j) ∧ 0 ≤ ts[i].upto ∧ ts[i].upto ≤ 1099511627776 ∧ Bs w wy) ∧ ts.length - (((i : Nat) : Int) + 1).toNat < ts.length - ((i : Nat) : Int).toNat :=
      fun wy By h0 h1 h2 => ⟨⟨i + 1, by omega, by omega, h2, h0, h1, By⟩, by omega⟩
    by_cases hla : i = ts.length - 1
    · rw [if_pos (hlast.2 hla)] at he
      refine br_y (by omega) (br_dec (fun hu => ⟨by rw [he, if_pos hu], B4⟩) fun hu => ?_)
      have hu := Decidable.not_not.1 hu
      exact next w4 B4 (by omega) (by omega) (by rw [he, if_neg (not_not_intro hu), hlast.2 hla]; rfl)
    · rw [if_neg (fun h => hla (hlast.1 h))] at he
      refine br_n (by omega) (br_dec (fun hu => ⟨by rw [he, if_pos (by omega)], B4⟩) fun hu => br_dec (fun hu2 => ⟨by rw [he, if_pos (by omega)], B4⟩) fun hu2 => ?_)
      exact next w4 B4 (by omega) (by omega) (by rw [he, if_neg (by omega)])
  · obtain rfl : i = ts.length := by omega
    refine ⟨?_, B⟩
    rw [he, List.drop_length]; rfl
theorem r9cplan_ret (p : Pl) (a a2 : Option Addr) (c c2 : Nat) (w : World) (h : PlAt w p a a2) : Calls Try.prog 30 #[planV p a c a2 c2] w (Ret (.int .i64 (planE p)) w) := by
  refine ret_in (GTar.rcplan_calls p.day p.frm p.til p.base.grp p.base.mode p.base.block a p.base.ts.length c p.other.grp p.other.mode p.other.block a2 p.other.ts.length c2 w (fun u w' => u = .int .i64 (planE p) ∧ Below w.heap.size w w') ?_)
  unfold GTar.rcplan_vc planE
  refine newB (Bs.refl w) fun g w2 g0 sg n2 z2 b2 B2 => callB B2 (r9check_ret p.base a c w2 (h.base.below B2) h.lb) fun w3 b3 B3 => ⟨_, rfl, br_dec (fun h1 => ⟨by rw [if_pos h1], B3⟩) fun h1 => ?_⟩
  rw [if_neg h1]
  refine br_dec (fun h0 => newB B3 fun g' w4 g0' sg' n4 z4 b4 B4 => boxB B4 g0' fun w5 h5 B5 z5 => ?_) fun h0 => ?_
  · rw [if_pos h0]
    have bad : ¬ (p.frm = 0 ∧ p.til = 0 ∧ nothingT p.other) → Value.int .i64 2 = .int .i64 (if p.frm = 0 ∧ p.til = 0 ∧ nothingT p.other then 0 else 2) ∧ Below w.heap.size w w5 := fun k => ⟨by rw [if_neg k], B5⟩
    refine br_dec (fun k => bad fun q => k q.1) fun k1 => br_dec (fun k => bad fun q => k q.2.1) fun k2 => br_dec (fun k => bad fun q => k q.2.2.1) fun k3 => br_dec (fun k => bad fun q => k q.2.2.2.1) fun k4 => br_dec (fun k => bad fun q => k q.2.2.2.2.1) fun k5 => br_dec (fun k => bad fun q => k (by rw [q.2.2.2.2.2]; rfl)) fun k6 => ⟨?_, B5⟩
    rw [if_pos ⟨Decidable.not_not.1 k1, Decidable.not_not.1 k2, Decidable.not_not.1 k3, Decidable.not_not.1 k4, Decidable.not_not.1 k5, List.length_eq_zero_iff.1 (by omega)⟩]
  · rw [if_neg h0]
    have bad : ¬ dayOk p → ∀ z : Int, Value.int .i64 1 = .int .i64 (if ¬ dayOk p then 1 else z) ∧ Below w.heap.size w w3 := fun k z => ⟨by rw [if_pos k], B3⟩
    refine br_dec (fun k => bad (fun q => by have := q.1; omega) _) fun k1 => br_dec (fun k => bad (fun q => by have := q.1; omega) _) fun k2 => br_dec (fun k => bad (fun q => by have := q.2.1; omega) _) fun k3 => br_dec (fun k => bad (fun q => by have := q.2.1; omega) _) fun k4 => br_dec (fun k => bad (fun q => by have := q.2.2.1; omega) _) fun k5 => br_dec (fun k => bad (fun q => by have := q.2.2.1; omega) _) fun k6 => br_dec (fun k => bad (fun q => q.2.2.2 k) _) fun k7 => ?_
    rw [if_neg (not_not_intro (show dayOk p from ⟨by omega, by omega, by omega, k7⟩))]
    refine callB B3 (r9check_ret p.other a2 c2 w3 (h.other.below B3) h.lo) fun w7 b7 B7 => ⟨_, rfl, br_dec (fun h6 => ⟨by rw [if_pos h6], B7⟩) fun h6 => ?_⟩
    rw [if_neg h6]
    exact br_dec (fun h7 => ⟨by rw [if_pos (.inl h7)], B7⟩) fun h7 => br_dec (fun h8 => ⟨by rw [if_pos (.inr h8)], B7⟩) fun h8 => ⟨by rw [if_neg (by omega)], B7⟩
def prevOf (ts : List Tr) : Nat → Int
  | 0 => 0
  | i + 1 => match ts[i]? with | some t => t.upto | none => 0
end Go.Proofs.Ytkggnbabnfhcpaa
end
section
/- A plan is written, by both; walked. -/
namespace Go.Proofs.Ytkggnbabnfhcpaa
open Go.RowKit
theorem num10 {z : Int} (h : NumOk z) : (uintB z).length ≤ 10 := uint_len10 (by have := h.2; omega)
theorem trsB_len {ts : List Tr} (h : ∀ x ∈ ts, NumOk x.upto ∧ NumOk x.price) : (ts.flatMap tirB).length ≤ 20 * ts.length := by
  induction ts with
  | nil => simp
  | cons t r ih =>
    have h1 := h t (by simp)
    have h2 := ih fun x hx => h x (by simp [hx])
    have a := num10 h1.1
    have b := num10 h1.2
    simp only [List.flatMap_cons, List.length_append, List.length_cons, tirB]
    omega
theorem tarHd_len {t : Tar} (h : TarIo t) : (tarHd t).length ≤ 40 := by
  have a := num10 h.g
  have b := num10 h.m
  have c := num10 h.b
  have d := uint_len10 (n := (t.ts.length : Int)) (by have := h.l; omega)
  simp only [tarHd, List.length_append]
  omega
theorem tarB_len {t : Tar} (h : TarIo t) : (tarB t).length ≤ 160 := by
  have a := tarHd_len h
  have b := trsB_len h.ts
  have c := h.l
  simp only [tarB, List.length_append]
  omega
def tarNs (t : Tar) : List Int := [t.grp, t.mode, t.block, (t.ts.length : Int)]
theorem tarNs_hd (t : Tar) : (tarNs t).flatMap uintB = tarHd t := by simp [tarNs, tarHd]
theorem tarNs_ok {t : Tar} (h : TarIo t) : ∀ z ∈ tarNs t, 0 ≤ z ∧ z ≤ 1099511627776 := by
  intro z hz
  simp [tarNs] at hz
  have := h.l
  rcases hz with rfl | rfl | rfl | rfl
  · exact h.g
  · exact h.m
  · exact h.b
  · omega
theorem put_any {wb w : World} (t : Tar) (a : Option Addr) (c gw : Nat) (K : List Nat) (bs : List UInt8) (bad : Bool) (B : Bs wb w) (h : TsAt 0 wb a t.ts) (ht : TarIo t) (hW : WAt w K gw bs bad) (hK : From wb.heap.size K) (hl : bs.length ≤ 1000000) :
    Calls Try.prog 73 #[.pointer (some ⟨gw, 0, none⟩), tarV t a c] w (W1 w K gw (bs ++ tarB t) bad) := by
  refine (GTarB.put_calls (some ⟨gw, 0, none⟩) t.grp t.mode t.block a t.ts.length c w (fun u w' => u = .tuple #[] ∧ W1 w K gw (bs ++ tarB t) bad (.returned (.tuple #[])) w') ?_).mono (by rintro e w' ⟨v, rfl, rfl, h⟩; exact h)
  unfold GTarB.put_vc
  have hu := hW.under
  have hW0 := hW
  have hhl := tarHd_len ht
  have hns := tarNs_ok ht
  have hns4 : (tarNs t).length = 4 := rfl
  refine newB (Bs.refl w) fun g w2 g0 sg n2 z2 b2 B2 => newB B2 fun g' w3 g0' sg' n3 z3 b3 B3 => ?_
  have W3 : WP w3 K w3 gw bs bad := WP.start (hW.keep (fun k hk => B3.block k (hu k hk)) B3.size)
  have far : ∀ x ∈ [g], x < w3.heap.size ∧ x ∉ K := fun x hx => by
    rw [List.mem_singleton] at hx; subst hx
    exact ⟨by omega, fun hm => by have := hu _ hm; omega⟩
  have farA : g' ∉ K := fun hm => by have := hu _ hm; omega
  have hBw : ∀ {wx : World}, Fr K w3 wx → Bs wb wx := fun f => (B.to B3).trans (f.below hK (B.to B3).size)
  refine ⟨fun x wx => ∃ i : Nat, x = i ∧ i ≤ 4 ∧ WP w3 K wx gw (bs ++ ((tarNs t).take i).flatMap uintB) bad, fun x _ => 4 - x.toNat, ⟨0, rfl, by omega, by simpa using W3⟩, ?_⟩
  rintro x wx ⟨i, rfl, hi, hW⟩
  refine br_dec (fun hlt => ?_) fun hge => ?_
  · have hi4 : i < (tarNs t).length := by omega
    have hmem := List.getElem_mem hi4
    have hz := hns _ hmem
    refine ⟨by omega, by omega, (tarNs t)[i], ?_, hW.uint _ hz.1 (by omega) ?_ far fun w5 h5 z5 => ⟨rfl, ?_⟩⟩
    · rw [cell_keep (hW.keep (b := g') (by omega) farA), cell_of_row _ _ _ _ _ _ n3, Int.toNat_natCast, Nat.zero_add, Nat.mul_one]
      have : #[Value.int .i64 t.grp, .int .i64 t.mode, .int .i64 t.block, .int .i64 (t.ts.length : Int)] = ((tarNs t).map (Value.int .i64)).toArray := rfl
      rw [this, List.getElem?_toArray, List.getElem?_map, List.getElem?_eq_getElem hi4]
      rfl
    · have : (((tarNs t).take i).flatMap uintB).length ≤ (tarHd t).length := by
        rw [← tarNs_hd]
        conv => rhs; rw [← List.take_append_drop i (tarNs t), List.flatMap_append, List.length_append]
        omega
      rw [List.length_append]; omega
    · rw [wr64 (by omega) (by omega)]
      refine ⟨⟨i + 1, by omega, by omega, ?_⟩, by dsimp only; omega⟩
      rw [List.take_add_one, List.getElem?_eq_getElem hi4, List.flatMap_append, ← List.append_assoc]
      simpa using h5
  · obtain rfl : i = 4 := by omega
    rw [show (tarNs t).take 4 = tarNs t from rfl, tarNs_hd] at hW
    refine ⟨fun x wx => ∃ i : Nat, x = i ∧ i ≤ t.ts.length ∧ WP w3 K wx gw (bs ++ tarHd t ++ (t.ts.take i).flatMap tirB) bad, fun x _ => t.ts.length - x.toNat, ⟨0, rfl, by omega, by simpa using hW⟩, ?_⟩
    rintro y wy ⟨i, rfl, hi, hW⟩
    refine br_dec (fun hlt => ?_) fun hge => ?_
    · have hil : i < t.ts.length := by omega
      have hl6 := ht.l
      obtain ⟨b, off, ha, hc⟩ := (h.below (hBw hW.fr)).get hil
      have hx := ht.ts _ (List.getElem_mem hil)
      have hlen : (bs ++ tarHd t ++ (t.ts.take i).flatMap tirB).length ≤ 1000200 := by
        have := trsB_len (ts := t.ts.take i) fun x hx => ht.ts x (List.mem_of_mem_take hx)
        rw [List.length_take] at this
        simp only [List.length_append]
        omega
      have h1 := num10 hx.1
      obtain ⟨q1, q1'⟩ := hx.1
      obtain ⟨q2, q2'⟩ := hx.2
      subst ha
      refine ⟨by omega, by omega, t.ts[i].upto, t.ts[i].price, by rw [Int.toNat_natCast]; exact hc, newO_in fun w7 n7 b7 s7 w8 h8 => ?_⟩
      have hW8 := hW.newbox b7 rfl h8
      obtain ⟨K8, hW8', hG8, hx8, hs8⟩ := hW.rebox b7 rfl s7 h8
      have zy := hW.fr.size
      have z8 := h8.2
      have far8 : ∀ x ∈ [wy.heap.size, g], x < w8.heap.size ∧ x ∉ K8 := fun x hx => by
        simp only [List.mem_cons, List.not_mem_nil, or_false] at hx
        rcases hx with rfl | rfl
        · exact ⟨hs8, hx8⟩
        · refine ⟨by omega, fun hm => ?_⟩
          have f := far x (by simp)
          rcases hG8 x hm with q | q
          · exact f.2 q
          · omega
      refine hW8'.uint _ q1 (by omega) (by omega) far8 fun w9 h9 z9 => ⟨rfl, h9.uint _ q2 (by omega) (by rw [List.length_append]; omega) far8 fun w10 h10 z10 => ⟨rfl, ?_⟩⟩
      rw [wr64 (by omega) (by omega)]
      refine ⟨⟨i + 1, by omega, by omega, ?_⟩, by dsimp only; omega⟩
      have := hW8.join h10 hG8
      rw [List.take_add_one, List.getElem?_eq_getElem hil, List.flatMap_append]
      simpa [tirB] using this
    · obtain rfl : i = t.ts.length := by omega
      rw [List.take_length, List.append_assoc] at hW
      exact ⟨rfl, (((WP.start hW0).below B3).join hW (Gr.refl _ _)).out⟩
end Go.Proofs.Ytkggnbabnfhcpaa
end
section
/- A plan is written, whole, by both; the plans of the law; walked. -/
namespace Go.Proofs.Ytkggnbabnfhcpaa
open Go.RowKit
theorem planHd_len {p : Pl} (h : NumOk p.day ∧ NumOk p.frm ∧ NumOk p.til) : (planHd p).length ≤ 30 := by
  have a := num10 h.1
  have b := num10 h.2.1
  have c := num10 h.2.2
  simp only [planHd, List.length_append]
  omega
theorem planB_len {p : Pl} (h : planE p = 0) : (planB p).length ≤ 400 := by
  obtain ⟨h1, h2, h3, h4, h5, h6⟩ := plan_io h
  have a := planHd_len ⟨h1, h2, h3⟩
  have b := tarB_len h4
  simp only [planB, List.length_append]
  split
  · rename_i hd
    have c := tarB_len (h5 hd)
    omega
  · simp only [List.length_nil]; omega
def WrE (p : Pl) (w : World) (v : Value) (w' : World) : Prop :=
  (planE p = 0 → ∃ a c, v = .tuple #[.slice a (planB p).length c, .int .i64 0] ∧ Own w' w.heap.size 5 1 (.slice a (planB p).length c) (planB p).length ((planB p).map bV)) ∧ (planE p ≠ 0 → v = .tuple #[.slice none 0 0, .int .i64 (planE p)])
set_option maxRecDepth 10000 in
theorem write_new (p : Pl) (a a2 : Option Addr) (c c2 : Nat) (w : World) (h : PlAt w p a a2) (hd : -9223372036854775808 ≤ p.day ∧ p.day ≤ 9223372036854775807) :
    Calls Try.prog 56 #[planV p a c a2 c2] w fun e w' => (∃ v, e = .returned v ∧ WrE p w v w') ∧ Below w.heap.size w w' := by
  refine (GTarB.write_calls p.day p.frm p.til p.base.grp p.base.mode p.base.block a p.base.ts.length c p.other.grp p.other.mode p.other.block a2 p.other.ts.length c2 w (fun u w' => WrE p w u w' ∧ Below w.heap.size w w') ?_).mono (by rintro e w' ⟨v, rfl, h, h2⟩; exact ⟨⟨v, rfl, h⟩, h2⟩)
  unfold GTarB.write_vc
  refine newB (Bs.refl w) fun g w2 g0 sg n2 z2 b2 B2 => callB B2 (cplan_ret p a a2 c c2 w2 (h.to B2) hd.1 hd.2) fun w3 b3 B3 => ⟨_, rfl, br_dec (fun h1 => ⟨⟨fun k => absurd k h1, fun _ => rfl⟩, B3⟩) fun h1 => ?_⟩
  have hp := Decidable.not_not.1 h1
  obtain ⟨i1, i2, i3, i4, i5, i6⟩ := plan_io hp
  have b3s := b3.size
  refine newB B3 fun gw w4 g0' sg' n4 z4 b4 B4 => ?_
  have hW4 : WP w4 [gw] w4 gw [] false := WP.make n4 rfl
  have far : ∀ x ∈ [g], x < w4.heap.size ∧ x ∉ [gw] := fun x hx => by
    rw [List.mem_singleton] at hx; subst hx
    exact ⟨by omega, by rw [List.mem_singleton]; omega⟩
  have l1 := num10 i1
  have l2 := num10 i2
  have l3 := num10 i3
  have l4 := tarB_len i4
  obtain ⟨q1, q1'⟩ := i1
  obtain ⟨q2, q2'⟩ := i2
  obtain ⟨q3, q3'⟩ := i3
  have hFrom : ∀ {K : List Nat}, Gr [gw] K w4.heap.size → From w.heap.size K := fun hG k hk => by
    have := B3.size
    rcases hG k hk with q | q
    · rw [List.mem_singleton] at q; omega
    · omega
  have fin : ∀ (bs : List UInt8) (wy : World), WP w4 [gw] wy gw bs false → bs = planB p → Calls Try.prog 57 #[.pointer (some ⟨gw, 0, none⟩)] wy fun e w10 => KeepG [g] wy w10 ∧ ∃ (a37_0 : Option Addr) (n37_0 : Nat) (c37_0 : Nat) (x37_1 : Int), e = .returned (.tuple #[.slice a37_0 n37_0 c37_0, .int .i64 x37_1]) ∧ (WrE p w (.tuple #[.slice a37_0 n37_0 c37_0, .int .i64 x37_1]) w10 ∧ Below w.heap.size w w10) := by
    rintro bs wy hW rfl
    have hBy : Bs w wy := hW.old B4 (hFrom (Gr.refl _ _))
    obtain ⟨⟨K, hK, hG⟩, _, _⟩ := hW
    refine (wBytes_any gw (planB p) false K wy hK (by have := planB_len hp; omega)).mono ?_
    rintro e w10 ⟨v, rfl, ho, hb⟩
    obtain ⟨a', c', rfl⟩ := ho.isSlice
    exact ⟨keepG_below hb, _, _, _, _, rfl, ⟨⟨fun _ => ⟨a', c', rfl, ho.base_le fun k hk => Nat.le_trans hBy.size (ho.lt k hk).1⟩, fun k => absurd hp k⟩, hBy.to hb⟩⟩
  refine hW4.uint p.day q1 (by omega) (by simp) far fun w5 W5 z5 => ⟨rfl, W5.uint p.frm q2 (by omega) (by simp; omega) far fun w6 W6 z6 => ⟨rfl, W6.uint p.til q3 (by omega) (by simp; omega) far fun w7 W7 z7 => ⟨rfl, W7.call (fun K hK hG => put_any (wb := w) p.base a c gw K _ false (W7.old B4 (hFrom (Gr.refl _ _))) h.base i4 hK (hFrom hG) (by simp; omega)) far fun w8 W8 z8 => ⟨rfl, ?_⟩⟩⟩⟩
  refine br_dec (fun hd0 => ?_) fun hd0 => ?_
  · have l5 := tarB_len (i5 hd0)
    refine W8.call (fun K hK hG => put_any (wb := w) p.other a2 c2 gw K _ false (W8.old B4 (hFrom (Gr.refl _ _))) h.other (i5 hd0) hK (hFrom hG) (by simp; omega)) far fun w9 W9 z9 => ⟨rfl, fin _ w9 W9 ?_⟩
    simp [planB, planHd, hd0]
  · refine fin _ w8 W8 ?_
    simp [planB, planHd, hd0]
theorem strOf_sz (xs : List UInt8) : (strOf xs).size = xs.length := by simp [strOf, ByteArray.size]
theorem fu_ret (z : Int) (h : z ≤ 9223372036854775807) (w : World) : Calls Try.prog 58 #[.int .i64 z] w (Ret (.string (strOf (uintB z))) w) := fUint_any z h w
theorem rtariff_ret (t : Tar) (a : Option Addr) (c : Nat) (w : World) (h : TsAt 0 w a t.ts) (ht : TarIo t) : Calls Try.prog 61 #[tarV t a c] w (Ret (.string (strOf (tarB t))) w) := by
  refine ret_in (GTarB.rtariff_calls t.grp t.mode t.block a t.ts.length c w (fun u w' => u = .string (strOf (tarB t)) ∧ Below w.heap.size w w') ?_)
  unfold GTarB.rtariff_vc
  have l1 := num10 ht.g
  have l2 := num10 ht.m
  have l3 := num10 ht.b
  have hl := ht.l
  have l4 := uint_len10 (n := (t.ts.length : Int)) (by omega)
  obtain ⟨q1, q1'⟩ := ht.g
  obtain ⟨q2, q2'⟩ := ht.m
  obtain ⟨q3, q3'⟩ := ht.b
  refine newB (Bs.refl w) fun g w2 g0 sg n2 z2 b2 B2 => drewB B2 fun w3 b3 B3 _ => callB B3 (fu_ret t.grp (by omega) w3) fun w4 b4 B4 => ⟨_, rfl, callB B4 (fu_ret t.mode (by omega) w4) fun w5 b5 B5 => ⟨_, rfl, by rw [strOf_sz, strOf_sz]; omega, callB B5 (fu_ret t.block (by omega) w5) fun w6 b6 B6 => ⟨_, rfl, ?_, callB B6 (fu_ret (t.ts.length : Int) (by omega) w6) fun w7 b7 B7 => ⟨_, rfl, ?_, ?_⟩⟩⟩⟩
  · rw [strOf_app, strOf_sz, strOf_sz, List.length_append]; omega
  · rw [strOf_app, strOf_app, strOf_sz, strOf_sz, List.length_append, List.length_append]; omega
  rw [strOf_app, strOf_app, strOf_app]
  have hhl := tarHd_len ht
  refine ⟨fun s x wx => ∃ i : Nat, x = i ∧ i ≤ t.ts.length ∧ s = strOf (tarHd t ++ (t.ts.take i).flatMap tirB) ∧ Bs w wx, fun _ x _ => t.ts.length - x.toNat, ⟨0, rfl, by omega, by simp [tarHd], B7⟩, ?_⟩
  rintro s x wx ⟨i, rfl, hi, rfl, B⟩
  refine br_dec (fun hlt => drewB B fun w9 b9 B9 _ => ?_) fun hge => ?_
  · have hil : i < t.ts.length := by omega
    obtain ⟨b, off, rfl, hc⟩ := (h.below B9).get hil
    have hx := ht.ts _ (List.getElem_mem hil)
    have x1 := num10 hx.1
    have x2 := num10 hx.2
    have hlen := trsB_len (ts := t.ts.take i) fun x hx => ht.ts x (List.mem_of_mem_take hx)
    rw [List.length_take] at hlen
    have hc1 : w9.cell? ⟨b, off + ((i : Nat) : Int).toNat * 2 + 1, none⟩ = some (.int .i64 t.ts[i].price) := by rw [Int.toNat_natCast, Nat.add_assoc]; exact cellsAt_get hc 1 _ rfl
    refine ⟨by omega, by omega, t.ts[i].upto, by rw [Int.toNat_natCast]; exact cellsAt_get hc 0 _ rfl, by omega, by omega, t.ts[i].price, hc1, callB B9 (fu_ret t.ts[i].upto (by have := hx.1.2; omega) w9) fun w10 b10 B10 => ⟨_, rfl, (cell_keep (b10.block b (block_lt_of_cell hc1)) _).trans hc1, ?_, callB B10 (fu_ret t.ts[i].price (by have := hx.2.2; omega) w10) fun w11 b11 B11 => ⟨_, rfl, ?_, ?_⟩⟩⟩
    · rw [strOf_sz, strOf_sz, List.length_append]; omega
    · rw [strOf_app, strOf_sz, strOf_sz, List.length_append, List.length_append]; omega
    rw [wr64 (by omega) (by omega), strOf_app, strOf_app]
    refine ⟨⟨i + 1, by omega, by omega, ?_, B11⟩, by dsimp only; omega⟩
    rw [List.take_add_one, List.getElem?_eq_getElem hil, List.flatMap_append]
    simp [tirB]
  · obtain rfl : i = t.ts.length := by omega
    exact ⟨by rw [List.take_length]; rfl, B⟩
theorem rwrite_ret (p : Pl) (a a2 : Option Addr) (c c2 : Nat) (w : World) (h : PlAt w p a a2) (hp : planE p = 0) : Calls Try.prog 32 #[planV p a c a2 c2] w (Ret (.string (strOf (planB p))) w) := by
  refine ret_in (GTarB.rwrite_calls p.day p.frm p.til p.base.grp p.base.mode p.base.block a p.base.ts.length c p.other.grp p.other.mode p.other.block a2 p.other.ts.length c2 w (fun u w' => u = .string (strOf (planB p)) ∧ Below w.heap.size w w') ?_)
  unfold GTarB.rwrite_vc
  obtain ⟨i1, i2, i3, i4, i5, i6⟩ := plan_io hp
  have l1 := num10 i1
  have l2 := num10 i2
  have l3 := num10 i3
  have l4 := tarB_len i4
  refine newB (Bs.refl w) fun g w2 g0 sg n2 z2 b2 B2 => drewB B2 fun w3 b3 B3 _ => callB B3 (fu_ret p.day (by have := i1.2; omega) w3) fun w4 b4 B4 => ⟨_, rfl, callB B4 (fu_ret p.frm (by have := i2.2; omega) w4) fun w5 b5 B5 => ⟨_, rfl, by rw [strOf_sz, strOf_sz]; omega, callB B5 (fu_ret p.til (by have := i3.2; omega) w5) fun w6 b6 B6 => ⟨_, rfl, ?_, callB B6 (rtariff_ret p.base a c w6 (h.base.below B6) i4) fun w7 b7 B7 => ⟨_, rfl, ?_, ?_⟩⟩⟩⟩
  · rw [strOf_app, strOf_sz, strOf_sz, List.length_append]; omega
  · rw [strOf_app, strOf_app, strOf_sz, strOf_sz, List.length_append, List.length_append]; omega
  rw [strOf_app, strOf_app, strOf_app]
  refine br_dec (fun hd => ?_) fun hd => ⟨?_, B7⟩
  · have l5 := tarB_len (i5 hd)
    refine callB B7 (rtariff_ret p.other a2 c2 w7 (h.other.below B7) (i5 hd)) fun w8 b8 B8 => ⟨_, rfl, ?_, ?_, B8⟩
    · rw [strOf_sz, strOf_sz, List.length_append, List.length_append, List.length_append]; omega
    · rw [strOf_app]; simp [planB, planHd, hd]
  · simp [planB, planHd, hd]
theorem r9same_ret (t : Tar) (a a2 : Option Addr) (c c2 : Nat) (w : World) (h : TsAt 0 w a t.ts) (h2 : TsAt 0 w a2 t.ts) (hl : t.ts.length ≤ 1000) : Calls Try.prog 71 #[tarV t a c, tarV t a2 c2] w (Ret (.bool true) w) := by
  refine ret_in (GTar.rsame_calls t.grp t.mode t.block a t.ts.length c t.grp t.mode t.block a2 t.ts.length c2 w (fun u w' => u = .bool true ∧ Below w.heap.size w w') ?_)
  unfold GTar.rsame_vc
  refine newB (Bs.refl w) fun g w2 g0 sg n2 z2 b2 B2 => newB B2 fun g' w3 g0' sg' n3 z3 b3 B3 => br_n (by simp) (br_n (by simp) (br_n (by simp) (br_n (by simp) ?_)))
  refine ⟨fun x wx => ∃ i : Nat, x = i ∧ i ≤ t.ts.length ∧ Bs w wx, fun x _ => t.ts.length - x.toNat, ⟨0, rfl, by omega, B3⟩, ?_⟩
  rintro x wx ⟨i, rfl, hi, B⟩
  refine br_dec (fun hlt => drewB B fun w5 b5 B5 _ => ?_) fun hge => ⟨rfl, B⟩
  have hil : i < t.ts.length := by omega
  obtain ⟨b, off, rfl, hc⟩ := (h.below B5).get hil
  obtain ⟨b', off', rfl, hc'⟩ := (h2.below B5).get hil
  refine ⟨by omega, by omega, t.ts[i].upto, t.ts[i].price, by rw [Int.toNat_natCast]; exact hc, by omega, by omega, t.ts[i].upto, t.ts[i].price, by rw [Int.toNat_natCast]; exact hc', br_f (by simp) ?_⟩
  rw [wr64 (by omega) (by omega)]
  exact ⟨⟨i + 1, by omega, by omega, B5⟩, by dsimp only; omega⟩
theorem samep_ret (p : Pl) (a a2 b b2 : Option Addr) (c c2 d d2 : Nat) (w : World) (h : PlAt w p a a2) (h2 : PlAt w p b b2) : Calls Try.prog 44 #[planV p a c a2 c2, planV p b d b2 d2] w (Ret (.bool true) w) := by
  refine ret_in (GTarB.rsamep_calls p.day p.frm p.til p.base.grp p.base.mode p.base.block a p.base.ts.length c p.other.grp p.other.mode p.other.block a2 p.other.ts.length c2 p.day p.frm p.til p.base.grp p.base.mode p.base.block b p.base.ts.length d p.other.grp p.other.mode p.other.block b2 p.other.ts.length d2 w (fun u w' => u = .bool true ∧ Below w.heap.size w w') ?_)
  unfold GTarB.rsamep_vc
  exact newB (Bs.refl w) fun g w2 g0 sg n2 z2 b2 B2 => newB B2 fun g' w3 g0' sg' n3 z3 b3 B3 => br_y rfl (br_y rfl (br_y rfl (callB B3 (r9same_ret p.base a b c d w3 (h.base.below B3) (h2.base.below B3) h.lb) fun w4 b4 B4 => ⟨_, rfl, br_t rfl (callB B4 (r9same_ret p.other _ _ _ _ w4 (h.other.below B4) (h2.other.below B4) h.lo) fun w5 b5 B5 => ⟨_, rfl, rfl, B5⟩)⟩)))
def plainT (x : Int) : Tar := ⟨1, 1, 1, [⟨0, x⟩]⟩
def plan9 : Pl := ⟨24, 20, 6, plainT 1, plainT 2⟩
theorem plan9_facts : planE plan9 = 0 ∧ isOther plan9 23 ∧ ¬ isOther plan9 30 ∧ dearT (atT plan9 23).ts = 2 ∧ dearT (atT plan9 30).ts = 1 ∧ (atT plan9 23).ts.length = 1 ∧ (atT plan9 30).ts.length = 1 := by decide +kernel
end Go.Proofs.Ytkggnbabnfhcpaa
end
section
/- A request is written; walked. -/
namespace Go.Proofs.Ytkggnbabnfhcpaa
open Go.RowKit
def itC (x : It) : List Value := [.int .i64 x.g, .int .i64 x.u, .int .i64 x.w]
theorem itC_len (x : It) : (itC x).length = 3 := rfl
theorem itC_one (x : It) : ∀ v ∈ itC x, v.oneCell' = true := by
  intro v hv
  simp only [itC, List.mem_cons, List.not_mem_nil, or_false] at hv
  rcases hv with rfl | rfl | rfl <;> rfl
abbrev ItsAt (n0 : Nat) (w : World) (a : Option Addr) (xs : List It) : Prop := Rws itC 3 n0 w a xs
/-- Where a request's rows lie. -/
structure RqA where
  ia : Option Addr
  ic : Nat
  pa : Option Addr
  pc : Nat
  qa : Option Addr
  qc : Nat
  ca : Option Addr
  cc : Nat
def rqCells (q : Rq) (a : RqA) : Array Value := #[.int .i64 q.k, .int .i64 (q.ns 1), .int .i64 (q.ns 2), .int .i64 (q.ns 3), .int .i64 (q.ns 4), .int .i64 (q.ns 5), .int .i64 (q.ns 6), .int .i64 (q.ns 7), .int .i64 (q.ns 8), .int .i64 (q.ns 9), .int .i64 (q.ns 10), .int .i64 (q.ns 11), .slice a.ia q.items.length a.ic,
  .int .i64 q.plan.day, .int .i64 q.plan.frm, .int .i64 q.plan.til, .int .i64 q.plan.base.grp, .int .i64 q.plan.base.mode, .int .i64 q.plan.base.block, .slice a.pa q.plan.base.ts.length a.pc, .int .i64 q.plan.other.grp, .int .i64 q.plan.other.mode, .int .i64 q.plan.other.block, .slice a.qa q.plan.other.ts.length a.qc, .slice a.ca q.carry.length a.cc]
def rqV (q : Rq) (a : RqA) : Value := .agg (rqCells q a)
structure RqIn (w : World) (q : Rq) (a : RqA) : Prop where
  items : ItsAt 0 w a.ia q.items
  plan : PlAt w q.plan a.pa a.qa
  carry : RowAt w a.ca (q.carry.map iV)
  il : q.items.length ≤ 100
  cl : q.carry.length ≤ 100
  day : -9223372036854775808 ≤ q.plan.day ∧ q.plan.day ≤ 9223372036854775807
theorem Bk.cells {w : World} {b : Nat} {cs : Array Value} {t : TypeId} (h : Bk w b cs t) (off : Nat) {vs : List Value} (e : (cs.toList.drop off).take vs.length = vs) : cellsAt w b off vs := cellsAt_of fun j v hj => by
  rw [h.cell]
  have hlt : j < vs.length := (List.getElem?_eq_some_iff.1 hj).1
  rw [← e, List.getElem?_take, if_pos hlt, List.getElem?_drop, Array.getElem?_toList] at hj
  exact hj
theorem ptr_leaf {w : World} {x : Nat} {ks os : List Nat} (e : ks = os) {w0 : World} (b1 : Below w0.heap.size w0 w) :
    newO w (.cells (os.map fun o => Value.pointer (some ⟨x, o, none⟩)).toArray 112) fun g w3 => ∃ a c, Value.slice (some ⟨g, 0, none⟩) os.length os.length = .slice a ks.length c ∧ Ptrs w3 a x ks ∧ (∀ q, a = some q → w0.heap.size ≤ q.block) ∧ Below w0.heap.size w0 w3 := by
  subst e
  exact newB b1 fun g w3 g0 sg n3 z3 b3 B3 => ⟨_, _, rfl, .inr ⟨g, rfl, n3⟩, (fun q hq => by injection hq with hq; subst hq; exact g0), B3⟩
theorem numr_any {w : World} {x : Nat} {k : Int} (h : w.cell? ⟨x, 0, none⟩ = some (.int .i64 k)) : Calls Try.prog 24 #[.pointer (some ⟨x, 0, none⟩)] w fun e w' => ∃ a c, e = .returned (.slice a (numsO k).length c) ∧ Ptrs w' a x (numsO k) ∧ (∀ q, a = some q → w.heap.size ≤ q.block) ∧ Below w.heap.size w w' := by
  refine (GWi.inumr_calls (some ⟨x, 0, none⟩) w (fun v w' => ∃ a c, v = .slice a (numsO k).length c ∧ Ptrs w' a x (numsO k) ∧ (∀ q, a = some q → w.heap.size ≤ q.block) ∧ Below w.heap.size w w') ?_).mono (by rintro e w' ⟨v, rfl, a, c, rfl, h⟩; exact ⟨a, c, rfl, h⟩)
  unfold GWi.inumr_vc
  have dr : ∀ {K : World → Prop}, (∀ w2, Below w.heap.size w w2 → K w2) → drewO w K := fun hk => drewB (Bs.refl w) fun w2 b2 _ _ => hk w2 b2
  refine withP_mk x 0 rfl ⟨k, h, ?_⟩
  refine br_dec (fun e => ?_) fun n1 => br_dec (fun e => ?_) fun n2 => br_dec (fun e => ?_) fun n3 => br_dec (fun e => ?_) fun n4 => br_dec (fun e => ?_) fun n5 => br_dec (fun e => ?_) fun n6 => br_dec (fun e => ?_) fun n7 => br_dec (fun e => ?_) fun n8 => br_dec (fun e => ?_) fun n13 => br_dec (fun e => ?_) fun n9 => br_dec (fun e => ?_) fun n10 => br_dec (fun e => ?_) fun n14 => ?_
  · subst e; exact dr fun w2 b2 => ptr_leaf (os := [1, 3]) rfl b2
  · subst e; exact dr fun w2 b2 => ptr_leaf (os := [1, 2]) rfl b2
  · subst e; exact dr fun w2 b2 => ptr_leaf (os := [1, 2]) rfl b2
  · subst e; exact dr fun w2 b2 => ptr_leaf (os := [2, 3, 4, 5]) rfl b2
  · subst e; exact dr fun w2 b2 => ptr_leaf (os := [2, 6]) rfl b2
  · subst e; exact dr fun w2 b2 => ptr_leaf (os := [3, 7, 8]) rfl b2
  · subst e; exact dr fun w2 b2 => ptr_leaf (os := [3, 7]) rfl b2
  · subst e; exact ptr_leaf (os := [3]) rfl (Below.refl _ _)
  · subst e; exact ptr_leaf (os := [3]) rfl (Below.refl _ _)
  · subst e; exact ptr_leaf (os := [3]) rfl (Below.refl _ _)
  · subst e; exact dr fun w2 b2 => ptr_leaf (os := [3, 10]) rfl b2
  · subst e; exact dr fun w2 b2 => ptr_leaf (os := [3, 11]) rfl b2
  · have e : numsO k = [] := by
      unfold numsO
      rw [if_neg n1, if_neg (by omega), if_neg n4, if_neg n5, if_neg n6, if_neg n7, if_neg (by omega), if_neg n10, if_neg n14]
    rw [e]
    exact ⟨none, 0, rfl, .inl rfl, (fun q hq => by cases hq), Below.refl _ _⟩
theorem numi_any {w : World} {x : Nat} {k : Int} : Calls Try.prog 54 #[.pointer (some ⟨x, 0, none⟩), .int .i64 k] w fun e w' => ∃ a c, e = .returned (.slice a (itO k).length c) ∧ Ptrs w' a x (itO k) ∧ (∀ q, a = some q → w.heap.size ≤ q.block) ∧ Below w.heap.size w w' := by
  refine (GWi.inumi_calls (some ⟨x, 0, none⟩) k w (fun v w' => ∃ a c, v = .slice a (itO k).length c ∧ Ptrs w' a x (itO k) ∧ (∀ q, a = some q → w.heap.size ≤ q.block) ∧ Below w.heap.size w w') ?_).mono (by rintro e w' ⟨v, rfl, a, c, rfl, h⟩; exact ⟨a, c, rfl, h⟩)
  unfold GWi.inumi_vc
  have dr : ∀ {K : World → Prop}, (∀ w2, Below w.heap.size w w2 → K w2) → drewO w K := fun hk => drewB (Bs.refl w) fun w2 b2 _ _ => hk w2 b2
  refine br_dec (fun e => ?_) fun n1 => br_dec (fun e => ?_) fun n2 => ?_
  · subst e; exact dr fun w2 b2 => ptr_leaf (os := [0, 2]) rfl b2
  · subst e; exact dr fun w2 b2 => ptr_leaf (os := [0, 1, 2]) rfl b2
  · exact dr fun w2 b2 => ptr_leaf (os := [0, 1]) (by unfold itO; rw [if_neg n1, if_neg n2]) b2
def itF (x : It) (o : Nat) : Int := if o = 0 then x.g else if o = 1 then x.u else x.w
theorem itO_cells (k : Int) (x : It) : ∀ o ∈ itO k, (itC x).toArray[o]? = some (.int .i64 (itF x o)) := fun o ho => by
  have : o = 0 ∨ o = 1 ∨ o = 2 := by
    unfold itO at ho
    repeat' split at ho
    all_goals simp at ho; omega
  rcases this with rfl | rfl | rfl <;> rfl
theorem itO_enc (k : Int) (x : It) : (itO k).flatMap (fun o => uintB (itF x o)) = (pIt k).enc x := by
  unfold itO pIt
  by_cases h1 : k = 1
  · rw [if_pos h1, if_pos h1]; simp [itF, pI1]
  · rw [if_neg h1, if_neg h1]
    by_cases h2 : k = 2
    · rw [if_pos h2, if_pos h2]; simp [itF, pI2]
    · rw [if_neg h2, if_neg h2]; simp [itF, pI3]
theorem itO_ok (k : Int) (x : It) : (∀ o ∈ itO k, inFar (itF x o)) ↔ (pIt k).ok (itOnly k x) := by
  unfold itO pIt itOnly
  by_cases h1 : k = 1
  · rw [if_pos h1, if_pos h1, if_pos h1]; simp [itF, pI1]
  · rw [if_neg h1, if_neg h1, if_neg h1]
    by_cases h2 : k = 2
    · rw [if_pos h2, if_pos h2, if_pos h2]; simp [itF, pI2]
    · rw [if_neg h2, if_neg h2, if_neg h2]; simp [itF, pI3]
theorem itO_len (k : Int) : (itO k).length ≤ 3 := by
  unfold itO
  repeat' split
  all_goals simp
section
variable {pr : Nat → Prop} {g x L : Nat} {w0 w : World} {bs : List UInt8} {P : Prop} {q : Rq} {a : RqA}
theorem rest_items (h : XS w pr g bs P L) (hb : Bk w x (rqCells q a) 39) (hx : RqIn w0 q a) (B : Bs w0 w) (hp : ∀ k, k < w0.heap.size → pr k) (hl : L ≤ 10000) {K : Value → World → Prop}
    (k : ∀ w', XS w' pr g (bs ++ (pItems q.k).enc q.items) (P ∧ (pItems q.k).ok (q.items.map (itOnly q.k))) (L + 4000) → XFr pr w w' → K (.tuple #[]) w') : GWi.irest_k1 K (some ⟨g, 0, none⟩) (some ⟨x, 0, none⟩) w := by
  unfold GWi.irest_k1
  have hil := hx.il
  refine withP_mk x 0 rfl ⟨a.ia, _, a.ic, by rw [hb.cell]; rfl, (xlist_any h q.items.length 4 (by omega) (by omega)).mono ?_⟩
  rintro e w3 ⟨rfl, h3, f3⟩
  have hb3 := hb.xfr f3 (by decide) (by decide)
  have B3 := f3.old0 B hp
  refine ⟨keepG_nil _ _, rfl, withP_mk x 0 rfl ⟨a.ia, _, a.ic, by rw [hb3.cell]; rfl, ?_⟩⟩
  refine ⟨fun y wx => ∃ i : Nat, y = i ∧ i ≤ q.items.length ∧ XS wx pr g (bs ++ (uintB q.items.length ++ (q.items.take i).flatMap (pIt q.k).enc)) (P ∧ (q.items.length : Int) ≤ 4 ∧ ∀ z ∈ q.items.take i, (pIt q.k).ok (itOnly q.k z)) (L + 10 + 30 * i) ∧ XFr pr w wx, fun y _ => (q.items.length - y).toNat,
    ⟨0, rfl, Nat.zero_le _, h3.to (by simp) (by simp) (by omega), f3⟩, ?_⟩
  rintro y wx ⟨i, rfl, hi, hX, hF⟩
  refine br_dec (fun h1 => ?_) fun h1 => by
    have e : i = q.items.length := by omega
    subst e
    rw [List.take_length] at hX
    refine k wx (hX.to rfl ?_ (by omega)) hF
    show _ ↔ P ∧ ((q.items.map (itOnly q.k)).length : Int) ≤ 4 ∧ ∀ z ∈ q.items.map (itOnly q.k), (pIt q.k).ok z
    rw [List.length_map]
    simp
  have hi2 : i < q.items.length := by omega
  have Bx := hF.old0 B hp
  have hbx := hb.xfr hF (by decide) (by decide)
  obtain ⟨b, off, ha, hc⟩ := (hx.items.below Bx).get hi2
  have hi1 : IntKind.i64.wrap ((i : Int) + 1) = ((i + 1 : Nat) : Int) := by rw [wr64 (by omega) (by omega)]; omega
  refine withP_mk b off ha ⟨by omega, by omega, _, _, _, by rw [Int.toNat_natCast]; exact hc, newB Bx fun g2 w5 g20 sg5 n5 z5 b5 B5 => ?_⟩
  refine stB B5 g20 (show Bk w5 g2 _ _ from n5) rfl (fun q hq => by cases hq) fun w6 n6 f6 B6 z6 => ?_
  have hX6 := (hX.below b5).other (show Bk w5 g2 _ _ from n5) (by decide) (by decide) f6
  have hx6 : XFr pr wx w6 := ⟨f6.os.trans b5.os, f6.tape.trans b5.tape, f6.output.trans b5.output, Nat.le_trans b5.size f6.size, fun k h1 h2 => (f6.block k (by have := b5.size; omega) (by rw [List.mem_singleton]; omega)).trans (b5.block k h1), fun k cs t f h1 _ _ => (f6.block k (by have := b5.size; have := heap_lt h1; omega) (by rw [List.mem_singleton]; have := heap_lt h1; omega)).trans (b5.block k (heap_lt h1))⟩
  have hb6 := hbx.xfr hx6 (by decide) (by decide)
  refine withP_mk x 0 rfl ⟨q.k, by rw [hb6.cell]; rfl, (numi_any (x := g2) (k := q.k)).mono ?_⟩
  rintro e w7 ⟨a7, c7, rfl, p7, _, b7⟩
  refine ⟨keepG_nil _ _, a7, _, c7, rfl, (xputs_any (f := itF q.items[i]) (hX6.below b7) p7 (Bk.below n6 b7) (by decide) (by decide) (itO_cells q.k q.items[i]) (by omega) (by have := itO_len q.k; omega)).mono ?_⟩
  rintro e w8 ⟨rfl, h8, f8⟩
  rw [hi1]
  have hlo := itO_len q.k
  rw [itO_enc] at h8
  have et : q.items.take (i + 1) = q.items.take i ++ [q.items[i]] := by rw [List.take_add_one, List.getElem?_eq_getElem hi2]; rfl
  refine ⟨keepG_nil _ _, rfl, ⟨i + 1, rfl, hi2, h8.to (by rw [et]; simp only [List.flatMap_append, List.flatMap_cons, List.flatMap_nil, List.append_nil, List.append_assoc]) ?_ (by omega), hF.trans (hx6.trans ((XFr.ofBelow b7).trans f8))⟩, by dsimp only; omega⟩
  rw [itO_ok, et]
  constructor
  · rintro ⟨⟨q1, q2, q3⟩, q4⟩
    exact ⟨q1, q2, fun z hz => by
      rcases List.mem_append.1 hz with hz | hz
      · exact q3 z hz
      · rw [List.mem_singleton.1 hz]; exact q4⟩
  · rintro ⟨q1, q2, q3⟩
    exact ⟨⟨q1, q2, fun z hz => q3 z (List.mem_append_left _ hz)⟩, q3 q.items[i] (List.mem_append_right _ List.mem_cons_self)⟩
end
end Go.Proofs.Ytkggnbabnfhcpaa
end
