import Derived.Test.YtkggnbabnfhcpaaProg
import Derived.Test.YtkggnbabnfhcpaaMWire32
import Derived.Test.YtkggnbabnfhcpaaMWire31
import Derived.Test.YtkggnbabnfhcpaaRows
import Derived.Deep.DeepCutAuto
import Derived.Deep.CutBlock
import Derived.OwnWalk
import Derived.ProofKit
import Derived.Deep.Matrix
import Derived.Deep.Slices
import Derived.OpenShut
set_option linter.unusedVariables false
section
/- Conditions of functions, printed by a program of this claim's own (vcgen.py) out of the loaded code; each is proved to be enough. -/
set_option maxRecDepth 100000
namespace Go.Proofs.Ytkggnbabnfhcpaa
open Go.RowKit
namespace GWi
def env : Env := ⟨[(3, ⟨.int .i64, 1, .int .i64 0, 8, [.int .i64]⟩), (4, ⟨.bool, 1, .bool false, 1, [.bool]⟩), (5, ⟨.int .u8, 1, .int .u8 0, 1, [.int .u8]⟩), (23, ⟨.slice 142, 1, .slice none 0 0, 24, [.slice]⟩), (25, ⟨.struct [(0, 3), (1, 3), (2, 3), (3, 23)], 4, .agg #[.int .i64 0, .int .i64 0, .int .i64 0, .slice none 0 0], 48, [.int .i64, .int .i64, .int .i64, .slice]⟩), (28, ⟨.slice 3, 1, .slice none 0 0, 24, [.slice]⟩), (32, ⟨.slice 5, 1, .slice none 0 0, 24, [.slice]⟩), (33, ⟨.int .i64, 1, .int .i64 0, 8, [.int .i64]⟩), (36, ⟨.slice 83, 1, .slice none 0 0, 24, [.slice]⟩), (37, ⟨.struct [(0, 3), (1, 3), (2, 3), (3, 25), (7, 25)], 11, .agg #[.int .i64 0, .int .i64 0, .int .i64 0, .int .i64 0, .int .i64 0, .int .i64 0, .slice none 0 0, .int .i64 0, .int .i64 0, .int .i64 0, .slice none 0 0], 120, [.int .i64, .int .i64, .int .i64, .int .i64, .int .i64, .int .i64, .slice, .int .i64, .int .i64, .int .i64, .slice]⟩), (39, ⟨.struct [(0, 3), (1, 3), (2, 3), (3, 3), (4, 3), (5, 3), (6, 3), (7, 3), (8, 3), (9, 3), (10, 3), (11, 3), (12, 36), (13, 37), (24, 28)], 25, .agg #[.int .i64 0, .int .i64 0, .int .i64 0, .int .i64 0, .int .i64 0, .int .i64 0, .int .i64 0, .int .i64 0, .int .i64 0, .int .i64 0, .int .i64 0, .int .i64 0, .slice none 0 0, .int .i64 0, .int .i64 0, .int .i64 0, .int .i64 0, .int .i64 0, .int .i64 0, .slice none 0 0, .int .i64 0, .int .i64 0, .int .i64 0, .slice none 0 0, .slice none 0 0], 264, [.int .i64, .int .i64, .int .i64, .int .i64, .int .i64, .int .i64, .int .i64, .int .i64, .int .i64, .int .i64, .int .i64, .int .i64, .slice, .int .i64, .int .i64, .int .i64, .int .i64, .int .i64, .int .i64, .slice, .int .i64, .int .i64, .int .i64, .slice, .slice]⟩), (58, ⟨.slice 111, 1, .slice none 0 0, 24, [.slice]⟩), (60, ⟨.struct [(0, 3), (1, 3), (2, 3), (3, 3), (4, 3)], 5, .agg #[.int .i64 0, .int .i64 0, .int .i64 0, .int .i64 0, .int .i64 0], 40, [.int .i64, .int .i64, .int .i64, .int .i64, .int .i64]⟩), (62, ⟨.struct [(0, 3), (1, 33), (2, 58), (3, 3), (4, 3), (5, 3), (6, 3), (7, 60), (12, 32)], 13, .agg #[.int .i64 0, .int .i64 0, .slice none 0 0, .int .i64 0, .int .i64 0, .int .i64 0, .int .i64 0, .int .i64 0, .int .i64 0, .int .i64 0, .int .i64 0, .int .i64 0, .slice none 0 0], 136, [.int .i64, .int .i64, .slice, .int .i64, .int .i64, .int .i64, .int .i64, .int .i64, .int .i64, .int .i64, .int .i64, .int .i64, .slice]⟩), (67, ⟨.int .u64, 1, .int .u64 0, 8, [.int .u64]⟩), (71, ⟨.struct [(0, 32), (1, 4)], 2, .agg #[.slice none 0 0, .bool false], 32, [.slice, .bool]⟩), (73, ⟨.struct [(0, 71), (2, 4)], 3, .agg #[.slice none 0 0, .bool false, .bool false], 40, [.slice, .bool, .bool]⟩), (76, ⟨.slice 112, 1, .slice none 0 0, 24, [.slice]⟩), (83, ⟨.struct [(0, 3), (1, 3), (2, 3)], 3, .agg #[.int .i64 0, .int .i64 0, .int .i64 0], 24, [.int .i64, .int .i64, .int .i64]⟩), (93, ⟨.ptr, 1, .pointer none, 8, [.ptr]⟩), (96, ⟨.struct [(0, 93), (1, 4)], 2, .agg #[.pointer none, .bool false], 16, [.ptr, .bool]⟩), (111, ⟨.struct [(0, 3), (1, 3), (2, 3), (3, 4)], 4, .agg #[.int .i64 0, .int .i64 0, .int .i64 0, .bool false], 32, [.int .i64, .int .i64, .int .i64, .bool]⟩), (112, ⟨.ptr, 1, .pointer none, 8, [.ptr]⟩), (118, ⟨.ptr, 1, .pointer none, 8, [.ptr]⟩)], [(22, []), (23, []), (24, [.lf (.slice)]), (25, []), (26, [.lf (.slice), .lf (.int .i64)]), (33, [.lf (.ptr)]), (34, [.lf (.int .i64)]), (35, []), (36, []), (37, [.lf (.bool)]), (45, [.lf (.bool)]), (46, []), (47, []), (48, [.lf (.slice)]), (49, []), (51, [.lf (.bool)]), (52, [.lf (.slice)]), (53, []), (54, [.lf (.slice)]), (55, []), (56, [.lf (.slice), .lf (.int .i64)]), (57, [.lf (.slice), .lf (.int .i64)]), (62, [.lf (.slice)]), (65, [.lf (.int .i64)]), (66, [.agg [.int .i64, .int .i64, .int .i64, .int .i64, .int .i64, .int .i64, .slice, .int .i64, .int .i64, .int .i64, .slice], .lf (.int .i64)]), (67, [.lf (.int .i64)])], []⟩
theorem ty3 : TyOk Try.prog 3 ⟨.int .i64, 1, .int .i64 0, 8, [.int .i64]⟩ := tyok (by kernel_rfl) (by kernel_rfl)
theorem ty4 : TyOk Try.prog 4 ⟨.bool, 1, .bool false, 1, [.bool]⟩ := tyok (by kernel_rfl) (by kernel_rfl)
theorem ty5 : TyOk Try.prog 5 ⟨.int .u8, 1, .int .u8 0, 1, [.int .u8]⟩ := tyok (by kernel_rfl) (by kernel_rfl)
theorem ty23 : TyOk Try.prog 23 ⟨.slice 142, 1, .slice none 0 0, 24, [.slice]⟩ := tyok (by kernel_rfl) (by kernel_rfl)
theorem ty25 : TyOk Try.prog 25 ⟨.struct [(0, 3), (1, 3), (2, 3), (3, 23)], 4, .agg #[.int .i64 0, .int .i64 0, .int .i64 0, .slice none 0 0], 48, [.int .i64, .int .i64, .int .i64, .slice]⟩ := tyok (by kernel_rfl) (by kernel_rfl)
theorem ty28 : TyOk Try.prog 28 ⟨.slice 3, 1, .slice none 0 0, 24, [.slice]⟩ := tyok (by kernel_rfl) (by kernel_rfl)
theorem ty32 : TyOk Try.prog 32 ⟨.slice 5, 1, .slice none 0 0, 24, [.slice]⟩ := tyok (by kernel_rfl) (by kernel_rfl)
theorem ty33 : TyOk Try.prog 33 ⟨.int .i64, 1, .int .i64 0, 8, [.int .i64]⟩ := tyok (by kernel_rfl) (by kernel_rfl)
theorem ty36 : TyOk Try.prog 36 ⟨.slice 83, 1, .slice none 0 0, 24, [.slice]⟩ := tyok (by kernel_rfl) (by kernel_rfl)
theorem ty37 : TyOk Try.prog 37 ⟨.struct [(0, 3), (1, 3), (2, 3), (3, 25), (7, 25)], 11, .agg #[.int .i64 0, .int .i64 0, .int .i64 0, .int .i64 0, .int .i64 0, .int .i64 0, .slice none 0 0, .int .i64 0, .int .i64 0, .int .i64 0, .slice none 0 0], 120, [.int .i64, .int .i64, .int .i64, .int .i64, .int .i64, .int .i64, .slice, .int .i64, .int .i64, .int .i64, .slice]⟩ := tyok (by kernel_rfl) (by kernel_rfl)
theorem ty39 : TyOk Try.prog 39 ⟨.struct [(0, 3), (1, 3), (2, 3), (3, 3), (4, 3), (5, 3), (6, 3), (7, 3), (8, 3), (9, 3), (10, 3), (11, 3), (12, 36), (13, 37), (24, 28)], 25, .agg #[.int .i64 0, .int .i64 0, .int .i64 0, .int .i64 0, .int .i64 0, .int .i64 0, .int .i64 0, .int .i64 0, .int .i64 0, .int .i64 0, .int .i64 0, .int .i64 0, .slice none 0 0, .int .i64 0, .int .i64 0, .int .i64 0, .int .i64 0, .int .i64 0, .int .i64 0, .slice none 0 0, .int .i64 0, .int .i64 0, .int .i64 0, .slice none 0 0, .slice none 0 0], 264, [.int .i64, .int .i64, .int .i64, .int .i64, .int .i64, .int .i64, .int .i64, .int .i64, .int .i64, .int .i64, .int .i64, .int .i64, .slice, .int .i64, .int .i64, .int .i64, .int .i64, .int .i64, .int .i64, .slice, .int .i64, .int .i64, .int .i64, .slice, .slice]⟩ := tyok (by kernel_rfl) (by kernel_rfl)
theorem ty58 : TyOk Try.prog 58 ⟨.slice 111, 1, .slice none 0 0, 24, [.slice]⟩ := tyok (by kernel_rfl) (by kernel_rfl)
theorem ty60 : TyOk Try.prog 60 ⟨.struct [(0, 3), (1, 3), (2, 3), (3, 3), (4, 3)], 5, .agg #[.int .i64 0, .int .i64 0, .int .i64 0, .int .i64 0, .int .i64 0], 40, [.int .i64, .int .i64, .int .i64, .int .i64, .int .i64]⟩ := tyok (by kernel_rfl) (by kernel_rfl)
theorem ty62 : TyOk Try.prog 62 ⟨.struct [(0, 3), (1, 33), (2, 58), (3, 3), (4, 3), (5, 3), (6, 3), (7, 60), (12, 32)], 13, .agg #[.int .i64 0, .int .i64 0, .slice none 0 0, .int .i64 0, .int .i64 0, .int .i64 0, .int .i64 0, .int .i64 0, .int .i64 0, .int .i64 0, .int .i64 0, .int .i64 0, .slice none 0 0], 136, [.int .i64, .int .i64, .slice, .int .i64, .int .i64, .int .i64, .int .i64, .int .i64, .int .i64, .int .i64, .int .i64, .int .i64, .slice]⟩ := tyok (by kernel_rfl) (by kernel_rfl)
theorem ty67 : TyOk Try.prog 67 ⟨.int .u64, 1, .int .u64 0, 8, [.int .u64]⟩ := tyok (by kernel_rfl) (by kernel_rfl)
theorem ty71 : TyOk Try.prog 71 ⟨.struct [(0, 32), (1, 4)], 2, .agg #[.slice none 0 0, .bool false], 32, [.slice, .bool]⟩ := tyok (by kernel_rfl) (by kernel_rfl)
theorem ty73 : TyOk Try.prog 73 ⟨.struct [(0, 71), (2, 4)], 3, .agg #[.slice none 0 0, .bool false, .bool false], 40, [.slice, .bool, .bool]⟩ := tyok (by kernel_rfl) (by kernel_rfl)
theorem ty76 : TyOk Try.prog 76 ⟨.slice 112, 1, .slice none 0 0, 24, [.slice]⟩ := tyok (by kernel_rfl) (by kernel_rfl)
theorem ty83 : TyOk Try.prog 83 ⟨.struct [(0, 3), (1, 3), (2, 3)], 3, .agg #[.int .i64 0, .int .i64 0, .int .i64 0], 24, [.int .i64, .int .i64, .int .i64]⟩ := tyok (by kernel_rfl) (by kernel_rfl)
theorem ty93 : TyOk Try.prog 93 ⟨.ptr, 1, .pointer none, 8, [.ptr]⟩ := tyok (by kernel_rfl) (by kernel_rfl)
theorem ty96 : TyOk Try.prog 96 ⟨.struct [(0, 93), (1, 4)], 2, .agg #[.pointer none, .bool false], 16, [.ptr, .bool]⟩ := tyok (by kernel_rfl) (by kernel_rfl)
theorem ty111 : TyOk Try.prog 111 ⟨.struct [(0, 3), (1, 3), (2, 3), (3, 4)], 4, .agg #[.int .i64 0, .int .i64 0, .int .i64 0, .bool false], 32, [.int .i64, .int .i64, .int .i64, .bool]⟩ := tyok (by kernel_rfl) (by kernel_rfl)
theorem ty112 : TyOk Try.prog 112 ⟨.ptr, 1, .pointer none, 8, [.ptr]⟩ := tyok (by kernel_rfl) (by kernel_rfl)
theorem ty118 : TyOk Try.prog 118 ⟨.ptr, 1, .pointer none, 8, [.ptr]⟩ := tyok (by kernel_rfl) (by kernel_rfl)
theorem fn22 : FnOk Try.prog 22 := fnok Try.func22 (by kernel_rfl) (by kernel_rfl)
theorem fn23 : FnOk Try.prog 23 := fnok Try.func23 (by kernel_rfl) (by kernel_rfl)
theorem fn24 : FnOk Try.prog 24 := fnok Try.func24 (by kernel_rfl) (by kernel_rfl)
theorem fn25 : FnOk Try.prog 25 := fnok Try.func25 (by kernel_rfl) (by kernel_rfl)
theorem fn26 : FnOk Try.prog 26 := fnok Try.func26 (by kernel_rfl) (by kernel_rfl)
theorem fn33 : FnOk Try.prog 33 := fnok Try.func33 (by kernel_rfl) (by kernel_rfl)
theorem fn34 : FnOk Try.prog 34 := fnok Try.func34 (by kernel_rfl) (by kernel_rfl)
theorem fn35 : FnOk Try.prog 35 := fnok Try.func35 (by kernel_rfl) (by kernel_rfl)
theorem fn36 : FnOk Try.prog 36 := fnok Try.func36 (by kernel_rfl) (by kernel_rfl)
theorem fn37 : FnOk Try.prog 37 := fnok Try.func37 (by kernel_rfl) (by kernel_rfl)
theorem fn45 : FnOk Try.prog 45 := fnok Try.func45 (by kernel_rfl) (by kernel_rfl)
theorem fn46 : FnOk Try.prog 46 := fnok Try.func46 (by kernel_rfl) (by kernel_rfl)
theorem fn47 : FnOk Try.prog 47 := fnok Try.func47 (by kernel_rfl) (by kernel_rfl)
theorem fn48 : FnOk Try.prog 48 := fnok Try.func48 (by kernel_rfl) (by kernel_rfl)
theorem fn49 : FnOk Try.prog 49 := fnok Try.func49 (by kernel_rfl) (by kernel_rfl)
theorem fn51 : FnOk Try.prog 51 := fnok Try.func51 (by kernel_rfl) (by kernel_rfl)
theorem fn52 : FnOk Try.prog 52 := fnok Try.func52 (by kernel_rfl) (by kernel_rfl)
theorem fn53 : FnOk Try.prog 53 := fnok Try.func53 (by kernel_rfl) (by kernel_rfl)
theorem fn54 : FnOk Try.prog 54 := fnok Try.func54 (by kernel_rfl) (by kernel_rfl)
theorem fn55 : FnOk Try.prog 55 := fnok Try.func55 (by kernel_rfl) (by kernel_rfl)
theorem fn56 : FnOk Try.prog 56 := fnok Try.func56 (by kernel_rfl) (by kernel_rfl)
theorem fn57 : FnOk Try.prog 57 := fnok Try.func57 (by kernel_rfl) (by kernel_rfl)
theorem fn62 : FnOk Try.prog 62 := fnok Try.func62 (by kernel_rfl) (by kernel_rfl)
theorem fn65 : FnOk Try.prog 65 := fnok Try.func65 (by kernel_rfl) (by kernel_rfl)
theorem fn66 : FnOk Try.prog 66 := fnok Try.func66 (by kernel_rfl) (by kernel_rfl)
theorem fn67 : FnOk Try.prog 67 := fnok Try.func67 (by kernel_rfl) (by kernel_rfl)
theorem envOk : EOk Try.prog env := ⟨(by simp only [env, List.forall_mem_cons, List.not_mem_nil, false_implies, implies_true, and_true]; exact ⟨ty3, ty4, ty5, ty23, ty25, ty28, ty32, ty33, ty36, ty37, ty39, ty58, ty60, ty62, ty67, ty71, ty73, ty76, ty83, ty93, ty96, ty111, ty112, ty118⟩), (by simp only [env, List.forall_mem_cons, List.not_mem_nil, false_implies, implies_true, and_true]; exact ⟨fn22, fn23, fn24, fn25, fn26, fn33, fn34, fn35, fn36, fn37, fn45, fn46, fn47, fn48, fn49, fn51, fn52, fn53, fn54, fn55, fn56, fn57, fn62, fn65, fn66, fn67⟩), by kernel_rfl, (fun _ h => by cases h)⟩
/-- (*purser/codec.Writer).put -/
def cput_vc (p0 : Option Addr) (x1 : Int) (w : World) (K : Value → World → Prop) : Prop :=
  ∃ (I : Int → World → Prop) (μ : Int → World → Nat),
  I x1 w ∧
  ∀ (x1_2 : Int) (w_2 : World), I x1_2 w_2 →
  br (decide (x1_2 ≥ 128)) (
    withP p0 fun g8 o8 =>
    ∃ (a10 : Option Addr) (n10 : Nat) (c10 : Nat), w_2.cell? ⟨g8, o8, none⟩ = some (.slice a10 n10 c10) ∧
    newO w_2 (.cells #[.int .u8 (bitsV .or .u8 (IntKind.u8.wrap x1_2) 128)] 5) fun g w_3 =>
    appO Try.prog [] w_3 5 1 1 32 a10 n10 c10 (.slice (some ⟨g, 0, none⟩) 1 1) fun m15 a15 c15 w_4 =>
    withP p0 fun g16 o16 =>
    stO [] w_4 g16 o16 [.slice a15 (n10 + m15) c15] fun w_5 =>
    (0 : Int) ≤ 7 ∧
    I (Int.fdiv x1_2 (2 ^ (min (7 : Int).toNat (IntKind.bits .u64)))) w_5 ∧ μ (Int.fdiv x1_2 (2 ^ (min (7 : Int).toNat (IntKind.bits .u64)))) w_5 < μ x1_2 w_2
  ) (
    withP p0 fun g22 o22 =>
    ∃ (a24 : Option Addr) (n24 : Nat) (c24 : Nat), w_2.cell? ⟨g22, o22, none⟩ = some (.slice a24 n24 c24) ∧
    newO w_2 (.cells #[.int .u8 (IntKind.u8.wrap x1_2)] 5) fun g_2 w_6 =>
    appO Try.prog [] w_6 5 1 1 32 a24 n24 c24 (.slice (some ⟨g_2, 0, none⟩) 1 1) fun m28 a28 c28 w_7 =>
    withP p0 fun g29 o29 =>
    stO [] w_7 g29 o29 [.slice a28 (n24 + m28) c28] fun w_8 =>
    K (.tuple #[]) w_8
  )
def cput_notes : Notes := ⟨[], [(0, ⟨[(1, .lf (.int .u64))], [], [4, 5, 6, 7, 8, 9, 10, 11, 12, 13, 14, 15, 16, 17, 18, 19, 1], []⟩)], [], []⟩
set_option maxHeartbeats 4000000 in
theorem cput_calls (p0 : Option Addr) (x1 : Int) (w : World) (K : Value → World → Prop) (h : cput_vc p0 x1 w K) : Calls Try.prog 53 #[.pointer p0, .int .u64 x1] w fun e w' => ∃ v, e = .returned v ∧ K v w' :=
  calls_of_eq envOk Try.func53 cput_notes [] [.pointer p0, .int .u64 x1] w K h (by as_aux_lemma => kernel_rfl)
/-- (*purser/codec.Writer).Uint -/
def cuint_vc (p0 : Option Addr) (x1 : Int) (w : World) (K : Value → World → Prop) : Prop :=
  br (Option.isNone p0) (
    K (.tuple #[]) w
  ) (
    br (decide (x1 < 0)) (
      withP p0 fun g15 o15 =>
      stO [] w g15 (o15 + 1) [.bool true] fun w_2 =>
      K (.tuple #[]) w_2
    ) (
      Calls Try.prog 53 #[.pointer p0, .int .u64 (IntKind.u64.wrap x1)] w fun e w_3 => KeepG [] w w_3 ∧
      e = .returned (.tuple #[]) ∧
      K (.tuple #[]) w_3
    )
  )
def cuint_notes : Notes := ⟨[], [], [], []⟩
set_option maxHeartbeats 4000000 in
theorem cuint_calls (p0 : Option Addr) (x1 : Int) (w : World) (K : Value → World → Prop) (h : cuint_vc p0 x1 w K) : Calls Try.prog 22 #[.pointer p0, .int .i64 x1] w fun e w' => ∃ v, e = .returned v ∧ K v w' :=
  calls_of_eq envOk Try.func22 cuint_notes [] [.pointer p0, .int .i64 x1] w K h (by as_aux_lemma => kernel_rfl)
/-- (*purser/codec.Writer).Int -/
def cint_vc (p0 : Option Addr) (x1 : Int) (w : World) (K : Value → World → Prop) : Prop :=
  br (!(Option.isNone p0)) (
    (0 : Int) ≤ 1 ∧
    (0 : Int) ≤ 63 ∧
    Calls Try.prog 53 #[.pointer p0, .int .u64 (bitsV .xor .u64 (IntKind.u64.wrap ((IntKind.u64.wrap x1) * 2 ^ (min (1 : Int).toNat (IntKind.bits .u64)))) (IntKind.u64.wrap (Int.fdiv x1 (2 ^ (min (63 : Int).toNat (IntKind.bits .i64))))))] w fun e w_2 => KeepG [] w w_2 ∧
    e = .returned (.tuple #[]) ∧
    K (.tuple #[]) w_2
  ) (
    K (.tuple #[]) w
  )
def cint_notes : Notes := ⟨[], [], [], []⟩
set_option maxHeartbeats 4000000 in
theorem cint_calls (p0 : Option Addr) (x1 : Int) (w : World) (K : Value → World → Prop) (h : cint_vc p0 x1 w K) : Calls Try.prog 55 #[.pointer p0, .int .i64 x1] w fun e w' => ∃ v, e = .returned v ∧ K v w' :=
  calls_of_eq envOk Try.func55 cint_notes [] [.pointer p0, .int .i64 x1] w K h (by as_aux_lemma => kernel_rfl)
/-- (*purser/codec.Writer).Flag -/
def cflag_vc (p0 : Option Addr) (b1 : Bool) (w : World) (K : Value → World → Prop) : Prop :=
  br (Option.isNone p0) (
    K (.tuple #[]) w
  ) (
    br b1 (
      withP p0 fun g20 o20 =>
      ∃ (a22 : Option Addr) (n22 : Nat) (c22 : Nat), w.cell? ⟨g20, o20, none⟩ = some (.slice a22 n22 c22) ∧
      newO w (.cells #[.int .u8 1] 5) fun g w_2 =>
      appO Try.prog [] w_2 5 1 1 32 a22 n22 c22 (.slice (some ⟨g, 0, none⟩) 1 1) fun m24 a24 c24 w_3 =>
      withP p0 fun g25 o25 =>
      stO [] w_3 g25 o25 [.slice a24 (n22 + m24) c24] fun w_4 =>
      K (.tuple #[]) w_4
    ) (
      withP p0 fun g6 o6 =>
      ∃ (a8 : Option Addr) (n8 : Nat) (c8 : Nat), w.cell? ⟨g6, o6, none⟩ = some (.slice a8 n8 c8) ∧
      newO w (.cells #[.int .u8 0] 5) fun g_2 w_5 =>
      appO Try.prog [] w_5 5 1 1 32 a8 n8 c8 (.slice (some ⟨g_2, 0, none⟩) 1 1) fun m10 a10 c10 w_6 =>
      withP p0 fun g11 o11 =>
      stO [] w_6 g11 o11 [.slice a10 (n8 + m10) c10] fun w_7 =>
      K (.tuple #[]) w_7
    )
  )
def cflag_notes : Notes := ⟨[], [], [], []⟩
set_option maxHeartbeats 4000000 in
theorem cflag_calls (p0 : Option Addr) (b1 : Bool) (w : World) (K : Value → World → Prop) (h : cflag_vc p0 b1 w K) : Calls Try.prog 47 #[.pointer p0, .bool b1] w fun e w' => ∃ v, e = .returned v ∧ K v w' :=
  calls_of_eq envOk Try.func47 cflag_notes [] [.pointer p0, .bool b1] w K h (by as_aux_lemma => kernel_rfl)
/-- (*purser/codec.Writer).Text -/
def ctext_vc (p0 : Option Addr) (a1 : Option Addr) (n1 : Nat) (c1 : Nat) (w : World) (K : Value → World → Prop) : Prop :=
  br (!(Option.isNone p0)) (
    Calls Try.prog 53 #[.pointer p0, .int .u64 (IntKind.u64.wrap ((n1 : Nat) : Int))] w fun e w_2 => KeepG [] w w_2 ∧
    e = .returned (.tuple #[]) ∧
    withP p0 fun g13 o13 =>
    ∃ (a15 : Option Addr) (n15 : Nat) (c15 : Nat), w_2.cell? ⟨g13, o13, none⟩ = some (.slice a15 n15 c15) ∧
    appO Try.prog [] w_2 5 1 1 32 a15 n15 c15 (.slice a1 n1 c1) fun m17 a17 c17 w_3 =>
    withP p0 fun g18 o18 =>
    stO [] w_3 g18 o18 [.slice a17 (n15 + m17) c17] fun w_4 =>
    K (.tuple #[]) w_4
  ) (
    K (.tuple #[]) w
  )
def ctext_notes : Notes := ⟨[], [], [], []⟩
set_option maxHeartbeats 4000000 in
theorem ctext_calls (p0 : Option Addr) (a1 : Option Addr) (n1 : Nat) (c1 : Nat) (w : World) (K : Value → World → Prop) (h : ctext_vc p0 a1 n1 c1 w K) : Calls Try.prog 49 #[.pointer p0, .slice a1 n1 c1] w fun e w' => ∃ v, e = .returned v ∧ K v w' :=
  calls_of_eq envOk Try.func49 ctext_notes [] [.pointer p0, .slice a1 n1 c1] w K h (by as_aux_lemma => kernel_rfl)
/-- (*purser/codec.Writer).Bytes -/
def cbytes_vc (p0 : Option Addr) (w : World) (K : Value → World → Prop) : Prop :=
  br (Option.isNone p0) (
    K (.tuple #[.slice none 0 0, .int .i64 1]) w
  ) (
    withP p0 fun g9 o9 =>
    ∃ (b11 : Bool), w.cell? ⟨g9, o9 + 1, none⟩ = some (.bool b11) ∧
    br b11 (
      withP p0 fun g13 o13 =>
      ∃ (a15 : Option Addr) (n15 : Nat) (c15 : Nat), w.cell? ⟨g13, o13, none⟩ = some (.slice a15 n15 c15) ∧
      Calls Try.prog 62 #[.slice a15 n15 c15] w fun e w_2 => KeepG [] w w_2 ∧
      ∃ (a16 : Option Addr) (n16 : Nat) (c16 : Nat),
      e = .returned (.slice a16 n16 c16) ∧
      K (.tuple #[.slice a16 n16 c16, .int .i64 1]) w_2
    ) (
      withP p0 fun g18 o18 =>
      ∃ (a20 : Option Addr) (n20 : Nat) (c20 : Nat), w.cell? ⟨g18, o18, none⟩ = some (.slice a20 n20 c20) ∧
      Calls Try.prog 62 #[.slice a20 n20 c20] w fun e_2 w_3 => KeepG [] w w_3 ∧
      ∃ (a21 : Option Addr) (n21 : Nat) (c21 : Nat),
      e_2 = .returned (.slice a21 n21 c21) ∧
      K (.tuple #[.slice a21 n21 c21, .int .i64 0]) w_3
    )
  )
def cbytes_notes : Notes := ⟨[], [], [], []⟩
set_option maxHeartbeats 4000000 in
theorem cbytes_calls (p0 : Option Addr) (w : World) (K : Value → World → Prop) (h : cbytes_vc p0 w K) : Calls Try.prog 57 #[.pointer p0] w fun e w' => ∃ v, e = .returned v ∧ K v w' :=
  calls_of_eq envOk Try.func57 cbytes_notes [] [.pointer p0] w K h (by as_aux_lemma => kernel_rfl)
/-- (*purser/wire.writer).put -/
def iput_vc (p0 : Option Addr) (a1 : Option Addr) (n1 : Nat) (c1 : Nat) (w : World) (K : Value → World → Prop) : Prop :=
  ∃ (I : Int → World → Prop) (μ : Int → World → Nat),
  I 0 w ∧
  ∀ (x8 : Int) (w_2 : World), I x8 w_2 →
  br (decide (x8 < ((n1 : Nat) : Int))) (
    withP a1 fun g10 o10 =>
    (0 : Int) ≤ x8 ∧ x8 < (((n1 : Nat) : Int) : Int) ∧
    ∃ (p11 : Option Addr), w_2.cell? ⟨g10, o10 + x8.toNat * 1, none⟩ = some (.pointer p11) ∧
    withP p0 fun g14 o14 =>
    ∃ (b16 : Bool), w_2.cell? ⟨g14, o14 + 2, none⟩ = some (.bool b16) ∧
    br b16 (
      withP p0 fun g23 o23 =>
      stO [] w_2 g23 (o23 + 2) [.bool true] fun w_3 =>
      drewO w_3 fun w_4 =>
      withP p0 fun g26 o26 =>
      withP p11 fun g29 o29 =>
      ∃ (x30 : Int), w_4.cell? ⟨g29, o29, none⟩ = some (.int .i64 x30) ∧
      Calls Try.prog 22 #[.pointer (some ⟨g26, o26, none⟩), .int .i64 x30] w_4 fun e w_5 => KeepG [] w_4 w_5 ∧
      e = .returned (.tuple #[]) ∧
      I (IntKind.i64.wrap (x8 + 1)) w_5 ∧ μ (IntKind.i64.wrap (x8 + 1)) w_5 < μ x8 w_2
    ) (
      withP p11 fun g19 o19 =>
      ∃ (x20 : Int), w_2.cell? ⟨g19, o19, none⟩ = some (.int .i64 x20) ∧
      withP p0 fun g23_2 o23_2 =>
      stO [] w_2 g23_2 (o23_2 + 2) [.bool (decide (x20 > 4611686018427387904))] fun w_7 =>
      drewO w_7 fun w_8 =>
      withP p0 fun g26_2 o26_2 =>
      withP p11 fun g29_2 o29_2 =>
      ∃ (x30_2 : Int), w_8.cell? ⟨g29_2, o29_2, none⟩ = some (.int .i64 x30_2) ∧
      Calls Try.prog 22 #[.pointer (some ⟨g26_2, o26_2, none⟩), .int .i64 x30_2] w_8 fun e_2 w_9 => KeepG [] w_8 w_9 ∧
      e_2 = .returned (.tuple #[]) ∧
      I (IntKind.i64.wrap (x8 + 1)) w_9 ∧ μ (IntKind.i64.wrap (x8 + 1)) w_9 < μ x8 w_2
    )
  ) (
    K (.tuple #[]) w_2
  )
def iput_notes : Notes := ⟨[(4, ⟨[0, 1, 3, 0, 8, 24, 63], [6], [0, 1, 2, 3, 4, 5]⟩)], [(1, ⟨[(8, .lf (.int .i64))], [], [9, 10, 11, 5, 12, 13, 14, 15, 16, 17, 18, 19, 20, 21, 22, 23, 24, 25, 26, 27, 28, 29, 30, 31, 32, 8], []⟩)], [], []⟩
set_option maxHeartbeats 4000000 in
theorem iput_calls (p0 : Option Addr) (a1 : Option Addr) (n1 : Nat) (c1 : Nat) (w : World) (K : Value → World → Prop) (h : iput_vc p0 a1 n1 c1 w K) : Calls Try.prog 23 #[.pointer p0, .slice a1 n1 c1] w fun e w' => ∃ v, e = .returned v ∧ K v w' :=
  calls_of_eq envOk Try.func23 iput_notes [] [.pointer p0, .slice a1 n1 c1] w K h (by as_aux_lemma => kernel_rfl)
/-- (*purser/wire.writer).list -/
def ilist_vc (p0 : Option Addr) (x1 : Int) (x2 : Int) (w : World) (K : Value → World → Prop) : Prop :=
  withP p0 fun g8 o8 =>
  ∃ (b10 : Bool), w.cell? ⟨g8, o8 + 2, none⟩ = some (.bool b10) ∧
  br b10 (
    withP p0 fun g16 o16 =>
    stO [] w g16 (o16 + 2) [.bool true] fun w_2 =>
    withP p0 fun g19 o19 =>
    Calls Try.prog 22 #[.pointer (some ⟨g19, o19, none⟩), .int .i64 x1] w_2 fun e w_3 => KeepG [] w_2 w_3 ∧
    e = .returned (.tuple #[]) ∧
    K (.tuple #[]) w_3
  ) (
    withP p0 fun g16_2 o16_2 =>
    stO [] w g16_2 (o16_2 + 2) [.bool (decide (x1 > x2))] fun w_4 =>
    withP p0 fun g19_2 o19_2 =>
    Calls Try.prog 22 #[.pointer (some ⟨g19_2, o19_2, none⟩), .int .i64 x1] w_4 fun e_2 w_5 => KeepG [] w_4 w_5 ∧
    e_2 = .returned (.tuple #[]) ∧
    K (.tuple #[]) w_5
  )
def ilist_notes : Notes := ⟨[], [], [], []⟩
set_option maxHeartbeats 4000000 in
theorem ilist_calls (p0 : Option Addr) (x1 : Int) (x2 : Int) (w : World) (K : Value → World → Prop) (h : ilist_vc p0 x1 x2 w K) : Calls Try.prog 46 #[.pointer p0, .int .i64 x1, .int .i64 x2] w fun e w' => ∃ v, e = .returned v ∧ K v w' :=
  calls_of_eq envOk Try.func46 ilist_notes [] [.pointer p0, .int .i64 x1, .int .i64 x2] w K h (by as_aux_lemma => kernel_rfl)
/-- (*purser/wire.writer).done -/
def idone_vc (p0 : Option Addr) (w : World) (K : Value → World → Prop) : Prop :=
  withP p0 fun g8 o8 =>
  Calls Try.prog 57 #[.pointer (some ⟨g8, o8, none⟩)] w fun e w_2 => KeepG [] w w_2 ∧
  ∃ (a10_0 : Option Addr) (n10_0 : Nat) (c10_0 : Nat) (x10_1 : Int),
  e = .returned (.tuple #[.slice a10_0 n10_0 c10_0, .int .i64 x10_1]) ∧
  withP p0 fun g14 o14 =>
  ∃ (b16 : Bool), w_2.cell? ⟨g14, o14 + 2, none⟩ = some (.bool b16) ∧
  br b16 (
    K (.tuple #[.slice none 0 0, .int .i64 2]) w_2
  ) (
    br (decide (x10_1 ≠ 0)) (
      K (.tuple #[.slice none 0 0, .int .i64 2]) w_2
    ) (
      K (.tuple #[.slice a10_0 n10_0 c10_0, .int .i64 0]) w_2
    )
  )
def idone_notes : Notes := ⟨[], [], [], []⟩
set_option maxHeartbeats 4000000 in
theorem idone_calls (p0 : Option Addr) (w : World) (K : Value → World → Prop) (h : idone_vc p0 w K) : Calls Try.prog 26 #[.pointer p0] w fun e w' => ∃ v, e = .returned v ∧ K v w' :=
  calls_of_eq envOk Try.func26 idone_notes [] [.pointer p0] w K h (by as_aux_lemma => kernel_rfl)
/-- (*purser/wire.writer).rest -/
def irest_k1 (K : Value → World → Prop) (p0 : Option Addr) (p1 : Option Addr) (w_2 : World) : Prop :=
  withP p1 fun g20 o20 =>
  ∃ (a22 : Option Addr) (n22 : Nat) (c22 : Nat), w_2.cell? ⟨g20, o20 + 12, none⟩ = some (.slice a22 n22 c22) ∧
  Calls Try.prog 46 #[.pointer p0, .int .i64 ((n22 : Nat) : Int), .int .i64 4] w_2 fun e w_3 => KeepG [] w_2 w_3 ∧
  e = .returned (.tuple #[]) ∧
  withP p1 fun g26 o26 =>
  ∃ (a28 : Option Addr) (n28 : Nat) (c28 : Nat), w_3.cell? ⟨g26, o26 + 12, none⟩ = some (.slice a28 n28 c28) ∧
  ∃ (I : Int → World → Prop) (μ : Int → World → Nat),
  I 0 w_3 ∧
  ∀ (x30 : Int) (w_4 : World), I x30 w_4 →
  br (decide (x30 < ((n28 : Nat) : Int))) (
    withP a28 fun g32 o32 =>
    (0 : Int) ≤ x30 ∧ x30 < (((n28 : Nat) : Int) : Int) ∧
    ∃ (x33_0 : Int) (x33_1 : Int) (x33_2 : Int),
    cellsAt w_4 g32 (o32 + x30.toNat * 3) [.int .i64 x33_0, .int .i64 x33_1, .int .i64 x33_2] ∧
    newO w_4 (.cells #[.int .i64 0, .int .i64 0, .int .i64 0] 83) fun g w_5 =>
    stO [] w_5 g 0 [.int .i64 x33_0, .int .i64 x33_1, .int .i64 x33_2] fun w_6 =>
    withP p1 fun g36 o36 =>
    ∃ (x38 : Int), w_6.cell? ⟨g36, o36, none⟩ = some (.int .i64 x38) ∧
    Calls Try.prog 54 #[.pointer (some ⟨g, 0, none⟩), .int .i64 x38] w_6 fun e_2 w_7 => KeepG [] w_6 w_7 ∧
    ∃ (a39 : Option Addr) (n39 : Nat) (c39 : Nat),
    e_2 = .returned (.slice a39 n39 c39) ∧
    Calls Try.prog 23 #[.pointer p0, .slice a39 n39 c39] w_7 fun e_3 w_8 => KeepG [] w_7 w_8 ∧
    e_3 = .returned (.tuple #[]) ∧
    I (IntKind.i64.wrap (x30 + 1)) w_8 ∧ μ (IntKind.i64.wrap (x30 + 1)) w_8 < μ x30 w_4
  ) (
    K (.tuple #[]) w_4
  )
def irest_vc (p0 : Option Addr) (p1 : Option Addr) (w : World) (K : Value → World → Prop) : Prop :=
  withP p1 fun g11 o11 =>
  ∃ (x13 : Int), w.cell? ⟨g11, o11, none⟩ = some (.int .i64 x13) ∧
  br (decide (x13 = 1)) (
    irest_k1 K p0 p1 w
  ) (
    br (decide (x13 = 2)) (
      irest_k1 K p0 p1 w
    ) (
      br (decide (x13 = 3)) (
        withP p1 fun g20_2 o20_2 =>
        ∃ (a22_2 : Option Addr) (n22_2 : Nat) (c22_2 : Nat), w.cell? ⟨g20_2, o20_2 + 12, none⟩ = some (.slice a22_2 n22_2 c22_2) ∧
        Calls Try.prog 46 #[.pointer p0, .int .i64 ((n22_2 : Nat) : Int), .int .i64 4] w fun e_4 w_9 => KeepG [] w w_9 ∧
        e_4 = .returned (.tuple #[]) ∧
        withP p1 fun g26_2 o26_2 =>
        ∃ (a28_2 : Option Addr) (n28_2 : Nat) (c28_2 : Nat), w_9.cell? ⟨g26_2, o26_2 + 12, none⟩ = some (.slice a28_2 n28_2 c28_2) ∧
        ∃ (I_2 : Int → World → Prop) (μ_2 : Int → World → Nat),
        I_2 0 w_9 ∧
        ∀ (x30_2 : Int) (w_10 : World), I_2 x30_2 w_10 →
        br (decide (x30_2 < ((n28_2 : Nat) : Int))) (
          withP a28_2 fun g32_2 o32_2 =>
          (0 : Int) ≤ x30_2 ∧ x30_2 < (((n28_2 : Nat) : Int) : Int) ∧
          ∃ (x33_0_2 : Int) (x33_1_2 : Int) (x33_2_2 : Int),
          cellsAt w_10 g32_2 (o32_2 + x30_2.toNat * 3) [.int .i64 x33_0_2, .int .i64 x33_1_2, .int .i64 x33_2_2] ∧
          newO w_10 (.cells #[.int .i64 0, .int .i64 0, .int .i64 0] 83) fun g_2 w_11 =>
          stO [] w_11 g_2 0 [.int .i64 x33_0_2, .int .i64 x33_1_2, .int .i64 x33_2_2] fun w_12 =>
          withP p1 fun g36_2 o36_2 =>
          ∃ (x38_2 : Int), w_12.cell? ⟨g36_2, o36_2, none⟩ = some (.int .i64 x38_2) ∧
          Calls Try.prog 54 #[.pointer (some ⟨g_2, 0, none⟩), .int .i64 x38_2] w_12 fun e_5 w_13 => KeepG [] w_12 w_13 ∧
          ∃ (a39_2 : Option Addr) (n39_2 : Nat) (c39_2 : Nat),
          e_5 = .returned (.slice a39_2 n39_2 c39_2) ∧
          Calls Try.prog 23 #[.pointer p0, .slice a39_2 n39_2 c39_2] w_13 fun e_6 w_14 => KeepG [] w_13 w_14 ∧
          e_6 = .returned (.tuple #[]) ∧
          I_2 (IntKind.i64.wrap (x30_2 + 1)) w_14 ∧ μ_2 (IntKind.i64.wrap (x30_2 + 1)) w_14 < μ_2 x30_2 w_10
        ) (
          K (.tuple #[]) w_10
        )
      ) (
        br (decide (x13 = 6)) (
          withP p0 fun g47 o47 =>
          ∃ (b49 : Bool), w.cell? ⟨g47, o47 + 2, none⟩ = some (.bool b49) ∧
          br b49 (
            withP p0 fun g64 o64 =>
            stO [] w g64 (o64 + 2) [.bool true] fun w_15 =>
            drewO w_15 fun w_16 =>
            withP p0 fun g67 o67 =>
            withP p1 fun g70 o70 =>
            ∃ (x72 : Int), w_16.cell? ⟨g70, o70 + 9, none⟩ = some (.int .i64 x72) ∧
            Calls Try.prog 55 #[.pointer (some ⟨g67, o67, none⟩), .int .i64 x72] w_16 fun e_7 w_17 => KeepG [] w_16 w_17 ∧
            e_7 = .returned (.tuple #[]) ∧
            K (.tuple #[]) w_17
          ) (
            withP p1 fun g52 o52 =>
            ∃ (x54 : Int), w.cell? ⟨g52, o52 + 9, none⟩ = some (.int .i64 x54) ∧
            br (decide (x54 < (-1))) (
              withP p0 fun g64_2 o64_2 =>
              stO [] w g64_2 (o64_2 + 2) [.bool true] fun w_18 =>
              drewO w_18 fun w_19 =>
              withP p0 fun g67_2 o67_2 =>
              withP p1 fun g70_2 o70_2 =>
              ∃ (x72_2 : Int), w_19.cell? ⟨g70_2, o70_2 + 9, none⟩ = some (.int .i64 x72_2) ∧
              Calls Try.prog 55 #[.pointer (some ⟨g67_2, o67_2, none⟩), .int .i64 x72_2] w_19 fun e_8 w_20 => KeepG [] w_19 w_20 ∧
              e_8 = .returned (.tuple #[]) ∧
              K (.tuple #[]) w_20
            ) (
              withP p1 fun g59 o59 =>
              ∃ (x61 : Int), w.cell? ⟨g59, o59 + 9, none⟩ = some (.int .i64 x61) ∧
              withP p0 fun g64_3 o64_3 =>
              stO [] w g64_3 (o64_3 + 2) [.bool (decide (x61 > 4611686018427387904))] fun w_21 =>
              drewO w_21 fun w_22 =>
              withP p0 fun g67_3 o67_3 =>
              withP p1 fun g70_3 o70_3 =>
              ∃ (x72_3 : Int), w_22.cell? ⟨g70_3, o70_3 + 9, none⟩ = some (.int .i64 x72_3) ∧
              Calls Try.prog 55 #[.pointer (some ⟨g67_3, o67_3, none⟩), .int .i64 x72_3] w_22 fun e_9 w_23 => KeepG [] w_22 w_23 ∧
              e_9 = .returned (.tuple #[]) ∧
              K (.tuple #[]) w_23
            )
          )
        ) (
          br (decide (x13 = 9)) (
            withP p0 fun g47_2 o47_2 =>
            ∃ (b49_2 : Bool), w.cell? ⟨g47_2, o47_2 + 2, none⟩ = some (.bool b49_2) ∧
            br b49_2 (
              withP p0 fun g64_4 o64_4 =>
              stO [] w g64_4 (o64_4 + 2) [.bool true] fun w_24 =>
              drewO w_24 fun w_25 =>
              withP p0 fun g67_4 o67_4 =>
              withP p1 fun g70_4 o70_4 =>
              ∃ (x72_4 : Int), w_25.cell? ⟨g70_4, o70_4 + 9, none⟩ = some (.int .i64 x72_4) ∧
              Calls Try.prog 55 #[.pointer (some ⟨g67_4, o67_4, none⟩), .int .i64 x72_4] w_25 fun e_10 w_26 => KeepG [] w_25 w_26 ∧
              e_10 = .returned (.tuple #[]) ∧
              K (.tuple #[]) w_26
            ) (
              withP p1 fun g52_2 o52_2 =>
              ∃ (x54_2 : Int), w.cell? ⟨g52_2, o52_2 + 9, none⟩ = some (.int .i64 x54_2) ∧
              br (decide (x54_2 < (-1))) (
                withP p0 fun g64_5 o64_5 =>
                stO [] w g64_5 (o64_5 + 2) [.bool true] fun w_27 =>
                drewO w_27 fun w_28 =>
                withP p0 fun g67_5 o67_5 =>
                withP p1 fun g70_5 o70_5 =>
                ∃ (x72_5 : Int), w_28.cell? ⟨g70_5, o70_5 + 9, none⟩ = some (.int .i64 x72_5) ∧
                Calls Try.prog 55 #[.pointer (some ⟨g67_5, o67_5, none⟩), .int .i64 x72_5] w_28 fun e_11 w_29 => KeepG [] w_28 w_29 ∧
                e_11 = .returned (.tuple #[]) ∧
                K (.tuple #[]) w_29
              ) (
                withP p1 fun g59_2 o59_2 =>
                ∃ (x61_2 : Int), w.cell? ⟨g59_2, o59_2 + 9, none⟩ = some (.int .i64 x61_2) ∧
                withP p0 fun g64_6 o64_6 =>
                stO [] w g64_6 (o64_6 + 2) [.bool (decide (x61_2 > 4611686018427387904))] fun w_30 =>
                drewO w_30 fun w_31 =>
                withP p0 fun g67_6 o67_6 =>
                withP p1 fun g70_6 o70_6 =>
                ∃ (x72_6 : Int), w_31.cell? ⟨g70_6, o70_6 + 9, none⟩ = some (.int .i64 x72_6) ∧
                Calls Try.prog 55 #[.pointer (some ⟨g67_6, o67_6, none⟩), .int .i64 x72_6] w_31 fun e_12 w_32 => KeepG [] w_31 w_32 ∧
                e_12 = .returned (.tuple #[]) ∧
                K (.tuple #[]) w_32
              )
            )
          ) (
            br (decide (x13 = 11)) (
              withP p1 fun g78 o78 =>
              ∃ (x80_0 : Int) (x80_1 : Int) (x80_2 : Int) (x80_3 : Int) (x80_4 : Int) (x80_5 : Int) (a80_6 : Option Addr) (n80_6 : Nat) (c80_6 : Nat) (x80_7 : Int) (x80_8 : Int) (x80_9 : Int) (a80_10 : Option Addr) (n80_10 : Nat) (c80_10 : Nat),
              cellsAt w g78 (o78 + 13) [.int .i64 x80_0, .int .i64 x80_1, .int .i64 x80_2, .int .i64 x80_3, .int .i64 x80_4, .int .i64 x80_5, .slice a80_6 n80_6 c80_6, .int .i64 x80_7, .int .i64 x80_8, .int .i64 x80_9, .slice a80_10 n80_10 c80_10] ∧
              Calls Try.prog 56 #[.agg #[.int .i64 x80_0, .int .i64 x80_1, .int .i64 x80_2, .int .i64 x80_3, .int .i64 x80_4, .int .i64 x80_5, .slice a80_6 n80_6 c80_6, .int .i64 x80_7, .int .i64 x80_8, .int .i64 x80_9, .slice a80_10 n80_10 c80_10]] w fun e_13 w_33 => KeepG [] w w_33 ∧
              ∃ (a81_0 : Option Addr) (n81_0 : Nat) (c81_0 : Nat) (x81_1 : Int),
              e_13 = .returned (.tuple #[.slice a81_0 n81_0 c81_0, .int .i64 x81_1]) ∧
              withP p0 fun g86 o86 =>
              ∃ (b88 : Bool), w_33.cell? ⟨g86, o86 + 2, none⟩ = some (.bool b88) ∧
              br b88 (
                withP p0 fun g93 o93 =>
                stO [] w_33 g93 (o93 + 2) [.bool true] fun w_34 =>
                withP p0 fun g96 o96 =>
                Calls Try.prog 49 #[.pointer (some ⟨g96, o96, none⟩), .slice a81_0 n81_0 c81_0] w_34 fun e_14 w_35 => KeepG [] w_34 w_35 ∧
                e_14 = .returned (.tuple #[]) ∧
                K (.tuple #[]) w_35
              ) (
                withP p0 fun g93_2 o93_2 =>
                stO [] w_33 g93_2 (o93_2 + 2) [.bool (decide (x81_1 ≠ 0))] fun w_36 =>
                withP p0 fun g96_2 o96_2 =>
                Calls Try.prog 49 #[.pointer (some ⟨g96_2, o96_2, none⟩), .slice a81_0 n81_0 c81_0] w_36 fun e_15 w_37 => KeepG [] w_36 w_37 ∧
                e_15 = .returned (.tuple #[]) ∧
                K (.tuple #[]) w_37
              )
            ) (
              br (decide (x13 = 12)) (
                withP p1 fun g104 o104 =>
                ∃ (a106 : Option Addr) (n106 : Nat) (c106 : Nat), w.cell? ⟨g104, o104 + 24, none⟩ = some (.slice a106 n106 c106) ∧
                Calls Try.prog 46 #[.pointer p0, .int .i64 ((n106 : Nat) : Int), .int .i64 32] w fun e_16 w_38 => KeepG [] w w_38 ∧
                e_16 = .returned (.tuple #[]) ∧
                withP p1 fun g110 o110 =>
                ∃ (a112 : Option Addr) (n112 : Nat) (c112 : Nat), w_38.cell? ⟨g110, o110 + 24, none⟩ = some (.slice a112 n112 c112) ∧
                ∃ (I_3 : Int → World → Prop) (μ_3 : Int → World → Nat),
                I_3 0 w_38 ∧
                ∀ (x114 : Int) (w_39 : World), I_3 x114 w_39 →
                br (decide (x114 < ((n112 : Nat) : Int))) (
                  withP a112 fun g116 o116 =>
                  (0 : Int) ≤ x114 ∧ x114 < (((n112 : Nat) : Int) : Int) ∧
                  ∃ (x117 : Int), w_39.cell? ⟨g116, o116 + x114.toNat * 1, none⟩ = some (.int .i64 x117) ∧
                  newO w_39 (.cells #[.int .i64 0] 3) fun g_3 w_40 =>
                  stO [] w_40 g_3 0 [.int .i64 x117] fun w_41 =>
                  newO w_41 (.cells #[.pointer (some ⟨g_3, 0, none⟩)] 112) fun g_4 w_42 =>
                  Calls Try.prog 23 #[.pointer p0, .slice (some ⟨g_4, 0, none⟩) 1 1] w_42 fun e_17 w_43 => KeepG [] w_42 w_43 ∧
                  e_17 = .returned (.tuple #[]) ∧
                  I_3 (IntKind.i64.wrap (x114 + 1)) w_43 ∧ μ_3 (IntKind.i64.wrap (x114 + 1)) w_43 < μ_3 x114 w_39
                ) (
                  K (.tuple #[]) w_39
                )
              ) (
                K (.tuple #[]) w
              )
            )
          )
        )
      )
    )
  )
def irest_notes : Notes := ⟨[(13, ⟨[0, 1, 3, 0, 8, 24, 56, 127], [7], [0, 1, 2, 3, 4, 5, 6]⟩)], [(6, ⟨[(30, .lf (.int .i64))], [], [31, 32, 33, 5, 34, 35, 36, 37, 38, 39, 40, 41, 30], []⟩), (21, ⟨[(114, .lf (.int .i64))], [], [115, 116, 117, 9, 118, 119, 120, 121, 114], []⟩)], [], []⟩
set_option maxHeartbeats 4000000 in
theorem irest_calls (p0 : Option Addr) (p1 : Option Addr) (w : World) (K : Value → World → Prop) (h : irest_vc p0 p1 w K) : Calls Try.prog 25 #[.pointer p0, .pointer p1] w fun e w' => ∃ v, e = .returned v ∧ K v w' :=
  calls_of_eq envOk Try.func25 irest_notes [] [.pointer p0, .pointer p1] w K h (by as_aux_lemma => kernel_rfl)
/-- (*purser/wire.Request).numbers -/
def inumr_vc (p0 : Option Addr) (w : World) (K : Value → World → Prop) : Prop :=
  withP p0 fun g4 o4 =>
  ∃ (x6 : Int), w.cell? ⟨g4, o4, none⟩ = some (.int .i64 x6) ∧
  br (decide (x6 = 1)) (
    drewO w fun w_2 =>
    withP p0 fun g10 o10 =>
    withP p0 fun g13 o13 =>
    newO w_2 (.cells #[.pointer (some ⟨g10, o10 + 1, none⟩), .pointer (some ⟨g13, o13 + 3, none⟩)] 112) fun g w_3 =>
    K (.slice (some ⟨g, 0, none⟩) 2 2) w_3
  ) (
    br (decide (x6 = 2)) (
      drewO w fun w_4 =>
      withP p0 fun g20 o20 =>
      withP p0 fun g23 o23 =>
      newO w_4 (.cells #[.pointer (some ⟨g20, o20 + 1, none⟩), .pointer (some ⟨g23, o23 + 2, none⟩)] 112) fun g_2 w_5 =>
      K (.slice (some ⟨g_2, 0, none⟩) 2 2) w_5
    ) (
      br (decide (x6 = 3)) (
        drewO w fun w_6 =>
        withP p0 fun g20_2 o20_2 =>
        withP p0 fun g23_2 o23_2 =>
        newO w_6 (.cells #[.pointer (some ⟨g20_2, o20_2 + 1, none⟩), .pointer (some ⟨g23_2, o23_2 + 2, none⟩)] 112) fun g_3 w_7 =>
        K (.slice (some ⟨g_3, 0, none⟩) 2 2) w_7
      ) (
        br (decide (x6 = 4)) (
          drewO w fun w_8 =>
          withP p0 fun g29 o29 =>
          withP p0 fun g32 o32 =>
          withP p0 fun g35 o35 =>
          withP p0 fun g38 o38 =>
          newO w_8 (.cells #[.pointer (some ⟨g29, o29 + 2, none⟩), .pointer (some ⟨g32, o32 + 3, none⟩), .pointer (some ⟨g35, o35 + 4, none⟩), .pointer (some ⟨g38, o38 + 5, none⟩)] 112) fun g_4 w_9 =>
          K (.slice (some ⟨g_4, 0, none⟩) 4 4) w_9
        ) (
          br (decide (x6 = 5)) (
            drewO w fun w_10 =>
            withP p0 fun g44 o44 =>
            withP p0 fun g47 o47 =>
            newO w_10 (.cells #[.pointer (some ⟨g44, o44 + 2, none⟩), .pointer (some ⟨g47, o47 + 6, none⟩)] 112) fun g_5 w_11 =>
            K (.slice (some ⟨g_5, 0, none⟩) 2 2) w_11
          ) (
            br (decide (x6 = 6)) (
              drewO w fun w_12 =>
              withP p0 fun g53 o53 =>
              withP p0 fun g56 o56 =>
              withP p0 fun g59 o59 =>
              newO w_12 (.cells #[.pointer (some ⟨g53, o53 + 3, none⟩), .pointer (some ⟨g56, o56 + 7, none⟩), .pointer (some ⟨g59, o59 + 8, none⟩)] 112) fun g_6 w_13 =>
              K (.slice (some ⟨g_6, 0, none⟩) 3 3) w_13
            ) (
              br (decide (x6 = 7)) (
                drewO w fun w_14 =>
                withP p0 fun g65 o65 =>
                withP p0 fun g68 o68 =>
                newO w_14 (.cells #[.pointer (some ⟨g65, o65 + 3, none⟩), .pointer (some ⟨g68, o68 + 7, none⟩)] 112) fun g_7 w_15 =>
                K (.slice (some ⟨g_7, 0, none⟩) 2 2) w_15
              ) (
                br (decide (x6 = 8)) (
                  withP p0 fun g76_2 o76_2 =>
                  newO w (.cells #[.pointer (some ⟨g76_2, o76_2 + 3, none⟩)] 112) fun g_9 w_18 =>
                  K (.slice (some ⟨g_9, 0, none⟩) 1 1) w_18
                ) (
                  br (decide (x6 = 13)) (
                    withP p0 fun g76_3 o76_3 =>
                    newO w (.cells #[.pointer (some ⟨g76_3, o76_3 + 3, none⟩)] 112) fun g_10 w_19 =>
                    K (.slice (some ⟨g_10, 0, none⟩) 1 1) w_19
                  ) (
                    br (decide (x6 = 9)) (
                      withP p0 fun g76_4 o76_4 =>
                      newO w (.cells #[.pointer (some ⟨g76_4, o76_4 + 3, none⟩)] 112) fun g_11 w_20 =>
                      K (.slice (some ⟨g_11, 0, none⟩) 1 1) w_20
                    ) (
                      br (decide (x6 = 10)) (
                        drewO w fun w_21 =>
                        withP p0 fun g82 o82 =>
                        withP p0 fun g85 o85 =>
                        newO w_21 (.cells #[.pointer (some ⟨g82, o82 + 3, none⟩), .pointer (some ⟨g85, o85 + 10, none⟩)] 112) fun g_12 w_22 =>
                        K (.slice (some ⟨g_12, 0, none⟩) 2 2) w_22
                      ) (
                        br (decide (x6 = 14)) (
                          drewO w fun w_23 =>
                          withP p0 fun g91 o91 =>
                          withP p0 fun g94 o94 =>
                          newO w_23 (.cells #[.pointer (some ⟨g91, o91 + 3, none⟩), .pointer (some ⟨g94, o94 + 11, none⟩)] 112) fun g_13 w_24 =>
                          K (.slice (some ⟨g_13, 0, none⟩) 2 2) w_24
                        ) (
                          K (.slice none 0 0) w
                        )
                      )
                    )
                  )
                )
              )
            )
          )
        )
      )
    )
  )
def inumr_notes : Notes := ⟨[(3, ⟨[0, 1, 3, 0, 8, 24, 63, 127], [6], [0, 1, 2, 3, 4, 5, 7]⟩), (6, ⟨[0, 1, 3, 0, 8, 24, 63, 127], [6], [0, 1, 2, 3, 4, 5, 7]⟩), (8, ⟨[0, 1, 3, 0, 8, 24, 0, 64, 192, 0, 512, 1536, 4095, 8191], [12], [0, 1, 2, 3, 4, 5, 6, 7, 8, 9, 10, 11, 13]⟩), (10, ⟨[0, 1, 3, 0, 8, 24, 63, 127], [6], [0, 1, 2, 3, 4, 5, 7]⟩), (12, ⟨[0, 1, 3, 0, 8, 24, 0, 64, 192, 511, 1023], [9], [0, 1, 2, 3, 4, 5, 6, 7, 8, 10]⟩), (14, ⟨[0, 1, 3, 0, 8, 24, 63, 127], [6], [0, 1, 2, 3, 4, 5, 7]⟩), (20, ⟨[0, 1, 3, 0, 8, 24, 63, 127], [6], [0, 1, 2, 3, 4, 5, 7]⟩), (22, ⟨[0, 1, 3, 0, 8, 24, 63, 127], [6], [0, 1, 2, 3, 4, 5, 7]⟩)], [], [], []⟩
set_option maxHeartbeats 4000000 in
theorem inumr_calls (p0 : Option Addr) (w : World) (K : Value → World → Prop) (h : inumr_vc p0 w K) : Calls Try.prog 24 #[.pointer p0] w fun e w' => ∃ v, e = .returned v ∧ K v w' :=
  calls_of_eq envOk Try.func24 inumr_notes [] [.pointer p0] w K h (by as_aux_lemma => kernel_rfl)
/-- (*purser/wire.Item).numbers -/
def inumi_vc (p0 : Option Addr) (x1 : Int) (w : World) (K : Value → World → Prop) : Prop :=
  br (decide (x1 = 1)) (
    drewO w fun w_2 =>
    withP p0 fun g9 o9 =>
    withP p0 fun g12 o12 =>
    newO w_2 (.cells #[.pointer (some ⟨g9, o9, none⟩), .pointer (some ⟨g12, o12 + 2, none⟩)] 112) fun g w_3 =>
    K (.slice (some ⟨g, 0, none⟩) 2 2) w_3
  ) (
    br (decide (x1 = 2)) (
      drewO w fun w_4 =>
      withP p0 fun g18 o18 =>
      withP p0 fun g21 o21 =>
      withP p0 fun g24 o24 =>
      newO w_4 (.cells #[.pointer (some ⟨g18, o18, none⟩), .pointer (some ⟨g21, o21 + 1, none⟩), .pointer (some ⟨g24, o24 + 2, none⟩)] 112) fun g_2 w_5 =>
      K (.slice (some ⟨g_2, 0, none⟩) 3 3) w_5
    ) (
      drewO w fun w_6 =>
      withP p0 fun g28 o28 =>
      withP p0 fun g31 o31 =>
      newO w_6 (.cells #[.pointer (some ⟨g28, o28, none⟩), .pointer (some ⟨g31, o31 + 1, none⟩)] 112) fun g_3 w_7 =>
      K (.slice (some ⟨g_3, 0, none⟩) 2 2) w_7
    )
  )
def inumi_notes : Notes := ⟨[(3, ⟨[0, 1, 3, 0, 8, 24, 63, 127], [6], [0, 1, 2, 3, 4, 5, 7]⟩), (5, ⟨[0, 1, 3, 0, 8, 24, 0, 64, 192, 511, 1023], [9], [0, 1, 2, 3, 4, 5, 6, 7, 8, 10]⟩), (6, ⟨[0, 1, 3, 0, 8, 24, 63, 127], [6], [0, 1, 2, 3, 4, 5, 7]⟩)], [], [], []⟩
set_option maxHeartbeats 4000000 in
theorem inumi_calls (p0 : Option Addr) (x1 : Int) (w : World) (K : Value → World → Prop) (h : inumi_vc p0 x1 w K) : Calls Try.prog 54 #[.pointer p0, .int .i64 x1] w fun e w' => ∃ v, e = .returned v ∧ K v w' :=
  calls_of_eq envOk Try.func54 inumi_notes [] [.pointer p0, .int .i64 x1] w K h (by as_aux_lemma => kernel_rfl)
/-- (*purser/wire.Answer).numbers -/
def inuma_vc (p0 : Option Addr) (w : World) (K : Value → World → Prop) : Prop :=
  withP p0 fun g5 o5 =>
  ∃ (x7 : Int), w.cell? ⟨g5, o5, none⟩ = some (.int .i64 x7) ∧
  br (decide (x7 = 1)) (
    drewO w fun w_2 =>
    withP p0 fun g12 o12 =>
    withP p0 fun g15 o15 =>
    newO w_2 (.cells #[.pointer (some ⟨g12, o12 + 3, none⟩), .pointer (some ⟨g15, o15 + 4, none⟩)] 112) fun g w_3 =>
    K (.slice (some ⟨g, 0, none⟩) 2 2) w_3
  ) (
    br (decide (x7 = 2)) (
      drewO w fun w_4 =>
      withP p0 fun g12_2 o12_2 =>
      withP p0 fun g15_2 o15_2 =>
      newO w_4 (.cells #[.pointer (some ⟨g12_2, o12_2 + 3, none⟩), .pointer (some ⟨g15_2, o15_2 + 4, none⟩)] 112) fun g_2 w_5 =>
      K (.slice (some ⟨g_2, 0, none⟩) 2 2) w_5
    ) (
      br (decide (x7 = 3)) (
        withP p0 fun g23_2 o23_2 =>
        newO w (.cells #[.pointer (some ⟨g23_2, o23_2 + 4, none⟩)] 112) fun g_4 w_8 =>
        K (.slice (some ⟨g_4, 0, none⟩) 1 1) w_8
      ) (
        br (decide (x7 = 4)) (
          withP p0 fun g23_3 o23_3 =>
          newO w (.cells #[.pointer (some ⟨g23_3, o23_3 + 4, none⟩)] 112) fun g_5 w_9 =>
          K (.slice (some ⟨g_5, 0, none⟩) 1 1) w_9
        ) (
          br (decide (x7 = 5)) (
            withP p0 fun g23_4 o23_4 =>
            newO w (.cells #[.pointer (some ⟨g23_4, o23_4 + 4, none⟩)] 112) fun g_6 w_10 =>
            K (.slice (some ⟨g_6, 0, none⟩) 1 1) w_10
          ) (
            br (decide (x7 = 12)) (
              withP p0 fun g29 o29 =>
              newO w (.cells #[.pointer (some ⟨g29, o29 + 5, none⟩)] 112) fun g_7 w_11 =>
              K (.slice (some ⟨g_7, 0, none⟩) 1 1) w_11
            ) (
              br (decide (x7 = 13)) (
                withP p0 fun g35 o35 =>
                drewO w fun w_12 =>
                withP p0 fun g53 o53 =>
                newO w_12 (.cells #[.pointer (some ⟨g35, o35 + 7, none⟩), .pointer (some ⟨g35, o35 + 7 + 1, none⟩), .pointer (some ⟨g35, o35 + 7 + 2, none⟩), .pointer (some ⟨g35, o35 + 7 + 3, none⟩), .pointer (some ⟨g35, o35 + 7 + 4, none⟩), .pointer (some ⟨g53, o53 + 6, none⟩)] 112) fun g_8 w_13 =>
                K (.slice (some ⟨g_8, 0, none⟩) 6 6) w_13
              ) (
                K (.slice none 0 0) w
              )
            )
          )
        )
      )
    )
  )
def inuma_notes : Notes := ⟨[(4, ⟨[0, 1, 3, 0, 8, 24, 63, 127], [6], [0, 1, 2, 3, 4, 5, 7]⟩), (13, ⟨[0, 1, 3, 0, 8, 24, 0, 64, 192, 0, 512, 1536, 0, 4096, 12288, 0, 32768, 98304, 262143, 524287], [18], [0, 1, 2, 3, 4, 5, 6, 7, 8, 9, 10, 11, 12, 13, 14, 15, 16, 17, 19]⟩)], [], [], []⟩
set_option maxHeartbeats 4000000 in
theorem inuma_calls (p0 : Option Addr) (w : World) (K : Value → World → Prop) (h : inuma_vc p0 w K) : Calls Try.prog 48 #[.pointer p0] w fun e w' => ∃ v, e = .returned v ∧ K v w' :=
  calls_of_eq envOk Try.func48 inuma_notes [] [.pointer p0] w K h (by as_aux_lemma => kernel_rfl)
/-- purser/wire.grants -/
def igrants_vc (x0 : Int) (w : World) (K : Value → World → Prop) : Prop :=
  br (decide (x0 = 1)) (
    K (.bool true) w
  ) (
    K (.bool (decide (x0 = 2))) w
  )
def igrants_notes : Notes := ⟨[], [], [], []⟩
set_option maxHeartbeats 4000000 in
theorem igrants_calls (x0 : Int) (w : World) (K : Value → World → Prop) (h : igrants_vc x0 w K) : Calls Try.prog 45 #[.int .i64 x0] w fun e w' => ∃ v, e = .returned v ∧ K v w' :=
  calls_of_eq envOk Try.func45 igrants_notes [] [.int .i64 x0] w K h (by as_aux_lemma => kernel_rfl)
/-- purser/wire.Changes -/
def ichanges_vc (x0 : Int) (w : World) (K : Value → World → Prop) : Prop :=
  br (decide (x0 ≥ 1)) (
    K (.bool (decide (x0 ≤ 12))) w
  ) (
    K (.bool false) w
  )
def ichanges_notes : Notes := ⟨[], [], [], []⟩
set_option maxHeartbeats 4000000 in
theorem ichanges_calls (x0 : Int) (w : World) (K : Value → World → Prop) (h : ichanges_vc x0 w K) : Calls Try.prog 12 #[.int .i64 x0] w fun e w' => ∃ v, e = .returned v ∧ K v w' :=
  calls_of_eq envOk Try.func12 ichanges_notes [] [.int .i64 x0] w K h (by as_aux_lemma => kernel_rfl)
/-- purser/wire.Ask -/
def iask_vc (x0_0 : Int) (x0_1 : Int) (x0_2 : Int) (x0_3 : Int) (x0_4 : Int) (x0_5 : Int) (x0_6 : Int) (x0_7 : Int) (x0_8 : Int) (x0_9 : Int) (x0_10 : Int) (x0_11 : Int) (a0_12 : Option Addr) (n0_12 : Nat) (c0_12 : Nat) (x0_13 : Int) (x0_14 : Int) (x0_15 : Int) (x0_16 : Int) (x0_17 : Int) (x0_18 : Int) (a0_19 : Option Addr) (n0_19 : Nat) (c0_19 : Nat) (x0_20 : Int) (x0_21 : Int) (x0_22 : Int) (a0_23 : Option Addr) (n0_23 : Nat) (c0_23 : Nat) (a0_24 : Option Addr) (n0_24 : Nat) (c0_24 : Nat) (w : World) (K : Value → World → Prop) : Prop :=
  newO w (.cells #[.int .i64 x0_0, .int .i64 x0_1, .int .i64 x0_2, .int .i64 x0_3, .int .i64 x0_4, .int .i64 x0_5, .int .i64 x0_6, .int .i64 x0_7, .int .i64 x0_8, .int .i64 x0_9, .int .i64 x0_10, .int .i64 x0_11, .slice a0_12 n0_12 c0_12, .int .i64 x0_13, .int .i64 x0_14, .int .i64 x0_15, .int .i64 x0_16, .int .i64 x0_17, .int .i64 x0_18, .slice a0_19 n0_19 c0_19, .int .i64 x0_20, .int .i64 x0_21, .int .i64 x0_22, .slice a0_23 n0_23 c0_23, .slice a0_24 n0_24 c0_24] 39) fun g w_2 =>
  ∃ (x6 : Int), w_2.cell? ⟨g, 0, none⟩ = some (.int .i64 x6) ∧
  br (decide (x6 < 1)) (
    K (.tuple #[.slice none 0 0, .int .i64 2]) w_2
  ) (
    ∃ (x10 : Int), w_2.cell? ⟨g, 0, none⟩ = some (.int .i64 x10) ∧
    br (decide (x10 > 14)) (
      K (.tuple #[.slice none 0 0, .int .i64 2]) w_2
    ) (
      newO w_2 (.cells #[.slice none 0 0, .bool false, .bool false] 73) fun g_2 w_3 =>
      drewO w_3 fun w_4 =>
      ∃ (x19 : Int), w_4.cell? ⟨g, 0, none⟩ = some (.int .i64 x19) ∧
      Calls Try.prog 22 #[.pointer (some ⟨g_2, 0, none⟩), .int .i64 x19] w_4 fun e w_5 => KeepG [] w_4 w_5 ∧
      e = .returned (.tuple #[]) ∧
      Calls Try.prog 24 #[.pointer (some ⟨g, 0, none⟩)] w_5 fun e_2 w_6 => KeepG [] w_5 w_6 ∧
      ∃ (a22 : Option Addr) (n22 : Nat) (c22 : Nat),
      e_2 = .returned (.slice a22 n22 c22) ∧
      Calls Try.prog 23 #[.pointer (some ⟨g_2, 0, none⟩), .slice a22 n22 c22] w_6 fun e_3 w_7 => KeepG [] w_6 w_7 ∧
      e_3 = .returned (.tuple #[]) ∧
      Calls Try.prog 25 #[.pointer (some ⟨g_2, 0, none⟩), .pointer (some ⟨g, 0, none⟩)] w_7 fun e_4 w_8 => KeepG [] w_7 w_8 ∧
      e_4 = .returned (.tuple #[]) ∧
      Calls Try.prog 26 #[.pointer (some ⟨g_2, 0, none⟩)] w_8 fun e_5 w_9 => KeepG [] w_8 w_9 ∧
      ∃ (a27_0 : Option Addr) (n27_0 : Nat) (c27_0 : Nat) (x27_1 : Int),
      e_5 = .returned (.tuple #[.slice a27_0 n27_0 c27_0, .int .i64 x27_1]) ∧
      K (.tuple #[.slice a27_0 n27_0 c27_0, .int .i64 x27_1]) w_9
    )
  )
def iask_notes : Notes := ⟨[(4, ⟨[0, 1, 3, 0, 8, 31], [5], [0, 1, 2, 3, 4]⟩)], [], [], []⟩
set_option maxHeartbeats 4000000 in
theorem iask_calls (x0_0 : Int) (x0_1 : Int) (x0_2 : Int) (x0_3 : Int) (x0_4 : Int) (x0_5 : Int) (x0_6 : Int) (x0_7 : Int) (x0_8 : Int) (x0_9 : Int) (x0_10 : Int) (x0_11 : Int) (a0_12 : Option Addr) (n0_12 : Nat) (c0_12 : Nat) (x0_13 : Int) (x0_14 : Int) (x0_15 : Int) (x0_16 : Int) (x0_17 : Int) (x0_18 : Int) (a0_19 : Option Addr) (n0_19 : Nat) (c0_19 : Nat) (x0_20 : Int) (x0_21 : Int) (x0_22 : Int) (a0_23 : Option Addr) (n0_23 : Nat) (c0_23 : Nat) (a0_24 : Option Addr) (n0_24 : Nat) (c0_24 : Nat) (w : World) (K : Value → World → Prop) (h : iask_vc x0_0 x0_1 x0_2 x0_3 x0_4 x0_5 x0_6 x0_7 x0_8 x0_9 x0_10 x0_11 a0_12 n0_12 c0_12 x0_13 x0_14 x0_15 x0_16 x0_17 x0_18 a0_19 n0_19 c0_19 x0_20 x0_21 x0_22 a0_23 n0_23 c0_23 a0_24 n0_24 c0_24 w K) : Calls Try.prog 8 #[.agg #[.int .i64 x0_0, .int .i64 x0_1, .int .i64 x0_2, .int .i64 x0_3, .int .i64 x0_4, .int .i64 x0_5, .int .i64 x0_6, .int .i64 x0_7, .int .i64 x0_8, .int .i64 x0_9, .int .i64 x0_10, .int .i64 x0_11, .slice a0_12 n0_12 c0_12, .int .i64 x0_13, .int .i64 x0_14, .int .i64 x0_15, .int .i64 x0_16, .int .i64 x0_17, .int .i64 x0_18, .slice a0_19 n0_19 c0_19, .int .i64 x0_20, .int .i64 x0_21, .int .i64 x0_22, .slice a0_23 n0_23 c0_23, .slice a0_24 n0_24 c0_24]] w fun e w' => ∃ v, e = .returned v ∧ K v w' :=
  calls_of_eq envOk Try.func8 iask_notes [] [.agg #[.int .i64 x0_0, .int .i64 x0_1, .int .i64 x0_2, .int .i64 x0_3, .int .i64 x0_4, .int .i64 x0_5, .int .i64 x0_6, .int .i64 x0_7, .int .i64 x0_8, .int .i64 x0_9, .int .i64 x0_10, .int .i64 x0_11, .slice a0_12 n0_12 c0_12, .int .i64 x0_13, .int .i64 x0_14, .int .i64 x0_15, .int .i64 x0_16, .int .i64 x0_17, .int .i64 x0_18, .slice a0_19 n0_19 c0_19, .int .i64 x0_20, .int .i64 x0_21, .int .i64 x0_22, .slice a0_23 n0_23 c0_23, .slice a0_24 n0_24 c0_24]] w K h (by as_aux_lemma => kernel_rfl)
/-- purser/wire.Tell -/
def itell_k1 (K : Value → World → Prop) (g_2 : Nat) (w_24 : World) : Prop :=
  Calls Try.prog 26 #[.pointer (some ⟨g_2, 0, none⟩)] w_24 fun e_11 w_25 => KeepG [] w_24 w_25 ∧
  ∃ (a100_0 : Option Addr) (n100_0 : Nat) (c100_0 : Nat) (x100_1 : Int),
  e_11 = .returned (.tuple #[.slice a100_0 n100_0 c100_0, .int .i64 x100_1]) ∧
  K (.tuple #[.slice a100_0 n100_0 c100_0, .int .i64 x100_1]) w_25
def itell_k2 (K : Value → World → Prop) (g : Nat) (g_2 : Nat) (w_18 : World) : Prop :=
  Calls Try.prog 48 #[.pointer (some ⟨g, 0, none⟩)] w_18 fun e_8 w_19 => KeepG [] w_18 w_19 ∧
  ∃ (a75 : Option Addr) (n75 : Nat) (c75 : Nat),
  e_8 = .returned (.slice a75 n75 c75) ∧
  Calls Try.prog 23 #[.pointer (some ⟨g_2, 0, none⟩), .slice a75 n75 c75] w_19 fun e_9 w_20 => KeepG [] w_19 w_20 ∧
  e_9 = .returned (.tuple #[]) ∧
  ∃ (x78 : Int), w_20.cell? ⟨g, 0, none⟩ = some (.int .i64 x78) ∧
  br (decide (x78 = 14)) (
    ∃ (b84 : Bool), w_20.cell? ⟨g_2, 2, none⟩ = some (.bool b84) ∧
    br b84 (
      stO [] w_20 g_2 2 [.bool true] fun w_21 =>
      drewO w_21 fun w_22 =>
      ∃ (a97 : Option Addr) (n97 : Nat) (c97 : Nat), w_22.cell? ⟨g, 12, none⟩ = some (.slice a97 n97 c97) ∧
      Calls Try.prog 49 #[.pointer (some ⟨g_2, 0, none⟩), .slice a97 n97 c97] w_22 fun e_10 w_23 => KeepG [] w_22 w_23 ∧
      e_10 = .returned (.tuple #[]) ∧
      itell_k1 K g_2 w_23
    ) (
      ∃ (a87 : Option Addr) (n87 : Nat) (c87 : Nat), w_20.cell? ⟨g, 12, none⟩ = some (.slice a87 n87 c87) ∧
      stO [] w_20 g_2 2 [.bool (decide (((n87 : Nat) : Int) > 65536))] fun w_26 =>
      drewO w_26 fun w_27 =>
      ∃ (a97_2 : Option Addr) (n97_2 : Nat) (c97_2 : Nat), w_27.cell? ⟨g, 12, none⟩ = some (.slice a97_2 n97_2 c97_2) ∧
      Calls Try.prog 49 #[.pointer (some ⟨g_2, 0, none⟩), .slice a97_2 n97_2 c97_2] w_27 fun e_12 w_28 => KeepG [] w_27 w_28 ∧
      e_12 = .returned (.tuple #[]) ∧
      itell_k1 K g_2 w_28
    )
  ) (
    itell_k1 K g_2 w_20
  )
def itell_vc (x0_0 : Int) (x0_1 : Int) (a0_2 : Option Addr) (n0_2 : Nat) (c0_2 : Nat) (x0_3 : Int) (x0_4 : Int) (x0_5 : Int) (x0_6 : Int) (x0_7 : Int) (x0_8 : Int) (x0_9 : Int) (x0_10 : Int) (x0_11 : Int) (a0_12 : Option Addr) (n0_12 : Nat) (c0_12 : Nat) (w : World) (K : Value → World → Prop) : Prop :=
  newO w (.cells #[.int .i64 x0_0, .int .i64 x0_1, .slice a0_2 n0_2 c0_2, .int .i64 x0_3, .int .i64 x0_4, .int .i64 x0_5, .int .i64 x0_6, .int .i64 x0_7, .int .i64 x0_8, .int .i64 x0_9, .int .i64 x0_10, .int .i64 x0_11, .slice a0_12 n0_12 c0_12] 62) fun g w_2 =>
  ∃ (x8 : Int), w_2.cell? ⟨g, 0, none⟩ = some (.int .i64 x8) ∧
  br (decide (x8 < 0)) (
    K (.tuple #[.slice none 0 0, .int .i64 2]) w_2
  ) (
    ∃ (x12 : Int), w_2.cell? ⟨g, 0, none⟩ = some (.int .i64 x12) ∧
    br (decide (x12 > 14)) (
      K (.tuple #[.slice none 0 0, .int .i64 2]) w_2
    ) (
      ∃ (x17 : Int), w_2.cell? ⟨g, 1, none⟩ = some (.int .i64 x17) ∧
      br (decide (x17 < 0)) (
        K (.tuple #[.slice none 0 0, .int .i64 2]) w_2
      ) (
        ∃ (x22 : Int), w_2.cell? ⟨g, 1, none⟩ = some (.int .i64 x22) ∧
        br (decide (x22 > 255)) (
          K (.tuple #[.slice none 0 0, .int .i64 2]) w_2
        ) (
          newO w_2 (.cells #[.slice none 0 0, .bool false, .bool false] 73) fun g_2 w_3 =>
          drewO w_3 fun w_4 =>
          ∃ (x31 : Int), w_4.cell? ⟨g, 0, none⟩ = some (.int .i64 x31) ∧
          Calls Try.prog 22 #[.pointer (some ⟨g_2, 0, none⟩), .int .i64 x31] w_4 fun e w_5 => KeepG [] w_4 w_5 ∧
          e = .returned (.tuple #[]) ∧
          drewO w_5 fun w_6 =>
          ∃ (x37 : Int), w_6.cell? ⟨g, 1, none⟩ = some (.int .i64 x37) ∧
          Calls Try.prog 22 #[.pointer (some ⟨g_2, 0, none⟩), .int .i64 x37] w_6 fun e_2 w_7 => KeepG [] w_6 w_7 ∧
          e_2 = .returned (.tuple #[]) ∧
          ∃ (x40 : Int), w_7.cell? ⟨g, 1, none⟩ = some (.int .i64 x40) ∧
          br (decide (x40 ≠ 0)) (
            Calls Try.prog 26 #[.pointer (some ⟨g_2, 0, none⟩)] w_7 fun e_3 w_8 => KeepG [] w_7 w_8 ∧
            ∃ (a43_0 : Option Addr) (n43_0 : Nat) (c43_0 : Nat) (x43_1 : Int),
            e_3 = .returned (.tuple #[.slice a43_0 n43_0 c43_0, .int .i64 x43_1]) ∧
            K (.tuple #[.slice a43_0 n43_0 c43_0, .int .i64 x43_1]) w_8
          ) (
            ∃ (x47 : Int), w_7.cell? ⟨g, 0, none⟩ = some (.int .i64 x47) ∧
            Calls Try.prog 45 #[.int .i64 x47] w_7 fun e_4 w_9 => KeepG [] w_7 w_9 ∧
            ∃ (b48 : Bool),
            e_4 = .returned (.bool b48) ∧
            br b48 (
              ∃ (a51 : Option Addr) (n51 : Nat) (c51 : Nat), w_9.cell? ⟨g, 2, none⟩ = some (.slice a51 n51 c51) ∧
              Calls Try.prog 46 #[.pointer (some ⟨g_2, 0, none⟩), .int .i64 ((n51 : Nat) : Int), .int .i64 4] w_9 fun e_5 w_10 => KeepG [] w_9 w_10 ∧
              e_5 = .returned (.tuple #[]) ∧
              ∃ (a55 : Option Addr) (n55 : Nat) (c55 : Nat), w_10.cell? ⟨g, 2, none⟩ = some (.slice a55 n55 c55) ∧
              ∃ (I : Int → World → Prop) (μ : Int → World → Nat),
              I 0 w_10 ∧
              ∀ (x57 : Int) (w_11 : World), I x57 w_11 →
              br (decide (x57 < ((n55 : Nat) : Int))) (
                withP a55 fun g59 o59 =>
                (0 : Int) ≤ x57 ∧ x57 < (((n55 : Nat) : Int) : Int) ∧
                ∃ (x60_0 : Int) (x60_1 : Int) (x60_2 : Int) (b60_3 : Bool),
                cellsAt w_11 g59 (o59 + x57.toNat * 4) [.int .i64 x60_0, .int .i64 x60_1, .int .i64 x60_2, .bool b60_3] ∧
                newO w_11 (.cells #[.int .i64 0, .int .i64 0, .int .i64 0, .bool false] 111) fun g_3 w_12 =>
                stO [] w_12 g_3 0 [.int .i64 x60_0, .int .i64 x60_1, .int .i64 x60_2, .bool b60_3] fun w_13 =>
                newO w_13 (.cells #[.pointer (some ⟨g_3, 0, none⟩), .pointer (some ⟨g_3, 1, none⟩), .pointer (some ⟨g_3, 2, none⟩)] 112) fun g_4 w_14 =>
                Calls Try.prog 23 #[.pointer (some ⟨g_2, 0, none⟩), .slice (some ⟨g_4, 0, none⟩) 3 3] w_14 fun e_6 w_15 => KeepG [] w_14 w_15 ∧
                e_6 = .returned (.tuple #[]) ∧
                drewO w_15 fun w_16 =>
                ∃ (b71 : Bool), w_16.cell? ⟨g_3, 3, none⟩ = some (.bool b71) ∧
                Calls Try.prog 47 #[.pointer (some ⟨g_2, 0, none⟩), .bool b71] w_16 fun e_7 w_17 => KeepG [] w_16 w_17 ∧
                e_7 = .returned (.tuple #[]) ∧
                I (IntKind.i64.wrap (x57 + 1)) w_17 ∧ μ (IntKind.i64.wrap (x57 + 1)) w_17 < μ x57 w_11
              ) (
                itell_k2 K g g_2 w_11
              )
            ) (
              itell_k2 K g g_2 w_9
            )
          )
        )
      )
    )
  )
def itell_notes : Notes := ⟨[(4, ⟨[0, 1, 3, 0, 8, 31], [5], [0, 1, 2, 3, 4]⟩), (5, ⟨[0, 1, 3, 0, 8, 31], [5], [0, 1, 2, 3, 4]⟩), (14, ⟨[0, 1, 3, 0, 8, 31], [5], [0, 1, 2, 3, 4]⟩), (19, ⟨[0, 1, 3, 0, 8, 31], [5], [0, 1, 2, 3, 4]⟩)], [(11, ⟨[(57, .lf (.int .i64))], [], [58, 59, 60, 6, 61, 62, 63, 64, 65, 66, 67, 68, 69, 70, 71, 72, 73, 57], []⟩)], [], []⟩
set_option maxHeartbeats 4000000 in
theorem itell_calls (x0_0 : Int) (x0_1 : Int) (a0_2 : Option Addr) (n0_2 : Nat) (c0_2 : Nat) (x0_3 : Int) (x0_4 : Int) (x0_5 : Int) (x0_6 : Int) (x0_7 : Int) (x0_8 : Int) (x0_9 : Int) (x0_10 : Int) (x0_11 : Int) (a0_12 : Option Addr) (n0_12 : Nat) (c0_12 : Nat) (w : World) (K : Value → World → Prop) (h : itell_vc x0_0 x0_1 a0_2 n0_2 c0_2 x0_3 x0_4 x0_5 x0_6 x0_7 x0_8 x0_9 x0_10 x0_11 a0_12 n0_12 c0_12 w K) : Calls Try.prog 18 #[.agg #[.int .i64 x0_0, .int .i64 x0_1, .slice a0_2 n0_2 c0_2, .int .i64 x0_3, .int .i64 x0_4, .int .i64 x0_5, .int .i64 x0_6, .int .i64 x0_7, .int .i64 x0_8, .int .i64 x0_9, .int .i64 x0_10, .int .i64 x0_11, .slice a0_12 n0_12 c0_12]] w fun e w' => ∃ v, e = .returned v ∧ K v w' :=
  calls_of_eq envOk Try.func18 itell_notes [] [.agg #[.int .i64 x0_0, .int .i64 x0_1, .slice a0_2 n0_2 c0_2, .int .i64 x0_3, .int .i64 x0_4, .int .i64 x0_5, .int .i64 x0_6, .int .i64 x0_7, .int .i64 x0_8, .int .i64 x0_9, .int .i64 x0_10, .int .i64 x0_11, .slice a0_12 n0_12 c0_12]] w K h (by as_aux_lemma => kernel_rfl)
/-- (*purser/wire.reader).take -/
def itake_vc (p0 : Option Addr) (a1 : Option Addr) (n1 : Nat) (c1 : Nat) (w : World) (K : Value → World → Prop) : Prop :=
  ∃ (I : Int → World → Prop) (μ : Int → World → Nat),
  I 0 w ∧
  ∀ (x8 : Int) (w_2 : World), I x8 w_2 →
  br (decide (x8 < ((n1 : Nat) : Int))) (
    withP a1 fun g10 o10 =>
    (0 : Int) ≤ x8 ∧ x8 < (((n1 : Nat) : Int) : Int) ∧
    ∃ (p11 : Option Addr), w_2.cell? ⟨g10, o10 + x8.toNat * 1, none⟩ = some (.pointer p11) ∧
    withP p0 fun g14 o14 =>
    ∃ (p16 : Option Addr), w_2.cell? ⟨g14, o14, none⟩ = some (.pointer p16) ∧
    Calls Try.prog 34 #[.pointer p16, .int .i64 4611686018427387904] w_2 fun e w_3 => KeepG [] w_2 w_3 ∧
    ∃ (x17 : Int),
    e = .returned (.int .i64 x17) ∧
    withP p11 fun g18 o18 =>
    stO [] w_3 g18 o18 [.int .i64 x17] fun w_4 =>
    I (IntKind.i64.wrap (x8 + 1)) w_4 ∧ μ (IntKind.i64.wrap (x8 + 1)) w_4 < μ x8 w_2
  ) (
    K (.tuple #[]) w_2
  )
def itake_notes : Notes := ⟨[], [(1, ⟨[(8, .lf (.int .i64))], [], [9, 10, 11, 5, 12, 13, 14, 15, 16, 17, 18, 19, 8], []⟩)], [], []⟩
set_option maxHeartbeats 4000000 in
theorem itake_calls (p0 : Option Addr) (a1 : Option Addr) (n1 : Nat) (c1 : Nat) (w : World) (K : Value → World → Prop) (h : itake_vc p0 a1 n1 c1 w K) : Calls Try.prog 35 #[.pointer p0, .slice a1 n1 c1] w fun e w' => ∃ v, e = .returned v ∧ K v w' :=
  calls_of_eq envOk Try.func35 itake_notes [] [.pointer p0, .slice a1 n1 c1] w K h (by as_aux_lemma => kernel_rfl)
/-- (*purser/wire.reader).rest -/
def irrest_k1 (K : Value → World → Prop) (p0 : Option Addr) (p1 : Option Addr) (w_2 : World) : Prop :=
  withP p0 fun g16 o16 =>
  ∃ (p18 : Option Addr), w_2.cell? ⟨g16, o16, none⟩ = some (.pointer p18) ∧
  Calls Try.prog 34 #[.pointer p18, .int .i64 4] w_2 fun e w_3 => KeepG [] w_2 w_3 ∧
  ∃ (x19 : Int),
  e = .returned (.int .i64 x19) ∧
  ∃ (I : Int → World → Prop) (μ : Int → World → Nat),
  I 0 w_3 ∧
  ∀ (x20 : Int) (w_4 : World), I x20 w_4 →
  br (decide (x20 < x19)) (
    newO w_4 (.cells #[.int .i64 0, .int .i64 0, .int .i64 0] 83) fun g w_5 =>
    withP p1 fun g24 o24 =>
    ∃ (x26 : Int), w_5.cell? ⟨g24, o24, none⟩ = some (.int .i64 x26) ∧
    Calls Try.prog 54 #[.pointer (some ⟨g, 0, none⟩), .int .i64 x26] w_5 fun e_2 w_6 => KeepG [] w_5 w_6 ∧
    ∃ (a27 : Option Addr) (n27 : Nat) (c27 : Nat),
    e_2 = .returned (.slice a27 n27 c27) ∧
    Calls Try.prog 35 #[.pointer p0, .slice a27 n27 c27] w_6 fun e_3 w_7 => KeepG [] w_6 w_7 ∧
    e_3 = .returned (.tuple #[]) ∧
    drewO w_7 fun w_8 =>
    withP p1 fun g31 o31 =>
    ∃ (a33 : Option Addr) (n33 : Nat) (c33 : Nat), w_8.cell? ⟨g31, o31 + 12, none⟩ = some (.slice a33 n33 c33) ∧
    ∃ (x34_0 : Int) (x34_1 : Int) (x34_2 : Int),
    cellsAt w_8 g 0 [.int .i64 x34_0, .int .i64 x34_1, .int .i64 x34_2] ∧
    newO w_8 (.cells #[.int .i64 x34_0, .int .i64 x34_1, .int .i64 x34_2] 83) fun g_2 w_9 =>
    w_9.cell? ⟨g31, o31 + 12, none⟩ = some (.slice a33 n33 c33) ∧
    appO Try.prog [] w_9 83 3 24 36 a33 n33 c33 (.slice (some ⟨g_2, 0, none⟩) 1 1) fun m36 a36 c36 w_10 =>
    withP p1 fun g37 o37 =>
    stO [] w_10 g37 (o37 + 12) [.slice a36 (n33 + m36) c36] fun w_11 =>
    I (IntKind.i64.wrap (x20 + 1)) w_11 ∧ μ (IntKind.i64.wrap (x20 + 1)) w_11 < μ x20 w_4
  ) (
    K (.tuple #[]) w_4
  )
def irrest_vc (p0 : Option Addr) (p1 : Option Addr) (w : World) (K : Value → World → Prop) : Prop :=
  withP p1 fun g8 o8 =>
  ∃ (x10 : Int), w.cell? ⟨g8, o8, none⟩ = some (.int .i64 x10) ∧
  br (decide (x10 = 1)) (
    irrest_k1 K p0 p1 w
  ) (
    br (decide (x10 = 2)) (
      irrest_k1 K p0 p1 w
    ) (
      br (decide (x10 = 3)) (
        withP p0 fun g16_2 o16_2 =>
        ∃ (p18_2 : Option Addr), w.cell? ⟨g16_2, o16_2, none⟩ = some (.pointer p18_2) ∧
        Calls Try.prog 34 #[.pointer p18_2, .int .i64 4] w fun e_4 w_12 => KeepG [] w w_12 ∧
        ∃ (x19_2 : Int),
        e_4 = .returned (.int .i64 x19_2) ∧
        ∃ (I_2 : Int → World → Prop) (μ_2 : Int → World → Nat),
        I_2 0 w_12 ∧
        ∀ (x20_2 : Int) (w_13 : World), I_2 x20_2 w_13 →
        br (decide (x20_2 < x19_2)) (
          newO w_13 (.cells #[.int .i64 0, .int .i64 0, .int .i64 0] 83) fun g_3 w_14 =>
          withP p1 fun g24_2 o24_2 =>
          ∃ (x26_2 : Int), w_14.cell? ⟨g24_2, o24_2, none⟩ = some (.int .i64 x26_2) ∧
          Calls Try.prog 54 #[.pointer (some ⟨g_3, 0, none⟩), .int .i64 x26_2] w_14 fun e_5 w_15 => KeepG [] w_14 w_15 ∧
          ∃ (a27_2 : Option Addr) (n27_2 : Nat) (c27_2 : Nat),
          e_5 = .returned (.slice a27_2 n27_2 c27_2) ∧
          Calls Try.prog 35 #[.pointer p0, .slice a27_2 n27_2 c27_2] w_15 fun e_6 w_16 => KeepG [] w_15 w_16 ∧
          e_6 = .returned (.tuple #[]) ∧
          drewO w_16 fun w_17 =>
          withP p1 fun g31_2 o31_2 =>
          ∃ (a33_2 : Option Addr) (n33_2 : Nat) (c33_2 : Nat), w_17.cell? ⟨g31_2, o31_2 + 12, none⟩ = some (.slice a33_2 n33_2 c33_2) ∧
          ∃ (x34_0_2 : Int) (x34_1_2 : Int) (x34_2_2 : Int),
          cellsAt w_17 g_3 0 [.int .i64 x34_0_2, .int .i64 x34_1_2, .int .i64 x34_2_2] ∧
          newO w_17 (.cells #[.int .i64 x34_0_2, .int .i64 x34_1_2, .int .i64 x34_2_2] 83) fun g_4 w_18 =>
          w_18.cell? ⟨g31_2, o31_2 + 12, none⟩ = some (.slice a33_2 n33_2 c33_2) ∧
          appO Try.prog [] w_18 83 3 24 36 a33_2 n33_2 c33_2 (.slice (some ⟨g_4, 0, none⟩) 1 1) fun m36_2 a36_2 c36_2 w_19 =>
          withP p1 fun g37_2 o37_2 =>
          stO [] w_19 g37_2 (o37_2 + 12) [.slice a36_2 (n33_2 + m36_2) c36_2] fun w_20 =>
          I_2 (IntKind.i64.wrap (x20_2 + 1)) w_20 ∧ μ_2 (IntKind.i64.wrap (x20_2 + 1)) w_20 < μ_2 x20_2 w_13
        ) (
          K (.tuple #[]) w_13
        )
      ) (
        br (decide (x10 = 6)) (
          withP p0 fun g45 o45 =>
          ∃ (p47 : Option Addr), w.cell? ⟨g45, o45, none⟩ = some (.pointer p47) ∧
          Calls Try.prog 65 #[.pointer p47] w fun e_7 w_21 => KeepG [] w w_21 ∧
          ∃ (x48 : Int),
          e_7 = .returned (.int .i64 x48) ∧
          withP p1 fun g49 o49 =>
          stO [] w_21 g49 (o49 + 9) [.int .i64 x48] fun w_22 =>
          withP p1 fun g53 o53 =>
          ∃ (x55 : Int), w_22.cell? ⟨g53, o53 + 9, none⟩ = some (.int .i64 x55) ∧
          br (decide (x55 < (-1))) (
            withP p0 fun g64 o64 =>
            stO [] w_22 g64 (o64 + 1) [.bool true] fun w_23 =>
            K (.tuple #[]) w_23
          ) (
            withP p1 fun g59 o59 =>
            ∃ (x61 : Int), w_22.cell? ⟨g59, o59 + 9, none⟩ = some (.int .i64 x61) ∧
            withP p0 fun g64_2 o64_2 =>
            stO [] w_22 g64_2 (o64_2 + 1) [.bool (decide (x61 > 4611686018427387904))] fun w_24 =>
            K (.tuple #[]) w_24
          )
        ) (
          br (decide (x10 = 9)) (
            withP p0 fun g45_2 o45_2 =>
            ∃ (p47_2 : Option Addr), w.cell? ⟨g45_2, o45_2, none⟩ = some (.pointer p47_2) ∧
            Calls Try.prog 65 #[.pointer p47_2] w fun e_8 w_25 => KeepG [] w w_25 ∧
            ∃ (x48_2 : Int),
            e_8 = .returned (.int .i64 x48_2) ∧
            withP p1 fun g49_2 o49_2 =>
            stO [] w_25 g49_2 (o49_2 + 9) [.int .i64 x48_2] fun w_26 =>
            withP p1 fun g53_2 o53_2 =>
            ∃ (x55_2 : Int), w_26.cell? ⟨g53_2, o53_2 + 9, none⟩ = some (.int .i64 x55_2) ∧
            br (decide (x55_2 < (-1))) (
              withP p0 fun g64_3 o64_3 =>
              stO [] w_26 g64_3 (o64_3 + 1) [.bool true] fun w_27 =>
              K (.tuple #[]) w_27
            ) (
              withP p1 fun g59_2 o59_2 =>
              ∃ (x61_2 : Int), w_26.cell? ⟨g59_2, o59_2 + 9, none⟩ = some (.int .i64 x61_2) ∧
              withP p0 fun g64_4 o64_4 =>
              stO [] w_26 g64_4 (o64_4 + 1) [.bool (decide (x61_2 > 4611686018427387904))] fun w_28 =>
              K (.tuple #[]) w_28
            )
          ) (
            br (decide (x10 = 11)) (
              withP p0 fun g70 o70 =>
              ∃ (p72 : Option Addr), w.cell? ⟨g70, o70, none⟩ = some (.pointer p72) ∧
              Calls Try.prog 52 #[.pointer p72, .int .i64 1024] w fun e_9 w_29 => KeepG [] w w_29 ∧
              ∃ (a73 : Option Addr) (n73 : Nat) (c73 : Nat),
              e_9 = .returned (.slice a73 n73 c73) ∧
              Calls Try.prog 66 #[.slice a73 n73 c73] w_29 fun e_10 w_30 => KeepG [] w_29 w_30 ∧
              ∃ (x74_0_0 : Int) (x74_0_1 : Int) (x74_0_2 : Int) (x74_0_3 : Int) (x74_0_4 : Int) (x74_0_5 : Int) (a74_0_6 : Option Addr) (n74_0_6 : Nat) (c74_0_6 : Nat) (x74_0_7 : Int) (x74_0_8 : Int) (x74_0_9 : Int) (a74_0_10 : Option Addr) (n74_0_10 : Nat) (c74_0_10 : Nat) (x74_1 : Int),
              e_10 = .returned (.tuple #[.agg #[.int .i64 x74_0_0, .int .i64 x74_0_1, .int .i64 x74_0_2, .int .i64 x74_0_3, .int .i64 x74_0_4, .int .i64 x74_0_5, .slice a74_0_6 n74_0_6 c74_0_6, .int .i64 x74_0_7, .int .i64 x74_0_8, .int .i64 x74_0_9, .slice a74_0_10 n74_0_10 c74_0_10], .int .i64 x74_1]) ∧
              newO w_30 (.cells #[.int .i64 0, .int .i64 0, .int .i64 0, .int .i64 0, .int .i64 0, .int .i64 0, .slice none 0 0, .int .i64 0, .int .i64 0, .int .i64 0, .slice none 0 0] 37) fun g_5 w_31 =>
              ∀ w_32 : World, BoxSt g_5 w_31 w_32 →
              withP p1 fun g82 o82 =>
              stO [g_5] w_32 g82 (o82 + 13) [.int .i64 x74_0_0, .int .i64 x74_0_1, .int .i64 x74_0_2, .int .i64 x74_0_3, .int .i64 x74_0_4, .int .i64 x74_0_5, .slice a74_0_6 n74_0_6 c74_0_6, .int .i64 x74_0_7, .int .i64 x74_0_8, .int .i64 x74_0_9, .slice a74_0_10 n74_0_10 c74_0_10] fun w_33 =>
              withP p0 fun g84 o84 =>
              stO [g_5] w_33 g84 (o84 + 1) [.bool (decide (x74_1 ≠ 0))] fun w_34 =>
              K (.tuple #[]) w_34
            ) (
              br (decide (x10 = 12)) (
                withP p0 fun g89 o89 =>
                ∃ (p91 : Option Addr), w.cell? ⟨g89, o89, none⟩ = some (.pointer p91) ∧
                Calls Try.prog 34 #[.pointer p91, .int .i64 32] w fun e_11 w_35 => KeepG [] w w_35 ∧
                ∃ (x92 : Int),
                e_11 = .returned (.int .i64 x92) ∧
                ∃ (I_3 : Int → World → Prop) (μ_3 : Int → World → Nat),
                I_3 0 w_35 ∧
                ∀ (x93 : Int) (w_36 : World), I_3 x93 w_36 →
                br (decide (x93 < x92)) (
                  drewO w_36 fun w_37 =>
                  withP p1 fun g97 o97 =>
                  ∃ (a99 : Option Addr) (n99 : Nat) (c99 : Nat), w_37.cell? ⟨g97, o97 + 24, none⟩ = some (.slice a99 n99 c99) ∧
                  withP p0 fun g101 o101 =>
                  ∃ (p103 : Option Addr), w_37.cell? ⟨g101, o101, none⟩ = some (.pointer p103) ∧
                  Calls Try.prog 34 #[.pointer p103, .int .i64 4611686018427387904] w_37 fun e_12 w_38 => KeepG [] w_37 w_38 ∧
                  ∃ (x104 : Int),
                  e_12 = .returned (.int .i64 x104) ∧
                  w_38.cell? ⟨g97, o97 + 24, none⟩ = some (.slice a99 n99 c99) ∧
                  newO w_38 (.cells #[.int .i64 x104] 3) fun g_6 w_39 =>
                  w_39.cell? ⟨g97, o97 + 24, none⟩ = some (.slice a99 n99 c99) ∧
                  appO Try.prog [] w_39 3 1 8 28 a99 n99 c99 (.slice (some ⟨g_6, 0, none⟩) 1 1) fun m106 a106 c106 w_40 =>
                  withP p1 fun g107 o107 =>
                  stO [] w_40 g107 (o107 + 24) [.slice a106 (n99 + m106) c106] fun w_41 =>
                  I_3 (IntKind.i64.wrap (x93 + 1)) w_41 ∧ μ_3 (IntKind.i64.wrap (x93 + 1)) w_41 < μ_3 x93 w_36
                ) (
                  K (.tuple #[]) w_36
                )
              ) (
                K (.tuple #[]) w
              )
            )
          )
        )
      )
    )
  )
def irrest_notes : Notes := ⟨[(8, ⟨[0, 0, 2, 6, 14, 0, 32, 126, 255, 511, 1023], [6, 7, 10], [0, 1, 2, 3, 4, 5, 8, 9]⟩), (20, ⟨[0, 0, 2, 6, 14, 0, 32, 96, 224, 480, 992, 2046, 4095, 8191, 16383], [9, 10, 11, 14], [0, 1, 2, 3, 4, 5, 6, 7, 8, 12, 13]⟩)], [(5, ⟨[(20, .lf (.int .i64))], [], [21, 4, 22, 23, 24, 25, 26, 27, 28, 29, 30, 31, 32, 33, 34, 35, 36, 37, 38, 39, 20], []⟩), (19, ⟨[(93, .lf (.int .i64))], [], [94, 95, 96, 97, 98, 99, 100, 101, 102, 103, 104, 105, 106, 107, 108, 109, 93], []⟩)], [], []⟩
set_option maxHeartbeats 4000000 in
theorem irrest_calls (p0 : Option Addr) (p1 : Option Addr) (w : World) (K : Value → World → Prop) (h : irrest_vc p0 p1 w K) : Calls Try.prog 36 #[.pointer p0, .pointer p1] w fun e w' => ∃ v, e = .returned v ∧ K v w' :=
  calls_of_eq envOk Try.func36 irrest_notes [5] [.pointer p0, .pointer p1] w K h (by as_aux_lemma => kernel_rfl)
/-- (*purser/wire.reader).right -/
def iright_vc (p0 : Option Addr) (w : World) (K : Value → World → Prop) : Prop :=
  withP p0 fun g4 o4 =>
  ∃ (b6 : Bool), w.cell? ⟨g4, o4 + 1, none⟩ = some (.bool b6) ∧
  br (!b6) (
    withP p0 fun g10 o10 =>
    ∃ (p12 : Option Addr), w.cell? ⟨g10, o10, none⟩ = some (.pointer p12) ∧
    Calls Try.prog 67 #[.pointer p12] w fun e w_2 => KeepG [] w w_2 ∧
    ∃ (x13 : Int),
    e = .returned (.int .i64 x13) ∧
    K (.bool (decide (x13 = 0))) w_2
  ) (
    K (.bool false) w
  )
def iright_notes : Notes := ⟨[], [], [], []⟩
set_option maxHeartbeats 4000000 in
theorem iright_calls (p0 : Option Addr) (w : World) (K : Value → World → Prop) (h : iright_vc p0 w K) : Calls Try.prog 37 #[.pointer p0] w fun e w' => ∃ v, e = .returned v ∧ K v w' :=
  calls_of_eq envOk Try.func37 iright_notes [] [.pointer p0] w K h (by as_aux_lemma => kernel_rfl)
/-- purser/wire.Asked -/
def iasked_vc (a0 : Option Addr) (n0 : Nat) (c0 : Nat) (w : World) (K : Value → World → Prop) : Prop :=
  newO w (.cells #[.int .i64 0, .int .i64 0, .int .i64 0, .int .i64 0, .int .i64 0, .int .i64 0, .int .i64 0, .int .i64 0, .int .i64 0, .int .i64 0, .int .i64 0, .int .i64 0, .slice none 0 0, .int .i64 0, .int .i64 0, .int .i64 0, .int .i64 0, .int .i64 0, .int .i64 0, .slice none 0 0, .int .i64 0, .int .i64 0, .int .i64 0, .slice none 0 0, .slice none 0 0] 39) fun g w_2 =>
  Calls Try.prog 33 #[.slice a0 n0 c0] w_2 fun e w_3 => KeepG [g] w_2 w_3 ∧
  ∃ (p7 : Option Addr),
  e = .returned (.pointer p7) ∧
  newO w_3 (.cells #[.pointer p7, .bool false] 96) fun g_2 w_4 =>
  ∃ (p13 : Option Addr), w_4.cell? ⟨g_2, 0, none⟩ = some (.pointer p13) ∧
  Calls Try.prog 34 #[.pointer p13, .int .i64 4611686018427387904] w_4 fun e_2 w_5 => KeepG [g] w_4 w_5 ∧
  ∃ (x14 : Int),
  e_2 = .returned (.int .i64 x14) ∧
  newO w_5 (.cells #[.int .i64 0, .int .i64 0, .int .i64 0, .int .i64 0, .int .i64 0, .int .i64 0, .int .i64 0, .int .i64 0, .int .i64 0, .int .i64 0, .int .i64 0, .int .i64 0, .slice none 0 0, .int .i64 0, .int .i64 0, .int .i64 0, .int .i64 0, .int .i64 0, .int .i64 0, .slice none 0 0, .int .i64 0, .int .i64 0, .int .i64 0, .slice none 0 0, .slice none 0 0] 39) fun g_3 w_6 =>
  stO [g] w_6 g_3 0 [.int .i64 x14, .int .i64 0, .int .i64 0, .int .i64 0, .int .i64 0, .int .i64 0, .int .i64 0, .int .i64 0, .int .i64 0, .int .i64 0, .int .i64 0, .int .i64 0, .slice none 0 0, .int .i64 0, .int .i64 0, .int .i64 0, .int .i64 0, .int .i64 0, .int .i64 0, .slice none 0 0, .int .i64 0, .int .i64 0, .int .i64 0, .slice none 0 0, .slice none 0 0] fun w_7 =>
  ∃ (x17 : Int), w_7.cell? ⟨g_3, 0, none⟩ = some (.int .i64 x17) ∧
  br (decide (x17 < 1)) (
    ∀ w_8 : World, BoxSt g w_7 w_8 →
    K (.tuple #[.agg #[.int .i64 0, .int .i64 0, .int .i64 0, .int .i64 0, .int .i64 0, .int .i64 0, .int .i64 0, .int .i64 0, .int .i64 0, .int .i64 0, .int .i64 0, .int .i64 0, .slice none 0 0, .int .i64 0, .int .i64 0, .int .i64 0, .int .i64 0, .int .i64 0, .int .i64 0, .slice none 0 0, .int .i64 0, .int .i64 0, .int .i64 0, .slice none 0 0, .slice none 0 0], .int .i64 2]) w_8
  ) (
    ∃ (x21 : Int), w_7.cell? ⟨g_3, 0, none⟩ = some (.int .i64 x21) ∧
    br (decide (x21 > 14)) (
      ∀ w_9 : World, BoxSt g w_7 w_9 →
      K (.tuple #[.agg #[.int .i64 0, .int .i64 0, .int .i64 0, .int .i64 0, .int .i64 0, .int .i64 0, .int .i64 0, .int .i64 0, .int .i64 0, .int .i64 0, .int .i64 0, .int .i64 0, .slice none 0 0, .int .i64 0, .int .i64 0, .int .i64 0, .int .i64 0, .int .i64 0, .int .i64 0, .slice none 0 0, .int .i64 0, .int .i64 0, .int .i64 0, .slice none 0 0, .slice none 0 0], .int .i64 2]) w_9
    ) (
      Calls Try.prog 24 #[.pointer (some ⟨g_3, 0, none⟩)] w_7 fun e_3 w_10 => KeepG [g] w_7 w_10 ∧
      ∃ (a26 : Option Addr) (n26 : Nat) (c26 : Nat),
      e_3 = .returned (.slice a26 n26 c26) ∧
      Calls Try.prog 35 #[.pointer (some ⟨g_2, 0, none⟩), .slice a26 n26 c26] w_10 fun e_4 w_11 => KeepG [g] w_10 w_11 ∧
      e_4 = .returned (.tuple #[]) ∧
      Calls Try.prog 36 #[.pointer (some ⟨g_2, 0, none⟩), .pointer (some ⟨g_3, 0, none⟩)] w_11 fun e_5 w_12 => KeepG [g] w_11 w_12 ∧
      e_5 = .returned (.tuple #[]) ∧
      Calls Try.prog 37 #[.pointer (some ⟨g_2, 0, none⟩)] w_12 fun e_6 w_13 => KeepG [g] w_12 w_13 ∧
      ∃ (b31 : Bool),
      e_6 = .returned (.bool b31) ∧
      br (!b31) (
        ∀ w_14 : World, BoxSt g w_13 w_14 →
        K (.tuple #[.agg #[.int .i64 0, .int .i64 0, .int .i64 0, .int .i64 0, .int .i64 0, .int .i64 0, .int .i64 0, .int .i64 0, .int .i64 0, .int .i64 0, .int .i64 0, .int .i64 0, .slice none 0 0, .int .i64 0, .int .i64 0, .int .i64 0, .int .i64 0, .int .i64 0, .int .i64 0, .slice none 0 0, .int .i64 0, .int .i64 0, .int .i64 0, .slice none 0 0, .slice none 0 0], .int .i64 2]) w_14
      ) (
        ∃ (x34_0 : Int) (x34_1 : Int) (x34_2 : Int) (x34_3 : Int) (x34_4 : Int) (x34_5 : Int) (x34_6 : Int) (x34_7 : Int) (x34_8 : Int) (x34_9 : Int) (x34_10 : Int) (x34_11 : Int) (a34_12 : Option Addr) (n34_12 : Nat) (c34_12 : Nat) (x34_13 : Int) (x34_14 : Int) (x34_15 : Int) (x34_16 : Int) (x34_17 : Int) (x34_18 : Int) (a34_19 : Option Addr) (n34_19 : Nat) (c34_19 : Nat) (x34_20 : Int) (x34_21 : Int) (x34_22 : Int) (a34_23 : Option Addr) (n34_23 : Nat) (c34_23 : Nat) (a34_24 : Option Addr) (n34_24 : Nat) (c34_24 : Nat),
        cellsAt w_13 g_3 0 [.int .i64 x34_0, .int .i64 x34_1, .int .i64 x34_2, .int .i64 x34_3, .int .i64 x34_4, .int .i64 x34_5, .int .i64 x34_6, .int .i64 x34_7, .int .i64 x34_8, .int .i64 x34_9, .int .i64 x34_10, .int .i64 x34_11, .slice a34_12 n34_12 c34_12, .int .i64 x34_13, .int .i64 x34_14, .int .i64 x34_15, .int .i64 x34_16, .int .i64 x34_17, .int .i64 x34_18, .slice a34_19 n34_19 c34_19, .int .i64 x34_20, .int .i64 x34_21, .int .i64 x34_22, .slice a34_23 n34_23 c34_23, .slice a34_24 n34_24 c34_24] ∧
        ∀ w_15 : World, BoxSt g w_13 w_15 →
        K (.tuple #[.agg #[.int .i64 x34_0, .int .i64 x34_1, .int .i64 x34_2, .int .i64 x34_3, .int .i64 x34_4, .int .i64 x34_5, .int .i64 x34_6, .int .i64 x34_7, .int .i64 x34_8, .int .i64 x34_9, .int .i64 x34_10, .int .i64 x34_11, .slice a34_12 n34_12 c34_12, .int .i64 x34_13, .int .i64 x34_14, .int .i64 x34_15, .int .i64 x34_16, .int .i64 x34_17, .int .i64 x34_18, .slice a34_19 n34_19 c34_19, .int .i64 x34_20, .int .i64 x34_21, .int .i64 x34_22, .slice a34_23 n34_23 c34_23, .slice a34_24 n34_24 c34_24], .int .i64 0]) w_15
      )
    )
  )
def iasked_notes : Notes := ⟨[], [], [], []⟩
set_option maxHeartbeats 4000000 in
theorem iasked_calls (a0 : Option Addr) (n0 : Nat) (c0 : Nat) (w : World) (K : Value → World → Prop) (h : iasked_vc a0 n0 c0 w K) : Calls Try.prog 14 #[.slice a0 n0 c0] w fun e w' => ∃ v, e = .returned v ∧ K v w' :=
  calls_of_eq envOk Try.func14 iasked_notes [2] [.slice a0 n0 c0] w K h (by as_aux_lemma => kernel_rfl)
/-- purser/wire.Told -/
def itold_k1 (K : Value → World → Prop) (g : Nat) (g_2 : Nat) (g_3 : Nat) (w_26 : World) : Prop :=
  Calls Try.prog 37 #[.pointer (some ⟨g_2, 0, none⟩)] w_26 fun e_11 w_27 => KeepG [g] w_26 w_27 ∧
  ∃ (b68 : Bool),
  e_11 = .returned (.bool b68) ∧
  br (!b68) (
    ∀ w_28 : World, BoxSt g w_27 w_28 →
    K (.tuple #[.agg #[.int .i64 0, .int .i64 0, .slice none 0 0, .int .i64 0, .int .i64 0, .int .i64 0, .int .i64 0, .int .i64 0, .int .i64 0, .int .i64 0, .int .i64 0, .int .i64 0, .slice none 0 0], .int .i64 2]) w_28
  ) (
    ∃ (x71_0 : Int) (x71_1 : Int) (a71_2 : Option Addr) (n71_2 : Nat) (c71_2 : Nat) (x71_3 : Int) (x71_4 : Int) (x71_5 : Int) (x71_6 : Int) (x71_7 : Int) (x71_8 : Int) (x71_9 : Int) (x71_10 : Int) (x71_11 : Int) (a71_12 : Option Addr) (n71_12 : Nat) (c71_12 : Nat),
    cellsAt w_27 g_3 0 [.int .i64 x71_0, .int .i64 x71_1, .slice a71_2 n71_2 c71_2, .int .i64 x71_3, .int .i64 x71_4, .int .i64 x71_5, .int .i64 x71_6, .int .i64 x71_7, .int .i64 x71_8, .int .i64 x71_9, .int .i64 x71_10, .int .i64 x71_11, .slice a71_12 n71_12 c71_12] ∧
    ∀ w_29 : World, BoxSt g w_27 w_29 →
    K (.tuple #[.agg #[.int .i64 x71_0, .int .i64 x71_1, .slice a71_2 n71_2 c71_2, .int .i64 x71_3, .int .i64 x71_4, .int .i64 x71_5, .int .i64 x71_6, .int .i64 x71_7, .int .i64 x71_8, .int .i64 x71_9, .int .i64 x71_10, .int .i64 x71_11, .slice a71_12 n71_12 c71_12], .int .i64 0]) w_29
  )
def itold_k2 (K : Value → World → Prop) (g : Nat) (g_2 : Nat) (g_3 : Nat) (w_21 : World) : Prop :=
  Calls Try.prog 48 #[.pointer (some ⟨g_3, 0, none⟩)] w_21 fun e_8 w_22 => KeepG [g] w_21 w_22 ∧
  ∃ (a56 : Option Addr) (n56 : Nat) (c56 : Nat),
  e_8 = .returned (.slice a56 n56 c56) ∧
  Calls Try.prog 35 #[.pointer (some ⟨g_2, 0, none⟩), .slice a56 n56 c56] w_22 fun e_9 w_23 => KeepG [g] w_22 w_23 ∧
  e_9 = .returned (.tuple #[]) ∧
  ∃ (x59 : Int), w_23.cell? ⟨g_3, 0, none⟩ = some (.int .i64 x59) ∧
  br (decide (x59 = 14)) (
    ∃ (p64 : Option Addr), w_23.cell? ⟨g_2, 0, none⟩ = some (.pointer p64) ∧
    Calls Try.prog 52 #[.pointer p64, .int .i64 65536] w_23 fun e_10 w_24 => KeepG [g] w_23 w_24 ∧
    ∃ (a65 : Option Addr) (n65 : Nat) (c65 : Nat),
    e_10 = .returned (.slice a65 n65 c65) ∧
    stO [g] w_24 g_3 12 [.slice a65 n65 c65] fun w_25 =>
    itold_k1 K g g_2 g_3 w_25
  ) (
    itold_k1 K g g_2 g_3 w_23
  )
def itold_vc (a0 : Option Addr) (n0 : Nat) (c0 : Nat) (w : World) (K : Value → World → Prop) : Prop :=
  newO w (.cells #[.int .i64 0, .int .i64 0, .slice none 0 0, .int .i64 0, .int .i64 0, .int .i64 0, .int .i64 0, .int .i64 0, .int .i64 0, .int .i64 0, .int .i64 0, .int .i64 0, .slice none 0 0] 62) fun g w_2 =>
  Calls Try.prog 33 #[.slice a0 n0 c0] w_2 fun e w_3 => KeepG [g] w_2 w_3 ∧
  ∃ (p8 : Option Addr),
  e = .returned (.pointer p8) ∧
  newO w_3 (.cells #[.pointer p8, .bool false] 96) fun g_2 w_4 =>
  ∃ (p14 : Option Addr), w_4.cell? ⟨g_2, 0, none⟩ = some (.pointer p14) ∧
  Calls Try.prog 34 #[.pointer p14, .int .i64 14] w_4 fun e_2 w_5 => KeepG [g] w_4 w_5 ∧
  ∃ (x15 : Int),
  e_2 = .returned (.int .i64 x15) ∧
  newO w_5 (.cells #[.int .i64 0, .int .i64 0, .slice none 0 0, .int .i64 0, .int .i64 0, .int .i64 0, .int .i64 0, .int .i64 0, .int .i64 0, .int .i64 0, .int .i64 0, .int .i64 0, .slice none 0 0] 62) fun g_3 w_6 =>
  stO [g] w_6 g_3 0 [.int .i64 x15, .int .i64 0, .slice none 0 0, .int .i64 0, .int .i64 0, .int .i64 0, .int .i64 0, .int .i64 0, .int .i64 0, .int .i64 0, .int .i64 0, .int .i64 0, .slice none 0 0] fun w_7 =>
  ∃ (p20 : Option Addr), w_7.cell? ⟨g_2, 0, none⟩ = some (.pointer p20) ∧
  Calls Try.prog 34 #[.pointer p20, .int .i64 255] w_7 fun e_3 w_8 => KeepG [g] w_7 w_8 ∧
  ∃ (x21 : Int),
  e_3 = .returned (.int .i64 x21) ∧
  stO [g] w_8 g_3 1 [.int .i64 x21] fun w_9 =>
  ∃ (x24 : Int), w_9.cell? ⟨g_3, 1, none⟩ = some (.int .i64 x24) ∧
  br (decide (x24 = 0)) (
    ∃ (x27 : Int), w_9.cell? ⟨g_3, 0, none⟩ = some (.int .i64 x27) ∧
    Calls Try.prog 45 #[.int .i64 x27] w_9 fun e_4 w_10 => KeepG [g] w_9 w_10 ∧
    ∃ (b28 : Bool),
    e_4 = .returned (.bool b28) ∧
    br b28 (
      ∃ (p32 : Option Addr), w_10.cell? ⟨g_2, 0, none⟩ = some (.pointer p32) ∧
      Calls Try.prog 34 #[.pointer p32, .int .i64 4] w_10 fun e_5 w_11 => KeepG [g] w_10 w_11 ∧
      ∃ (x33 : Int),
      e_5 = .returned (.int .i64 x33) ∧
      ∃ (I : Int → World → Prop) (μ : Int → World → Nat),
      I 0 w_11 ∧
      ∀ (x34 : Int) (w_12 : World), I x34 w_12 →
      br (decide (x34 < x33)) (
        newO w_12 (.cells #[.int .i64 0, .int .i64 0, .int .i64 0, .bool false] 111) fun g_4 w_13 =>
        newO w_13 (.cells #[.pointer (some ⟨g_4, 0, none⟩), .pointer (some ⟨g_4, 1, none⟩), .pointer (some ⟨g_4, 2, none⟩)] 112) fun g_5 w_14 =>
        Calls Try.prog 35 #[.pointer (some ⟨g_2, 0, none⟩), .slice (some ⟨g_5, 0, none⟩) 3 3] w_14 fun e_6 w_15 => KeepG [g] w_14 w_15 ∧
        e_6 = .returned (.tuple #[]) ∧
        ∃ (p45 : Option Addr), w_15.cell? ⟨g_2, 0, none⟩ = some (.pointer p45) ∧
        Calls Try.prog 51 #[.pointer p45] w_15 fun e_7 w_16 => KeepG [g] w_15 w_16 ∧
        ∃ (b46 : Bool),
        e_7 = .returned (.bool b46) ∧
        stO [g] w_16 g_4 3 [.bool b46] fun w_17 =>
        ∃ (a49 : Option Addr) (n49 : Nat) (c49 : Nat), w_17.cell? ⟨g_3, 2, none⟩ = some (.slice a49 n49 c49) ∧
        ∃ (x50_0 : Int) (x50_1 : Int) (x50_2 : Int) (b50_3 : Bool),
        cellsAt w_17 g_4 0 [.int .i64 x50_0, .int .i64 x50_1, .int .i64 x50_2, .bool b50_3] ∧
        newO w_17 (.cells #[.int .i64 x50_0, .int .i64 x50_1, .int .i64 x50_2, .bool b50_3] 111) fun g_6 w_18 =>
        appO Try.prog [g] w_18 111 4 32 58 a49 n49 c49 (.slice (some ⟨g_6, 0, none⟩) 1 1) fun m52 a52 c52 w_19 =>
        stO [g] w_19 g_3 2 [.slice a52 (n49 + m52) c52] fun w_20 =>
        I (IntKind.i64.wrap (x34 + 1)) w_20 ∧ μ (IntKind.i64.wrap (x34 + 1)) w_20 < μ x34 w_12
      ) (
        itold_k2 K g g_2 g_3 w_12
      )
    ) (
      itold_k2 K g g_2 g_3 w_10
    )
  ) (
    itold_k1 K g g_2 g_3 w_9
  )
def itold_notes : Notes := ⟨[], [(7, ⟨[(34, .lf (.int .i64))], [], [35, 6, 36, 37, 38, 39, 40, 41, 42, 43, 44, 45, 46, 47, 48, 49, 50, 51, 52, 53, 54, 34], []⟩)], [], []⟩
set_option maxHeartbeats 4000000 in
theorem itold_calls (a0 : Option Addr) (n0 : Nat) (c0 : Nat) (w : World) (K : Value → World → Prop) (h : itold_vc a0 n0 c0 w K) : Calls Try.prog 21 #[.slice a0 n0 c0] w fun e w' => ∃ v, e = .returned v ∧ K v w' :=
  calls_of_eq envOk Try.func21 itold_notes [2] [.slice a0 n0 c0] w K h (by as_aux_lemma => kernel_rfl)
end GWi
end Go.Proofs.Ytkggnbabnfhcpaa
end
section
/- The bytes of numbers: the plain law. No program in sight. -/
namespace Go.Proofs.Ytkggnbabnfhcpaa
open Go.RowKit
/-- The groups of a number without a sign. -/
def grp (u : Nat) : List UInt8 := if u < 128 then [UInt8.ofNat u] else UInt8.ofNat (u % 128 + 128) :: grp (u / 128)
termination_by u
decreasing_by omega
theorem grp_lt {u : Nat} (h : u < 128) : grp u = [UInt8.ofNat u] := by rw [grp, if_pos h]
theorem grp_ge {u : Nat} (h : 128 ≤ u) : grp u = UInt8.ofNat (u % 128 + 128) :: grp (u / 128) := by rw [grp, if_neg (by omega)]
theorem grp_len (n : Nat) : ∀ u, u < 128 ^ (n + 1) → (grp u).length ≤ n + 1 := by
  induction n with
  | zero => intro u h; rw [grp_lt (by simpa using h)]; simp
  | succ n ih =>
    intro u h
    by_cases h1 : u < 128
    · rw [grp_lt h1]; simp
    · rw [grp_ge (by omega), List.length_cons]
      have := ih (u / 128) (by rw [Nat.div_lt_iff_lt_mul (by omega), ← Nat.pow_succ]; exact h)
      omega
theorem grp_len64 {u : Nat} (h : u < 18446744073709551616) : (grp u).length ≤ 10 := grp_len 9 u (by omega)
theorem grp_pos (u : Nat) : 0 < (grp u).length := by
  by_cases h : u < 128
  · rw [grp_lt h]; simp
  · rw [grp_ge (by omega)]; simp
/-- An int as a number without a sign: zigzag. -/
def zig (z : Int) : Nat := if 0 ≤ z then (2 * z).toNat else (2 * (-z) - 1).toNat
theorem zig_lt {z : Int} (h1 : -9223372036854775808 ≤ z) (h2 : z ≤ 9223372036854775807) : zig z < 18446744073709551616 := by unfold zig; split <;> omega
def uintB (z : Int) : List UInt8 := if z < 0 then [] else grp z.toNat
def intB (z : Int) : List UInt8 := grp (zig z)
def flagB (b : Bool) : List UInt8 := [if b then 1 else 0]
def textB (bs : List UInt8) : List UInt8 := grp bs.length ++ bs
end Go.Proofs.Ytkggnbabnfhcpaa
end
section
/- The writer of the codec, walked. -/
namespace Go.Proofs.Ytkggnbabnfhcpaa
open Go.RowKit
theorem Try.infoB : (Try.prog.info? 5).map (fun i => (i.zero, i.size, i.bytes)) = some (some (.int .u8 0), 1, 1) := by kernel_rfl
theorem wpList_appb {ops : Array Oper} {rest : List Oper} {o : Oper} {a : Act} {w : World} {Q : Exit → Act → World → Prop} (hgd : o.guard = none) (s xo : Operand)
    (hop : o.op = Op.call { callee := Callee.builtin Builtin.append, args := #[s, xo], argTypes := #[32, 32] })
    {base n : Nat} {v : Value} {xs : List Value} (hv : a.eval s = v) (ho : Own w base 5 1 v n xs) (x : Value) (hx : a.eval xo = x) (m : Nat) (news : List Value) (hs : Src Try.prog 1 32 x m news w)
    (hb : n + m ≤ 140737488355328) (hbase : base ≤ w.heap.size)
    (hK : ∀ v' w', Own w' base 5 1 v' (n + m) (xs ++ news) → w.grownBy w' v.ownBlock → (v'.ownBlock = v.ownBlock ∨ ∃ g, v'.ownBlock = some g ∧ w.heap.size ≤ g) → wpList Try.prog ops Q rest (a.put o.dst v') w') :
    wpList Try.prog ops Q (o :: rest) a w := by
  obtain ⟨i0, hi, hz0, hz1, hz2⟩ := info_parts Try.infoB
  exact wpList_app hgd s xo 32 32 hop i0 _ 1 Try.underlying32 hi hz0 hz1 hz2 rfl hv ho x hx m news hs (by unfold maxLen; omega) (by omega) hbase hK
theorem Src.builtB {W : World} (b : UInt8) : Src Try.prog 1 32 (.slice (some ⟨W.heap.size, 0, none⟩) 1 1) 1 [bV b] (W.alloc (.cells #[bV b] 5)) :=
  Src.ofRow Try.underlying32 (some ⟨W.heap.size, 0, none⟩) 1 [bV b] (RowAt.ofWhole (vs := [bV b]) (al_new rfl)) (by intro u hu; rw [List.mem_singleton] at hu; subst hu; rfl)
/-- A writer. -/
structure WAt (w : World) (L : List Nat) (g : Nat) (bs : List UInt8) (bad : Bool) : Prop where
  ex : ∃ v, Bk w g #[v, .bool bad] 71 ∧ Own w 0 5 1 v bs.length (bs.map bV) ∧ ∀ k, v.ownBlock = some k → k ∈ L
  mem : g ∈ L
  under : Under L w.heap.size
theorem WAt.keep {w w' : World} {L : List Nat} {g : Nat} {bs : List UInt8} {bad : Bool} (h : WAt w L g bs bad) (hk : ∀ k ∈ L, w'.heap[k]? = w.heap[k]?) (hs : w.heap.size ≤ w'.heap.size) : WAt w' L g bs bad := by
  obtain ⟨⟨v, h1, h2, h3⟩, h4, h5⟩ := h
  exact ⟨⟨v, h1.keep (hk g h4), h2.keep fun k hv => hk k (h3 k hv), h3⟩, h4, h5.mono hs⟩
theorem WAt.fr {w w' : World} {L M : List Nat} {g : Nat} {bs : List UInt8} {bad : Bool} (h : WAt w L g bs bad) (hf : Fr M w w') (ha : Apart L M) : WAt w' L g bs bad := h.keep (hf.keep ha h.under) hf.size
theorem WAt.make {w : World} {g : Nat} {v : Value} {bs : List UInt8} {bad : Bool} (h1 : Bk w g #[v, .bool bad] 71) (h2 : Own w 0 5 1 v bs.length (bs.map bV)) : WAt w (g :: v.ownBlock.toList) g bs bad :=
  ⟨⟨v, h1, h2, fun k hk => by simp [hk]⟩, by simp, fun k hk => by
    rcases List.mem_cons.1 hk with rfl | hk
    · exact h1.lt
    · exact (h2.lt k (by simpa using hk)).2⟩
theorem own_far {w : World} {g : Nat} {v : Value} {cs : Array Value} {n : Nat} {xs : List Value} {t : TypeId} (h1 : Bk w g cs t) (h2 : Own w 0 5 1 v n xs) (hne : t ≠ 5) : v.ownBlock ≠ some g := by
  intro h
  rcases h2.2 with ⟨rfl, _⟩ | ⟨g', off, cap, cur, rfl, hb, hg, _⟩
  · cases h
  · simp [Value.ownBlock] at h
    subst h
    unfold Bk at h1
    rw [h1] at hg
    injection hg with hg
    injection hg with h3 h4 h5
    exact hne h4
theorem u8_of (u : Nat) : IntKind.u8.wrap (u : Int) = ((u % 256 : Nat) : Int) := by rw [IntKind.wrap_u8]; omega
theorem bV_nat (n : Nat) (h : n < 256) : bV (UInt8.ofNat n) = .int .u8 (n : Int) := by
  unfold bV
  rw [show (UInt8.ofNat n).toNat = n % 256 from rfl, Nat.mod_eq_of_lt h]
theorem or128B : ((List.range 256).all fun x => bits BinOp.or IntKind.u8 (x : Int) 128 == ((x % 128 + 128 : Nat) : Int)) = true := by kernel_rfl
theorem or128 (x : Nat) : bits BinOp.or IntKind.u8 ((x : Int) % 256) 128 = ((x % 128 + 128 : Nat) : Int) := by
  have h := List.all_eq_true.1 or128B (x % 256) (List.mem_range.2 (by omega))
  have h2 := eq_of_beq h
  rw [show ((x % 256 : Nat) : Int) = (x : Int) % 256 by omega, show x % 256 % 128 = x % 128 by omega] at h2
  exact h2
/-- One append to a writer, and the store of the slice. -/
theorem w_step {wa w1 : World} {g n m : Nat} {v v1 : Value} {bad : Bool} {xs zs : List Value} (hB : Bk wa g #[v, .bool bad] 71) (hO : Own wa 0 5 1 v n xs) (hg : wa.grownBy w1 v.ownBlock) (ho1 : Own w1 0 5 1 v1 m zs) :
    Bk w1 g #[v, .bool bad] 71 ∧ Bk (w1.setCell ⟨g, 0, none⟩ v1) g #[v1, .bool bad] 71 ∧ Own (w1.setCell ⟨g, 0, none⟩ v1) 0 5 1 v1 m zs := by
  have hne : v.ownBlock ≠ some g := own_far hB hO (by decide)
  have b1 : Bk w1 g #[v, .bool bad] 71 := hB.keep (hg.block g hB.lt (fun e => hne e.symm))
  refine ⟨b1, b1.setCell 0 v1, ho1.keep fun k hk => Below.heap_setCell _ _ _ _ fun e => ?_⟩
  have e2 : k = g := e
  subst e2
  exact own_far b1 ho1 (by decide) hk
theorem own_gr {L : List Nat} {v v1 : Value} {n m : Nat} (hK : ∀ k, v.ownBlock = some k → k ∈ L ∨ n ≤ k) (hn1 : v1.ownBlock = v.ownBlock ∨ ∃ g, v1.ownBlock = some g ∧ m ≤ g) (hnm : n ≤ m) : ∀ k, v1.ownBlock = some k → k ∈ L ∨ n ≤ k := by
  intro k hk
  rcases hn1 with h | ⟨g, h, hg⟩
  · exact hK k (h ▸ hk)
  · rw [h] at hk; injection hk with hk; omega
theorem gr_make {L : List Nat} {v : Value} {n g : Nat} (hg : g ∈ L) (hK : ∀ k, v.ownBlock = some k → k ∈ L ∨ n ≤ k) : Gr L (g :: v.ownBlock.toList) n := by
  intro k hk
  rcases List.mem_cons.1 hk with rfl | hk
  · exact .inl hg
  · exact hK k (by simpa using hk)
set_option maxRecDepth 100000 in
set_option maxHeartbeats 2000000 in
theorem wput_any (g u : Nat) (hu : u < 18446744073709551616) (bs : List UInt8) (bad : Bool) (L : List Nat) (w : World) (h : WAt w L g bs bad) (hl : bs.length ≤ 100000000) :
    Calls Try.prog 53 #[.pointer (some ⟨g, 0, none⟩), .int .u64 u] w fun e w' => e = .returned (.tuple #[]) ∧ ∃ L', WAt w' L' g (bs ++ grp u) bad ∧ Fr L w w' ∧ Gr L L' w.heap.size := by
  obtain ⟨⟨v, h1, h2, h3⟩, h4, h5⟩ := h
  have H1 := Bx.mk h1; have H2 := Bx.mk h2; have H3 := Bx.mk h3; have H4 := Bx.mk h4; have HL := Bx.mk hl; have HU := Bx.mk hu
  have H10 := Bx.mk (grp_len64 hu)
  clear h1 h2 h3 h4 h5 hl hu
  go_enter Try.func53, Try.ntmps53
  go_wp2_with fail
  go_loopw [1,4,5,6,7,8,9,10,11,12,13,14,15,16,17,18,19] (fun t1 _ _ _ _ _ _ _ _ _ _ _ _ _ _ _ _ wr => ∃ (x : Nat) (v : Value) (ys : List UInt8), t1 = .int .u64 x ∧ x ≤ u ∧ Bx (ys ++ grp x = bs ++ grp u) ∧ Bk wr g #[v, .bool bad] 71 ∧ Own wr 0 5 1 v ys.length (ys.map bV) ∧ Bx (∀ k, v.ownBlock = some k → k ∈ L ∨ w.heap.size ≤ k) ∧ Fr L w wr) (fun t1 _ _ _ _ _ _ _ _ _ _ _ _ _ _ _ _ _ => (intOf t1).toNat)
  case atStart => exact ⟨u, v, bs, rfl, Nat.le_refl _, ⟨rfl⟩, H1.out, H2.out, ⟨fun k hk => .inl (H3.out k hk)⟩, Fr.refl _ _⟩
  case round =>
    obtain ⟨x, v, ys, rfl, hxu, hE, hB, hO, hK, hF⟩ := hrel
    have HB := Bx.mk hB; have HO := Bx.mk hO; have HF := Bx.mk hF
    have hlen : ys.length ≤ 100000010 := by
      have := congrArg List.length hE.out; rw [List.length_append, List.length_append] at this; have := HL.out; have := H10.out; omega
    have HLen := Bx.mk hlen
    have hXU := Bx.mk hxu
    have c0 : wr.cell? ⟨g, 0, none⟩ = some v := by rw [hB.cell]; rfl
    clear hB hO hF hlen hxu
    by_cases hge : (128 : Int) ≤ (x : Int)
    · have hG := grp_ge (u := x) (by omega)
      obtain ⟨y, hy⟩ : ∃ y, y = x % 128 + 128 := ⟨_, rfl⟩
      have f2 : bits BinOp.or IntKind.u8 ((x : Int) % 256) 128 = (y : Int) := by rw [or128, hy]
      have f3 : (x : Int) / 128 = ((x / 128 : Nat) : Int) := by omega
      have f4 : IntKind.u64.wrap ((x / 128 : Nat) : Int) = ((x / 128 : Nat) : Int) := by rw [IntKind.wrap_u64]; have := hXU.out; have := HU.out; omega
      rw [← hy] at hG
      have hyb := bV_nat y (by omega)
      have HY := Bx.mk hyb; have HG := Bx.mk hG
      have hdec : x / 128 < x := by omega
      have hdec2 : x / 128 ≤ u := by have := hXU.out; omega
      have HD := Bx.mk hdec; have HD2 := Bx.mk hdec2
      clear hy hyb hG hdec hdec2
      generalize x / 128 = x2 at *
      go_wp2_with (refine wpList_appb rfl (.tmp 10) (.tmp 14) rfl rfl (HO.out.alloc _) _ rfl 1 [bV (UInt8.ofNat y)] (by rw [← HY.out]; exact Src.builtB (UInt8.ofNat y)) (by have := HLen.out; omega) (by omega) ?_)
      intro v1 w1 ho1 hg1 hn1
      obtain ⟨a1, cp1, rfl⟩ := ho1.isSlice
      obtain ⟨b1, b2, b3⟩ := w_step (HB.out.alloc _) (HO.out.alloc _) hg1 ho1
      have hK2 := own_gr hK.out hn1 (show w.heap.size ≤ wr.heap.size + 1 by have := HF.out.size; omega)
      have hF2 := ((HF.out.alloc (.cells #[.int .u8 (y : Int)] 5)).grown hg1 hK.out).setCell (p := ⟨g, 0, none⟩) (.inl H4.out) (.slice a1 (ys.length + 1) cp1)
      have c1 : w1.frozen? ⟨g, 0, none⟩ = false := b1.frozen 0
      have c2 : w1.cell? ⟨g, 0, none⟩ = some v := by rw [b1.cell]; rfl
      have B2 := Bx.mk b2; have B3 := Bx.mk b3; have K2 := Bx.mk hK2; have F2 := Bx.mk hF2
      clear b1 b2 b3 hK2 hF2 ho1 hg1 hn1
      go_wp2
      go_roundw
      case rel => exact ⟨x2, _, ys ++ [UInt8.ofNat y], rfl, HD2.out, ⟨by rw [← hE.out, HG.out, List.append_assoc]; rfl⟩, B2.out, by rw [List.length_append, List.map_append]; exact B3.out, K2, F2.out⟩
      case measure => have := HD.out; simp [intOf]; omega
    · have hG := grp_lt (u := x) (by omega)
      have hyb := bV_nat x (by omega)
      have HY := Bx.mk hyb; have HG := Bx.mk hG
      have f1 : (x : Int) % 256 = (x : Int) := by omega
      clear hyb hG
      go_wp2_with (refine wpList_appb rfl (.tmp 24) (.tmp 27) rfl rfl (HO.out.alloc _) _ rfl 1 [bV (UInt8.ofNat x)] (by rw [← HY.out]; exact Src.builtB (UInt8.ofNat x)) (by have := HLen.out; omega) (by omega) ?_)
      intro v1 w1 ho1 hg1 hn1
      obtain ⟨a1, cp1, rfl⟩ := ho1.isSlice
      obtain ⟨b1, b2, b3⟩ := w_step (HB.out.alloc _) (HO.out.alloc _) hg1 ho1
      have hK2 := own_gr hK.out hn1 (show w.heap.size ≤ wr.heap.size + 1 by have := HF.out.size; omega)
      have hF2 := ((HF.out.alloc (.cells #[.int .u8 (x : Int)] 5)).grown hg1 hK.out).setCell (p := ⟨g, 0, none⟩) (.inl H4.out) (.slice a1 (ys.length + 1) cp1)
      have c1 : w1.frozen? ⟨g, 0, none⟩ = false := b1.frozen 0
      have c2 : w1.cell? ⟨g, 0, none⟩ = some v := by rw [b1.cell]; rfl
      have B2 := Bx.mk b2; have B3 := Bx.mk b3; have K2 := Bx.mk hK2; have F2 := Bx.mk hF2
      clear b1 b2 b3 hK2 hF2 ho1 hg1 hn1
      go_wp2
      go_end0
      refine ⟨rfl, _, ?_, F2.out, gr_make H4.out K2.out⟩
      rw [← hE.out, HG.out]
      exact WAt.make B2.out (by rw [List.length_append, List.map_append]; exact B3.out)
end Go.Proofs.Ytkggnbabnfhcpaa
end
section
/- The rest of the codec's writer, walked. -/
namespace Go.Proofs.Ytkggnbabnfhcpaa
open Go.RowKit
def W1 (w : World) (L : List Nat) (g : Nat) (bs : List UInt8) (bad : Bool) (e : Ending) (w' : World) : Prop :=
  e = .returned (.tuple #[]) ∧ ∃ L', WAt w' L' g bs bad ∧ Fr L w w' ∧ Gr L L' w.heap.size
theorem WAt.setBad {w : World} {L : List Nat} {g : Nat} {bs : List UInt8} {bad : Bool} (h : WAt w L g bs bad) : WAt (w.setCell ⟨g, 1, none⟩ (.bool true)) L g bs true := by
  obtain ⟨⟨v, h1, h2, h3⟩, h4, h5⟩ := h
  refine ⟨⟨v, h1.setCell 1 (.bool true), h2.keep fun k hk => Below.heap_setCell _ _ _ _ fun e => ?_, h3⟩, h4, by simpa [Under] using h5⟩
  have e2 : k = g := e
  subst e2
  exact own_far h1 h2 (by decide) hk
set_option maxRecDepth 100000 in
set_option maxHeartbeats 2000000 in
theorem wUint_neg (g : Nat) (z : Int) (hz : z < 0) (bs : List UInt8) (bad : Bool) (L : List Nat) (w : World) (h : WAt w L g bs bad) :
    Calls Try.prog 22 #[.pointer (some ⟨g, 0, none⟩), .int .i64 z] w (W1 w L g bs true) := by
  have HW := Bx.mk h
  obtain ⟨⟨v, h1, h2, h3⟩, h4, h5⟩ := h
  have H4 := Bx.mk h4
  have c1 : w.frozen? ⟨g, 1, none⟩ = false := h1.frozen 1
  have c2 : w.cell? ⟨g, 1, none⟩ = some (.bool bad) := by rw [h1.cell]; rfl
  clear h1 h2 h3 h4 h5
  go_enter Try.func22, Try.ntmps22
  go_wp2
  go_end0
  exact ⟨rfl, L, HW.out.setBad, (Fr.refl _ _).setCell (p := ⟨g, 1, none⟩) (.inl H4.out) _, Gr.refl _ _⟩
set_option maxRecDepth 100000 in
set_option maxHeartbeats 2000000 in
theorem wUint_pos (g n : Nat) (hn : n < 9223372036854775808) (bs : List UInt8) (bad : Bool) (L : List Nat) (w : World) (h : WAt w L g bs bad) (hl : bs.length ≤ 100000000) :
    Calls Try.prog 22 #[.pointer (some ⟨g, 0, none⟩), .int .i64 n] w (W1 w L g (bs ++ grp n) bad) := by
  have HC := fun w h => Bx.mk (wput_any g n (by omega) bs bad L w h hl)
  have HW := Bx.mk h
  have f1 : IntKind.u64.wrap (n : Int) = (n : Int) := by rw [IntKind.wrap_u64]; omega
  have f2 : ¬ (n : Int) < 0 := by omega
  clear h hl hn
  go_enter Try.func22, Try.ntmps22
  go_wp2_with fail
  refine (HC _ HW.out).out.mono ?_
  rintro e w' ⟨rfl, hw'⟩
  go_wp2
  go_end0
  exact ⟨rfl, hw'⟩
theorem wUint_nil (z : Int) (w : World) : Calls Try.prog 22 #[.pointer none, .int .i64 z] w fun e w' => e = .returned (.tuple #[]) ∧ w' = w := by
  go_enter Try.func22, Try.ntmps22
  go_wp2
  go_end0
  exact ⟨rfl, rfl⟩
theorem wUint_any (g : Nat) (z : Int) (hz : z ≤ 9223372036854775807) (bs : List UInt8) (bad : Bool) (L : List Nat) (w : World) (h : WAt w L g bs bad) (hl : bs.length ≤ 100000000) :
    Calls Try.prog 22 #[.pointer (some ⟨g, 0, none⟩), .int .i64 z] w (W1 w L g (bs ++ uintB z) (bad || decide (z < 0))) := by
  by_cases h0 : z < 0
  · rw [show uintB z = [] by unfold uintB; rw [if_pos h0], List.append_nil, decide_eq_true h0, Bool.or_true]
    exact wUint_neg g z h0 bs bad L w h
  · obtain ⟨n, rfl⟩ := Int.eq_ofNat_of_zero_le (show 0 ≤ z by omega)
    rw [show uintB (n : Int) = grp n by unfold uintB; rw [if_neg h0]; rfl, decide_eq_false h0, Bool.or_false]
    exact wUint_pos g n (by omega) bs bad L w h hl
theorem zig_xor_pos (n : Nat) (h : n < 9223372036854775808) : zig (n : Int) = 2 * n := by unfold zig; rw [if_pos (by omega)]; omega
theorem xor_zero (a : Nat) (h : a < 18446744073709551616) : bits BinOp.xor IntKind.u64 (a : Int) 0 = (a : Int) := by
  have := bits_xor_u64_nat a 0 h (by omega)
  simpa using this
theorem nat_xor_ones (a : Nat) (h : a < 2 ^ 64) : a ^^^ (2 ^ 64 - 1) = 2 ^ 64 - 1 - a := by
  apply Nat.eq_of_testBit_eq
  intro i
  rw [Nat.testBit_xor, Nat.testBit_two_pow_sub_one, show 2 ^ 64 - 1 - a = 2 ^ 64 - (a + 1) by omega, Nat.testBit_two_pow_sub_succ h]
  by_cases hi : i < 64
  · simp [hi]
  · simp [hi]
    exact Nat.testBit_lt_two_pow (Nat.lt_of_lt_of_le h (Nat.pow_le_pow_right (by omega) (by omega)))
theorem xor_ones (a : Nat) (h : a < 18446744073709551616) : bits BinOp.xor IntKind.u64 (a : Int) 18446744073709551615 = ((18446744073709551615 - a : Nat) : Int) := by
  have h1 := bits_xor_u64_nat a 18446744073709551615 h (by omega)
  have h2 := nat_xor_ones a h
  rw [show (2 : Nat) ^ 64 - 1 = 18446744073709551615 from rfl] at h2
  rw [h2] at h1
  exact h1
set_option maxRecDepth 100000 in
set_option maxHeartbeats 2000000 in
theorem wInt_pos (g n : Nat) (hn : n < 9223372036854775808) (bs : List UInt8) (bad : Bool) (L : List Nat) (w : World) (h : WAt w L g bs bad) (hl : bs.length ≤ 100000000) :
    Calls Try.prog 55 #[.pointer (some ⟨g, 0, none⟩), .int .i64 n] w (W1 w L g (bs ++ intB n) bad) := by
  unfold intB
  rw [zig_xor_pos n hn]
  obtain ⟨m, hm⟩ : ∃ m, m = 2 * n := ⟨_, rfl⟩
  rw [← hm]
  have HC := fun w h => Bx.mk (wput_any g m (by omega) bs bad L w h hl)
  have HW := Bx.mk h
  have f1 : IntKind.u64.wrap (n : Int) = (n : Int) := by rw [IntKind.wrap_u64]; omega
  have f2 : IntKind.u64.wrap ((n : Int) * 2) = (m : Int) := by rw [IntKind.wrap_u64]; omega
  have f3 : (n : Int) / 9223372036854775808 = 0 := by omega
  have f4 := xor_zero m (by omega)
  clear h hl hn hm
  go_enter Try.func55, Try.ntmps55
  go_wp2_with fail
  refine (HC _ HW.out).out.mono ?_
  rintro e w' ⟨rfl, hw'⟩
  go_wp2
  go_end0
  exact ⟨rfl, hw'⟩
set_option maxRecDepth 100000 in
set_option maxHeartbeats 2000000 in
theorem wInt_neg (g : Nat) (z : Int) (h1 : z < 0) (h2 : -9223372036854775808 ≤ z) (bs : List UInt8) (bad : Bool) (L : List Nat) (w : World) (h : WAt w L g bs bad) (hl : bs.length ≤ 100000000) :
    Calls Try.prog 55 #[.pointer (some ⟨g, 0, none⟩), .int .i64 z] w (W1 w L g (bs ++ intB z) bad) := by
  unfold intB
  obtain ⟨m, hm⟩ : ∃ m : Nat, (m : Int) = 18446744073709551616 + z := ⟨(18446744073709551616 + z).toNat, by omega⟩
  obtain ⟨k, hk⟩ : ∃ k : Nat, k = 2 * m % 18446744073709551616 := ⟨_, rfl⟩
  have hz : zig z = 18446744073709551615 - k := by unfold zig; rw [if_neg (by omega)]; omega
  rw [hz]
  have HC := fun w h => Bx.mk (wput_any g (18446744073709551615 - k) (by omega) bs bad L w h hl)
  have HW := Bx.mk h
  have f1 : IntKind.u64.wrap z = (m : Int) := by rw [IntKind.wrap_u64]; omega
  have f2 : IntKind.u64.wrap ((m : Int) * 2) = (k : Int) := by rw [IntKind.wrap_u64]; omega
  have f3 : z / 9223372036854775808 = -1 := by omega
  have f5 : IntKind.u64.wrap (-1) = 18446744073709551615 := by rw [IntKind.wrap_u64]; rfl
  have f4 := xor_ones k (by omega)
  clear h hl hz hm hk
  generalize 18446744073709551615 - k = r at *
  go_enter Try.func55, Try.ntmps55
  go_wp2_with fail
  refine (HC _ HW.out).out.mono ?_
  rintro e w' ⟨rfl, hw'⟩
  go_wp2
  go_end0
  exact ⟨rfl, hw'⟩
theorem wInt_any (g : Nat) (z : Int) (h1 : -9223372036854775808 ≤ z) (h2 : z ≤ 9223372036854775807) (bs : List UInt8) (bad : Bool) (L : List Nat) (w : World) (h : WAt w L g bs bad) (hl : bs.length ≤ 100000000) :
    Calls Try.prog 55 #[.pointer (some ⟨g, 0, none⟩), .int .i64 z] w (W1 w L g (bs ++ intB z) bad) := by
  by_cases h0 : z < 0
  · exact wInt_neg g z h0 h1 bs bad L w h hl
  · obtain ⟨n, rfl⟩ := Int.eq_ofNat_of_zero_le (show 0 ≤ z by omega)
    exact wInt_pos g n (by omega) bs bad L w h hl
set_option maxRecDepth 100000 in
set_option maxHeartbeats 2000000 in
theorem wFlag_any (g : Nat) (b : Bool) (bs : List UInt8) (bad : Bool) (L : List Nat) (w : World) (h : WAt w L g bs bad) (hl : bs.length ≤ 100000000) :
    Calls Try.prog 47 #[.pointer (some ⟨g, 0, none⟩), .bool b] w (W1 w L g (bs ++ flagB b) bad) := by
  obtain ⟨⟨v, h1, h2, h3⟩, h4, h5⟩ := h
  have H1 := Bx.mk h1; have H2 := Bx.mk h2; have H3 := Bx.mk h3; have H4 := Bx.mk h4; have HL := Bx.mk hl
  have c0 : w.cell? ⟨g, 0, none⟩ = some v := by rw [h1.cell]; rfl
  clear h1 h2 h3 h4 h5 hl
  cases b with
  | true =>
    have HS : ∀ W : World, Src Try.prog 1 32 (.slice (some ⟨W.heap.size, 0, none⟩) 1 1) 1 [bV 1] (W.alloc (.cells #[.int .u8 1] 5)) := fun W => Src.builtB 1
    go_enter Try.func47, Try.ntmps47
    go_wp2_with (refine wpList_appb rfl (.tmp 22) (.tmp 23) rfl rfl (H2.out.alloc _) _ rfl 1 [bV 1] (HS _) (by have := HL.out; omega) (by omega) ?_)
    intro v1 w1 ho1 hg1 hn1
    obtain ⟨a1, cp1, rfl⟩ := ho1.isSlice
    obtain ⟨b1, b2, b3⟩ := w_step (H1.out.alloc _) (H2.out.alloc _) hg1 ho1
    have hK2 := own_gr (fun k hk => Or.inl (H3.out k hk)) hn1 (show w.heap.size ≤ w.heap.size + 1 by omega)
    have hF2 := (((Fr.refl L w).alloc (.cells #[.int .u8 1] 5)).grown hg1 (fun k hk => Or.inl (H3.out k hk))).setCell (p := ⟨g, 0, none⟩) (.inl H4.out) (.slice a1 (bs.length + 1) cp1)
    have e1 : w1.frozen? ⟨g, 0, none⟩ = false := b1.frozen 0
    have e2 : w1.cell? ⟨g, 0, none⟩ = some v := by rw [b1.cell]; rfl
    have B2 := Bx.mk b2; have B3 := Bx.mk b3; have K2 := Bx.mk hK2; have F2 := Bx.mk hF2
    clear b1 b2 b3 hK2 hF2 ho1 hg1 hn1
    go_wp2
    go_end0
    exact ⟨rfl, _, WAt.make B2.out (by rw [List.length_append, List.map_append]; exact B3.out), F2.out, gr_make H4.out K2.out⟩
  | false =>
    have HS : ∀ W : World, Src Try.prog 1 32 (.slice (some ⟨W.heap.size, 0, none⟩) 1 1) 1 [bV 0] (W.alloc (.cells #[.int .u8 0] 5)) := fun W => Src.builtB 0
    go_enter Try.func47, Try.ntmps47
    go_wp2_with (refine wpList_appb rfl (.tmp 8) (.tmp 9) rfl rfl (H2.out.alloc _) _ rfl 1 [bV 0] (HS _) (by have := HL.out; omega) (by omega) ?_)
    intro v1 w1 ho1 hg1 hn1
    obtain ⟨a1, cp1, rfl⟩ := ho1.isSlice
    obtain ⟨b1, b2, b3⟩ := w_step (H1.out.alloc _) (H2.out.alloc _) hg1 ho1
    have hK2 := own_gr (fun k hk => Or.inl (H3.out k hk)) hn1 (show w.heap.size ≤ w.heap.size + 1 by omega)
    have hF2 := (((Fr.refl L w).alloc (.cells #[.int .u8 0] 5)).grown hg1 (fun k hk => Or.inl (H3.out k hk))).setCell (p := ⟨g, 0, none⟩) (.inl H4.out) (.slice a1 (bs.length + 1) cp1)
    have e1 : w1.frozen? ⟨g, 0, none⟩ = false := b1.frozen 0
    have e2 : w1.cell? ⟨g, 0, none⟩ = some v := by rw [b1.cell]; rfl
    have B2 := Bx.mk b2; have B3 := Bx.mk b3; have K2 := Bx.mk hK2; have F2 := Bx.mk hF2
    clear b1 b2 b3 hK2 hF2 ho1 hg1 hn1
    go_wp2
    go_end0
    exact ⟨rfl, _, WAt.make B2.out (by rw [List.length_append, List.map_append]; exact B3.out), F2.out, gr_make H4.out K2.out⟩
/-- The bytes of a slice, in blocks of M. -/
def In (w : World) (M : List Nat) (a : Option Addr) (bs : List UInt8) : Prop := RowAt w a (bs.map bV) ∧ ∀ ad, a = some ad → bs ≠ [] → ad.block ∈ M
theorem In.keep {w w' : World} {M : List Nat} {a : Option Addr} {bs : List UInt8} (h : In w M a bs) (hk : ∀ k ∈ M, w'.heap[k]? = w.heap[k]?) : In w' M a bs := by
  refine ⟨?_, h.2⟩
  rcases h.1 with h1 | ⟨b, off, rfl, h1⟩
  · exact .inl h1
  · by_cases hb : bs = []
    · exact .inl (by rw [hb]; rfl)
    · refine .inr ⟨b, off, rfl, fun i v hv => ?_⟩
      rw [← h1 i v hv]
      exact World.cell?_of_block (a := ⟨b, off + i, none⟩) (hk b (h.2 _ rfl hb))
theorem In.nil (w : World) (M : List Nat) : In w M none [] := ⟨.inl rfl, fun _ h => by cases h⟩
theorem In.src {w : World} {M : List Nat} {a : Option Addr} {bs : List UInt8} (h : In w M a bs) (c : Nat) : Src Try.prog 1 32 (.slice a bs.length c) bs.length (bs.map bV) w := by
  have := Src.ofRow (P := Try.prog) (tx := 32) (w := w) Try.underlying32 a c (bs.map bV) h.1 one_bV
  rwa [List.length_map] at this
set_option maxRecDepth 100000 in
set_option maxHeartbeats 2000000 in
theorem wText_any (g : Nat) (a : Option Addr) (c : Nat) (ts : List UInt8) (M : List Nat) (bs : List UInt8) (bad : Bool) (L : List Nat) (w : World) (h : WAt w L g bs bad) (ht : In w M a ts) (hM : Under M w.heap.size) (hap : Apart M L) (hl : bs.length ≤ 10000000) (htl : ts.length ≤ 10000000) :
    Calls Try.prog 49 #[.pointer (some ⟨g, 0, none⟩), .slice a ts.length c] w (W1 w L g (bs ++ textB ts) bad) := by
  have f1 : IntKind.u64.wrap (ts.length : Int) = (ts.length : Int) := by rw [IntKind.wrap_u64]; omega
  have HC := fun w h => Bx.mk (wput_any g ts.length (by omega) bs bad L w h (by omega))
  have HW := Bx.mk h; have HT := Bx.mk ht; have HM := Bx.mk hM; have HAP := Bx.mk hap; have HL := Bx.mk hl; have HTL := Bx.mk htl
  have H10 := Bx.mk (grp_len64 (u := ts.length) (by omega))
  clear h ht hM hap hl htl
  go_enter Try.func49, Try.ntmps49
  go_wp2_with fail
  refine (HC _ HW.out).out.mono ?_
  rintro e w' ⟨rfl, L1, hW1, hF1, hG1⟩
  have HT1 := Bx.mk (HT.out.keep (hF1.keep HAP.out HM.out))
  have HF1 := Bx.mk hF1; have HG1 := Bx.mk hG1
  obtain ⟨⟨v, h1, h2, h3⟩, h4, h5⟩ := hW1
  have H1 := Bx.mk h1; have H2 := Bx.mk h2; have H3 := Bx.mk h3; have H4 := Bx.mk h4; have H5 := Bx.mk h5
  have c0 : w'.cell? ⟨g, 0, none⟩ = some v := by rw [h1.cell]; rfl
  clear h1 h2 h3 h4 h5 hF1 hG1 HC
  go_wp2_with (refine wpList_appb rfl (.tmp 15) (.tmp 16) rfl rfl H2.out _ rfl ts.length (ts.map bV) (HT1.out.src c) (by have := HL.out; have := HTL.out; have := H10.out; simp only [List.length_append]; omega) (by omega) ?_)
  intro v1 w1 ho1 hg1 hn1
  obtain ⟨a1, cp1, rfl⟩ := ho1.isSlice
  obtain ⟨b1, b2, b3⟩ := w_step H1.out H2.out hg1 ho1
  have hK2 := own_gr (fun k hk => Or.inl (H3.out k hk)) hn1 (Nat.le_refl w'.heap.size)
  have hF2 := ((Fr.refl L1 w').grown hg1 (fun k hk => Or.inl (H3.out k hk))).setCell (p := ⟨g, 0, none⟩) (.inl H4.out) (.slice a1 (bs.length + (grp ts.length).length + ts.length) cp1)
  have e1 : w1.frozen? ⟨g, 0, none⟩ = false := b1.frozen 0
  have e2 : w1.cell? ⟨g, 0, none⟩ = some v := by rw [b1.cell]; rfl
  have B2 := Bx.mk b2; have B3 := Bx.mk b3; have K2 := Bx.mk hK2; have F2 := Bx.mk hF2
  clear b1 b2 b3 hK2 hF2 ho1 hg1 hn1
  go_wp2
  go_end0
  refine ⟨rfl, _, ?_, HF1.out.trans F2.out HG1.out, HG1.out.trans (gr_make H4.out K2.out) HF1.out.size⟩
  unfold textB
  rw [← List.append_assoc]
  exact WAt.make B2.out (by rw [List.length_append, List.length_append, List.map_append (l₂ := ts), List.map_append]; have := B3.out; rw [List.append_assoc]; exact this)
theorem In.ofOwn {w : World} {b : Nat} {a : Option Addr} {c : Nat} {xs : List UInt8} (h : Own w b 5 1 (.slice a xs.length c) xs.length (xs.map bV)) : In w (Value.ownBlock (.slice a xs.length c)).toList a xs := by
  refine ⟨h.row, fun ad had hne => ?_⟩
  rcases h.2 with ⟨he, h0⟩ | ⟨g, off, cap, cur, he, _⟩
  · exact absurd (List.eq_nil_of_length_eq_zero h0) hne
  · injection he with h1 h2 h3
    subst h1
    injection had with had
    subst had
    simp [Value.ownBlock]
end Go.Proofs.Ytkggnbabnfhcpaa
end
section
/- bytes.Clone, Bytes; the reference's bytes of numbers, walked. -/
namespace Go.Proofs.Ytkggnbabnfhcpaa
open Go.RowKit
set_option maxRecDepth 100000 in
set_option maxHeartbeats 2000000 in
theorem bClone_any (a : Option Addr) (c : Nat) (bs : List UInt8) (w : World) (h : RowAt w a (bs.map bV)) (hl : bs.length ≤ 100000000) :
    Calls Try.prog 62 #[.slice a bs.length c] w fun e w' => ∃ v, e = .returned v ∧ Own w' w.heap.size 5 1 v bs.length (bs.map bV) ∧ Below w.heap.size w w' := by
  have H := Bx.mk h; have HL := Bx.mk hl
  clear h hl
  cases a with
  | none =>
    have hb : bs = [] := by
      rcases H.out with h | ⟨b, off, h, _⟩
      · simpa using h
      · cases h
    subst hb
    have hnil := fun w => Lib.run_eql_slice_nil (P := Try.prog) w 32 5 none 0 c 0 0 Try.underlying32
    show Calls Try.prog 62 #[.slice none 0 c] w _
    go_enter Try.func62, Try.ntmps62
    go_wp2
    go_ret
    exact ⟨_, rfl, Own.nil _ _ _ _, Below.refl _ _⟩
  | some ad =>
    have hnil := fun w => Lib.run_eql_slice_nil (P := Try.prog) w 32 5 (some ad) bs.length c 0 0 Try.underlying32
    have hnn : (some ad).isNone = false := rfl
    go_enter Try.func62, Try.ntmps62
    go_wp2_with (refine wpList_appb rfl (.tmp 5) (.tmp 6) rfl rfl (Own.fresh0 (w := w) (Nat.le_refl _)) _ rfl bs.length (bs.map bV) ?hs ?hb ?hbase ?_)
    case hs =>
      have := Src.ofRow (P := Try.prog) (tx := 32) Try.underlying32 (some ad) c (bs.map bV) (H.out.alloc (.cells #[] 5)) one_bV
      rwa [List.length_map] at this
    case hb => have := HL.out; omega
    case hbase => simp
    intro v1 w1 ho1 hg1 hn1
    obtain ⟨a1, cp1, rfl⟩ := ho1.isSlice
    have hb := (Below_one (w := w) (.cells #[] 5)).grown hg1 (by simp) (fun g hg => by have h3 : w.heap.size = g := Option.some.inj hg; omega)
    have HB := Bx.mk hb; have HO := Bx.mk ho1
    clear hb ho1 hg1 hn1
    go_wp2
    go_ret
    exact ⟨_, rfl, HO.out, HB.out⟩
/-- What 'Bytes' tells of a writer. -/
def wErr (bad : Bool) : Int := if bad then 1 else 0
set_option maxRecDepth 100000 in
set_option maxHeartbeats 2000000 in
theorem wBytes_any (g : Nat) (bs : List UInt8) (bad : Bool) (L : List Nat) (w : World) (h : WAt w L g bs bad) (hl : bs.length ≤ 100000000) :
    Calls Try.prog 57 #[.pointer (some ⟨g, 0, none⟩)] w fun e w' => ∃ v, e = .returned (.tuple #[v, .int .i64 (wErr bad)]) ∧ Own w' w.heap.size 5 1 v bs.length (bs.map bV) ∧ Below w.heap.size w w' := by
  obtain ⟨⟨v, h1, h2, h3⟩, h4, h5⟩ := h
  obtain ⟨a, c, rfl⟩ := h2.isSlice
  have HR := Bx.mk h2.row
  have c0 : w.cell? ⟨g, 0, none⟩ = some (.slice a bs.length c) := by rw [h1.cell]; rfl
  have c1 : w.cell? ⟨g, 1, none⟩ = some (.bool bad) := by rw [h1.cell]; rfl
  have HL := Bx.mk hl
  clear h1 h2 h3 h4 h5 hl
  cases bad with
  | true =>
    go_enter Try.func57, Try.ntmps57
    go_wp2_with fail
    refine (bClone_any a c bs w HR.out HL.out).mono ?_
    rintro e w' ⟨v, rfl, ho, hb⟩
    have HO := Bx.mk ho; have HB := Bx.mk hb
    clear ho hb
    go_wp2
    go_ret2
    exact ⟨_, rfl, HO.out, HB.out⟩
  | false =>
    go_enter Try.func57, Try.ntmps57
    go_wp2_with fail
    refine (bClone_any a c bs w HR.out HL.out).mono ?_
    rintro e w' ⟨v, rfl, ho, hb⟩
    have HO := Bx.mk ho; have HB := Bx.mk hb
    clear ho hb
    go_wp2
    go_ret2
    exact ⟨_, rfl, HO.out, HB.out⟩
theorem wBytes_nil (w : World) : Calls Try.prog 57 #[.pointer none] w fun e w' => e = .returned (.tuple #[.slice none 0 0, .int .i64 1]) ∧ w' = w := by
  go_enter Try.func57, Try.ntmps57
  go_wp2
  go_ret2
  exact ⟨rfl, rfl⟩
theorem wText_nil (v : Value) (n c : Nat) (hv : v = .slice none n c) (w : World) : Calls Try.prog 49 #[.pointer none, v] w fun e w' => e = .returned (.tuple #[]) ∧ w' = w := by
  subst hv
  go_enter Try.func49, Try.ntmps49
  go_wp2
  go_end0
  exact ⟨rfl, rfl⟩
theorem strOf_app (a b : List UInt8) : strOf a ++ strOf b = strOf (a ++ b) := by
  apply ByteArray.ext
  rw [ByteArray.data_append]
  simp [strOf]
theorem add_str {P : Program} (W : World) (xs ys : List UInt8) (h : xs.length + ys.length ≤ 9000000000000000000) : (Op.stringOp .add (strOf xs) (strOf ys)).run P W = .ok (.string (strOf (xs ++ ys))) W := by
  rw [run_string_add_sum W _ _ (by rw [strOf_size, strOf_size]; omega), strOf_app]
set_option maxRecDepth 100000 in
set_option maxHeartbeats 2000000 in
theorem fOne_any (n : Nat) (h : n < 256) (w : World) : Calls Try.prog 79 #[.int .i64 n] w fun e w' => e = .returned (.string (strOf [UInt8.ofNat n])) ∧ Below w.heap.size w w' := by
  have hb := bV_nat n h
  have hc : ∀ w : World, (convert 32 9 (.slice (some ⟨w.heap.size, 0, none⟩) 1 1)).run Try.prog (w.alloc (.cells #[.int .u8 (n : Int)] 5)) = .ok (.string (strOf [UInt8.ofNat n])) (w.alloc (.cells #[.int .u8 (n : Int)] 5)) := fun w => by
    rw [← hb]
    exact conv_str 32 9 Try.underlying32 Try.underlying5 Try.underlying9 _ (some ⟨w.heap.size, 0, none⟩) 1 [UInt8.ofNat n] (RowAt.ofWhole (vs := [bV (UInt8.ofNat n)]) (al_new rfl))
  clear hb
  go_enter Try.func79, Try.ntmps79
  go_wp2
  go_ret
  exact ⟨rfl, Below_one _⟩
set_option maxRecDepth 100000 in
set_option maxHeartbeats 2000000 in
theorem fgroups_any (u : Nat) (hu : u < 18446744073709551616) (w : World) : Calls Try.prog 74 #[.int .u64 u] w fun e w' => e = .returned (.string (strOf (grp u))) ∧ Below w.heap.size w w' := by
  have HU := Bx.mk hu
  have H10 := Bx.mk (grp_len64 hu)
  clear hu
  go_enter Try.func74, Try.ntmps74
  go_wp2_with fail
  go_loopw [0,3,4,5,6,7,8,9,10,11,12,13,14] (fun t0 t3 _ _ _ _ _ _ _ _ _ _ _ wr => ∃ (x : Nat) (ys : List UInt8), t0 = .int .u64 x ∧ t3 = .string (strOf ys) ∧ x ≤ u ∧ Bx (ys ++ grp x = grp u) ∧ Bx (Below w.heap.size w wr)) (fun t0 _ _ _ _ _ _ _ _ _ _ _ _ _ => (intOf t0).toNat)
  case atStart => exact ⟨u, [], rfl, rfl, Nat.le_refl _, ⟨rfl⟩, ⟨Below.refl _ _⟩⟩
  case round =>
    obtain ⟨x, ys, rfl, rfl, hxu, hE, hB⟩ := hrel
    have hXU := Bx.mk hxu
    have hlen : ys.length ≤ 10 := by
      have := congrArg List.length hE.out; rw [List.length_append] at this; have := H10.out; omega
    have HLen := Bx.mk hlen
    clear hlen hxu
    by_cases hge : (127 : Int) < (x : Int)
    · have hG := grp_ge (u := x) (by omega)
      obtain ⟨y, hy⟩ : ∃ y, y = x % 128 + 128 := ⟨_, rfl⟩
      have f1 : (x : Int) % 128 + 128 = (y : Int) := by omega
      have f3 : (x : Int) / 128 = ((x / 128 : Nat) : Int) := by omega
      rw [← hy] at hG
      have HC := fun w => Bx.mk (fOne_any y (by omega) w)
      have HG := Bx.mk hG
      have hdec : x / 128 < x := by omega
      have hdec2 : x / 128 ≤ u := by have := hXU.out; omega
      have HD := Bx.mk hdec; have HD2 := Bx.mk hdec2
      clear hy hG hdec hdec2
      generalize x / 128 = x2 at *
      have f5 : wrap64 ((x : Int) % 128) = (x : Int) % 128 := by unfold wrap64; omega
      have f6 : IntKind.u64.wrap (x2 : Int) = (x2 : Int) := by rw [IntKind.wrap_u64]; have := HD2.out; have := HU.out; omega
      go_wp2_with fail
      refine (HC _).out.mono ?_
      rintro e w' ⟨rfl, hb⟩
      have HB2 := Bx.mk (hB.out.trans (hb.mono hB.out.size))
      clear hb
      have hap := fun W => add_str (P := Try.prog) W ys [UInt8.ofNat y] (by have := HLen.out; simp; omega)
      go_wp2
      go_roundw
      case rel => exact ⟨x2, ys ++ [UInt8.ofNat y], rfl, rfl, HD2.out, ⟨by rw [← hE.out, HG.out, List.append_assoc]; rfl⟩, HB2⟩
      case measure => have := HD.out; simp [intOf]; omega
    · have hG := grp_lt (u := x) (by omega)
      have HC := fun w => Bx.mk (fOne_any x (by omega) w)
      have HG := Bx.mk hG
      have f5 : wrap64 (x : Int) = (x : Int) := by unfold wrap64; omega
      clear hG
      go_wp2_with fail
      refine (HC _).out.mono ?_
      rintro e w' ⟨rfl, hb⟩
      have HB2 := Bx.mk (hB.out.trans (hb.mono hB.out.size))
      clear hb
      have hap := fun W => add_str (P := Try.prog) W ys [UInt8.ofNat x] (by have := HLen.out; simp; omega)
      go_wp2
      go_ret
      exact ⟨by rw [← hE.out, HG.out]; rfl, HB2.out⟩
theorem fUint_any (z : Int) (h2 : z ≤ 9223372036854775807) (w : World) : Calls Try.prog 58 #[.int .i64 z] w fun e w' => e = .returned (.string (strOf (uintB z))) ∧ Below w.heap.size w w' := by
  by_cases h0 : z < 0
  · rw [show uintB z = [] by unfold uintB; rw [if_pos h0]]
    clear h2
    go_enter Try.func58, Try.ntmps58
    go_wp2
    go_ret
    exact ⟨rfl, Below.refl _ _⟩
  · obtain ⟨n, rfl⟩ := Int.eq_ofNat_of_zero_le (show 0 ≤ z by omega)
    rw [show uintB (n : Int) = grp n by unfold uintB; rw [if_neg h0]; rfl]
    have f1 : IntKind.u64.wrap (n : Int) = (n : Int) := by rw [IntKind.wrap_u64]; omega
    have HC := fun w => Bx.mk (fgroups_any n (by omega) w)
    clear h2
    go_enter Try.func58, Try.ntmps58
    go_wp2_with fail
    refine (HC _).out.mono ?_
    rintro e w' ⟨rfl, hb⟩
    have HB := Bx.mk hb; clear hb
    go_wp2
    go_ret
    exact ⟨rfl, HB.out⟩
theorem fInt_any (z : Int) (h1 : -9223372036854775808 ≤ z) (h2 : z ≤ 9223372036854775807) (w : World) : Calls Try.prog 59 #[.int .i64 z] w fun e w' => e = .returned (.string (strOf (intB z))) ∧ Below w.heap.size w w' := by
  unfold intB
  have hz := zig_lt h1 h2
  obtain ⟨m, hm⟩ : ∃ m, m = zig z := ⟨_, rfl⟩
  rw [← hm]
  have HC := fun w => Bx.mk (fgroups_any m (by omega) w)
  by_cases h0 : 0 ≤ z
  · have hm2 : (m : Int) = 2 * z := by rw [hm]; unfold zig; rw [if_pos h0]; omega
    have f1 : IntKind.u64.wrap z = z := by rw [IntKind.wrap_u64]; omega
    have f2 : IntKind.u64.wrap (2 * z) = (m : Int) := by rw [IntKind.wrap_u64]; omega
    clear hm hm2 h1 h2 hz
    go_enter Try.func59, Try.ntmps59
    go_wp2_with fail
    refine (HC _).out.mono ?_
    rintro e w' ⟨rfl, hb⟩
    have HB := Bx.mk hb; clear hb
    go_wp2
    go_ret
    exact ⟨rfl, HB.out⟩
  · have hm2 : (m : Int) = 2 * (-z) - 1 := by rw [hm]; unfold zig; rw [if_neg h0]; omega
    obtain ⟨k, hk⟩ : ∃ k : Int, k = 18446744073709551616 + z := ⟨_, rfl⟩
    obtain ⟨j, hj⟩ : ∃ j : Int, j = -z := ⟨_, rfl⟩
    have f1 : IntKind.u64.wrap z = k := by rw [IntKind.wrap_u64]; omega
    have f3 : IntKind.u64.wrap (-k) = j := by rw [IntKind.wrap_u64]; omega
    obtain ⟨q, hq⟩ : ∃ q : Int, q = 2 * j % 18446744073709551616 := ⟨_, rfl⟩
    have f4 : IntKind.u64.wrap (2 * j) = q := by rw [IntKind.wrap_u64]; omega
    have f5 : IntKind.u64.wrap (q - 1) = (m : Int) := by rw [IntKind.wrap_u64]; omega
    clear hm hm2 h1 h2 hz hk hj hq
    go_enter Try.func59, Try.ntmps59
    go_wp2_with fail
    refine (HC _).out.mono ?_
    rintro e w' ⟨rfl, hb⟩
    have HB := Bx.mk hb; clear hb
    go_wp2
    go_ret
    exact ⟨rfl, HB.out⟩
theorem fFlag_any (b : Bool) (w : World) : Calls Try.prog 50 #[.bool b] w fun e w' => e = .returned (.string (strOf (flagB b))) ∧ w' = w := by
  cases b with
  | true =>
    go_enter Try.func50, Try.ntmps50
    go_wp2
    go_ret
    exact ⟨rfl, rfl⟩
  | false =>
    go_enter Try.func50, Try.ntmps50
    go_wp2
    go_ret
    exact ⟨rfl, rfl⟩
theorem fText_any (bs : List UInt8) (hl : bs.length ≤ 100000000) (w : World) : Calls Try.prog 31 #[.string (strOf bs)] w fun e w' => e = .returned (.string (strOf (textB bs))) ∧ Below w.heap.size w w' := by
  have hs := strOf_size bs
  have HC := fun w => Bx.mk (fUint_any bs.length (by omega) w)
  have hu : uintB (bs.length : Int) = grp bs.length := by unfold uintB; rw [if_neg (by omega)]; rfl
  rw [hu] at HC
  have hap := fun W => add_str (P := Try.prog) W (grp bs.length) bs (by have := grp_len64 (u := bs.length) (by omega); omega)
  clear hu hl
  go_enter Try.func31, Try.ntmps31
  go_wp2_with fail
  refine (HC _).out.mono ?_
  rintro e w' ⟨rfl, hb⟩
  have HB := Bx.mk hb; clear hb
  go_wp2
  go_ret
  exact ⟨rfl, HB.out⟩
end Go.Proofs.Ytkggnbabnfhcpaa
end
section
/- Arguments as the walks want them: bytes, rows of bytes. No program in sight. -/
namespace Go.Proofs.Ytkggnbabnfhcpaa
open Go.RowKit Go.ChangeShapes
variable {H : Type} {enc : TypeId × Value → H} {P : Program} {W : World}
theorem addr_plain {w : World} {a : Addr} {v : Value} (h : w.cell? (a.add 0) = some v) : a = ⟨a.block, a.off, none⟩ := by
  have h0 : a.add 0 = a := by unfold Addr.add; rfl
  rw [h0] at h
  unfold World.cell? at h
  split at h
  · split at h
    · cases h
    · rename_i hs
      obtain ⟨b, o, s⟩ := a
      cases s with
      | none => rfl
      | some x => simp at hs
  · cases h
def ofI (zs : List Int) : List UInt8 := zs.map fun z => UInt8.ofNat z.toNat
theorem bV_ofI {z : Int} (h : (Lit.int .u8 z).wf = true) : bV (UInt8.ofNat z.toNat) = .int .u8 z := by
  have hz : 0 ≤ z ∧ z < 256 := by
    have e1 : IntKind.u8.min = 0 := rfl
    have e2 : IntKind.u8.max = 255 := rfl
    simp [Lit.wf] at h
    omega
  unfold bV
  rw [UInt8.toNat_ofNat', Nat.mod_eq_of_lt (by omega)]
  congr 1
  omega
theorem row_of_cells {a : Addr} {zs : List Int} {len : Nat} (hl : len ≤ zs.length) (hc : ∀ i, i < zs.length → W.cell? (a.add i) = some (.int .u8 (zs.getD i 0))) (hw : ∀ n ∈ zs, (Lit.int .u8 n).wf = true) : (ofI (zs.take len)).length = len ∧ RowAt W (some a) ((ofI (zs.take len)).map bV) := by
  refine ⟨by simp [ofI]; omega, ?_⟩
  cases hz : zs with
  | nil => exact .inl (by simp [ofI])
  | cons z0 r =>
    rw [← hz]
    have h0 := hc 0 (by rw [hz]; simp)
    have ha := addr_plain h0
    refine .inr ⟨a.block, a.off, by rw [← ha], fun i v hv => ?_⟩
    rw [List.getElem?_map, ofI, List.getElem?_map, List.getElem?_take] at hv
    split at hv
    · rcases hq : zs[i]? with _ | z
      · rw [hq] at hv; cases hv
      · rw [hq] at hv
        simp only [Option.map_some, Option.some.injEq] at hv
        have hi : i < zs.length := (List.getElem?_eq_some_iff.1 hq).1
        have h1 := hc i hi
        rw [ha, Addr.add_lit, List.getD_eq_getElem?_getD, hq] at h1
        rw [← hv, bV_ofI (hw z (List.mem_of_getElem? hq))]
        exact h1
    · cases hv
theorem open_bytes {t e : TypeId} {v : Value} {d : DataW H} {p : List MemPlace} (ht : P.underlying t = some (.slice e)) (he : P.underlying e = some (.int .u8)) (hc : P.cellsOf e = 1)
    (hv : ∃ a l c, v = .slice a l c) (h : DataW.Trod enc P W 0 (fun _ => true) true t v d p) : ∃ (bs : List UInt8) (a : Option Addr) (c : Nat), v = .slice a bs.length c ∧ bs.length ≤ c ∧ c ≤ maxLen ∧ RowAt W a (bs.map bV) := by
  obtain ⟨a, l, c, rfl⟩ := hv
  obtain ⟨fuel, hf⟩ := h
  rcases open_ints ht he hc hf with ⟨hcs, _⟩ | ⟨x, l', c', zs, hcs, _, hl, hm, hz, _, hcell, hwz⟩
  · simp [Value.cells] at hcs
    obtain ⟨rfl, rfl, rfl⟩ := hcs
    exact ⟨[], none, 0, rfl, Nat.le_refl _, by decide, .inl rfl⟩
  · simp [Value.cells] at hcs
    obtain ⟨rfl, rfl, rfl⟩ := hcs
    simp only [if_true] at hz
    obtain ⟨h1, h2⟩ := row_of_cells (len := l) (by omega) hcell hwz
    exact ⟨ofI (zs.take l), some x, c, by rw [h1], by rw [h1]; exact hl, hm, h2⟩
theorem open_parts {t e q : TypeId} {v : Value} {d : DataW H} {p : List MemPlace} (ht : P.underlying t = some (.slice e)) (he : P.underlying e = some (.slice q)) (hq : P.underlying q = some (.int .u8)) (ce : P.cellsOf e = 1) (cq : P.cellsOf q = 1)
    (hv : ∃ a l c, v = .slice a l c) (h : DataW.Trod enc P W 0 (fun _ => true) true t v d p) : ∃ (ps : List (List UInt8)) (a : Option Addr) (c : Nat), v = .slice a ps.length c ∧ ps.length ≤ c ∧ c ≤ maxLen ∧ PartsAt W a ps := by
  obtain ⟨a, l, c, rfl⟩ := hv
  obtain ⟨fuel, hf⟩ := h
  rcases Deep.open_int_rows ht he hq ce cq hf with ⟨hcs, _⟩ | ⟨x, l', c', A, L, C, Z, hcs, _, hl, hm, _, hrow⟩
  · simp [Value.cells] at hcs
    obtain ⟨rfl, rfl, rfl⟩ := hcs
    exact ⟨[], none, 0, rfl, Nat.le_refl _, by decide, .nil⟩
  · simp [Value.cells] at hcs
    obtain ⟨rfl, rfl, rfl⟩ := hcs
    have each : ∀ r, r < c → (ofI ((Z r).take (L r))).length = L r ∧ RowAt W (A r) ((ofI ((Z r).take (L r))).map bV) := fun r hr => by
      obtain ⟨_, h2, _, h4, h5, h6, h7⟩ := hrow r hr
      cases hA : A r with
      | none =>
        have hC := h6 hA
        have hL : L r = 0 := by omega
        rw [hL]
        exact ⟨by simp [ofI], .inl (by simp [ofI])⟩
      | some a' => exact row_of_cells (by omega) (fun i hi => (h7 a' hA).2 i (by omega)) h5
    let ps : List (List UInt8) := (List.range l).map fun r => ofI ((Z r).take (L r))
    let vs : List (Option Addr × Nat) := (List.range l).map fun r => (A r, C r)
    have hps : ps.length = l := by simp [ps]
    refine ⟨ps, some x, c, by rw [hps], by rw [hps]; exact hl, hm, vs, ?_, by simp [ps, vs], ?_⟩
    · by_cases h0 : l = 0
      · exact .inl (by rw [List.map_eq_nil_iff]; simp [ps, vs, h0])
      · have ha := addr_plain (hrow 0 (by omega)).1
        refine .inr ⟨x.block, x.off, by rw [← ha], fun i v hv => ?_⟩
        rw [List.getElem?_map] at hv
        rcases hz : (vs.zip ps)[i]? with _ | ⟨v1, p1⟩
        · rw [hz] at hv; cases hv
        · rw [hz] at hv
          simp only [Option.map_some, Option.some.injEq] at hv
          rw [List.getElem?_zip_eq_some] at hz
          obtain ⟨z1, z2⟩ := hz
          have hi : i < l := by
            have := (List.getElem?_eq_some_iff.1 z2).1
            omega
          simp only [vs, ps, List.getElem?_map, List.getElem?_range hi, Option.map_some, Option.some.injEq] at z1 z2
          rw [← hv, ← z1, ← z2, (each i (by omega)).1]
          have h1 := (hrow i (by omega)).1
          rw [ha, Addr.add_lit] at h1
          exact h1
    · intro v1 p1 hm1
      obtain ⟨i, hi⟩ := List.getElem?_of_mem hm1
      rw [List.getElem?_zip_eq_some] at hi
      obtain ⟨z1, z2⟩ := hi
      have hi : i < l := by
        have := (List.getElem?_eq_some_iff.1 z2).1
        omega
      simp only [vs, ps, List.getElem?_map, List.getElem?_range hi, Option.map_some, Option.some.injEq] at z1 z2
      obtain ⟨_, h2, h3, _⟩ := hrow i (by omega)
      rw [← z1, ← z2, (each i (by omega)).1]
      exact ⟨(each i (by omega)).2, h2, Nat.le_trans h2 h3⟩
theorem int_nat {z : Int} (h : 0 ≤ z) : ∃ n : Nat, z = (n : Int) := ⟨z.toNat, by omega⟩
theorem u32_nat {z : Int} (h : (Lit.int .u32 z).wf = true) : ∃ n : Nat, z = (n : Int) ∧ n < 4294967296 := by
  have hz : 0 ≤ z ∧ z < 4294967296 := by
    have e1 : IntKind.u32.min = 0 := rfl
    have e2 : IntKind.u32.max = 4294967295 := rfl
    simp [Lit.wf] at h
    omega
  exact ⟨z.toNat, by omega, by omega⟩
theorem i64_range {z : Int} (h : (Lit.int .i64 z).wf = true) : -9223372036854775808 ≤ z ∧ z ≤ 9223372036854775807 := by
  have e1 : IntKind.i64.min = -9223372036854775808 := rfl
  have e2 : IntKind.i64.max = 9223372036854775807 := rfl
  simp [Lit.wf] at h
  omega
end Go.Proofs.Ytkggnbabnfhcpaa
end
section
/- Data that came in, opened by their shape. No program in sight. -/
namespace Go.Proofs.Ytkggnbabnfhcpaa
open Go.RowKit Go.WideShapes Go.ChangeShapes
/-- What a type looks like; a struct's fields one behind the other: offset, cells, shape. -/
inductive Sh where
  | int (k : IntKind)
  | bool
  | str
  | slice (e : Sh) (n : Nat)
  | arr (len : Nat) (e : Sh) (n : Nat)
  | agg (fs : Sh)
  | fnil
  | fcons (off n : Nat) (f r : Sh)
mutual
def fitsB (P : Program) : Sh → TypeId → Bool
  | .int k, t => match P.underlying t with | some (.int k') => k == k' | _ => false
  | .bool, t => match P.underlying t with | some .bool => true | _ => false
  | .str, t => match P.underlying t with | some .string => true | _ => false
  | .slice e n, t => match P.underlying t with | some (.slice et) => P.cellsOf et == n && fitsB P e et | _ => false
  | .arr len e n, t => match P.underlying t with | some (.array l et) => l == len && P.cellsOf et == n && fitsB P e et | _ => false
  | .agg fs, t => match P.underlying t with | some (.struct fl) => fitsF P fs fl 0 | _ => false
  | .fnil, _ => false
  | .fcons _ _ _ _, _ => false
def fitsF (P : Program) : Sh → Array Field → Nat → Bool
  | .fnil, _, _ => true
  | .fcons off n f r, fl, i => (match fl[i]? with | some fd => fd.offset == off && P.cellsOf fd.type == n && fitsB P f fd.type | none => false) && fitsF P r fl (i + 1)
  | _, _, _ => false
end
/-- What the cells of a shape hold, in a world. -/
def Sh.Has (w : World) : Sh → List Value → Prop
  | .int k, cs => ∃ z, cs = [.int k z] ∧ (Lit.int k z).wf = true
  | .bool, cs => ∃ b, cs = [.bool b]
  | .str, cs => ∃ s : ByteArray, cs = [.string s] ∧ s.size ≤ maxLen
  | .slice e n, cs => cs = [.slice none 0 0] ∨ ∃ a len cap, cs = [.slice (some a) len cap] ∧ len ≤ cap ∧ cap ≤ maxLen ∧ ∀ i, i < len → ∃ cs', (cs'.length = n ∧ ∀ j, j < n → w.cell? (a.add (i * n + j)) = cs'[j]?) ∧ e.Has w cs'
  | .arr len e n, cs => ∀ i, i < len → e.Has w ((cs.drop (i * n)).take n)
  | .agg fs, cs => fs.Has w cs
  | .fnil, _ => True
  | .fcons off n f r, cs => f.Has w ((cs.drop off).take n) ∧ r.Has w cs
section
variable {H : Type} {enc : TypeId × Value → H} {P : Program} {W : World}
mutual
theorem has_of (sh : Sh) : ∀ (t : TypeId) (fuel : Nat) (cs : List Value) (x : DataW H × List MemPlace), fitsB P sh t = true → DataW.trod enc P W 0 (fun _ => true) true fuel t cs = some x → sh.Has W cs := by
  intro t fuel cs x hf h
  cases sh with
  | int k =>
    simp only [fitsB] at hf
    split at hf
    · rename_i k' hu
      have : k = k' := eq_of_beq hf
      subst this
      obtain ⟨n, h1, _, h2⟩ := DataW.trod_int hu h
      exact ⟨n, h1, h2⟩
    · cases hf
  | bool =>
    simp only [fitsB] at hf
    split at hf
    · rename_i hu
      obtain ⟨b, h1, _⟩ := DataW.trod_bool hu h
      exact ⟨b, h1⟩
    · cases hf
  | str =>
    simp only [fitsB] at hf
    split at hf
    · rename_i hu
      obtain ⟨s, h1, _, h2⟩ := DataW.trod_string hu h
      exact ⟨s, h1, h2⟩
    · cases hf
  | slice e n =>
    simp only [fitsB] at hf
    split at hf
    · rename_i et hu
      rw [Bool.and_eq_true] at hf
      have hn : P.cellsOf et = n := eq_of_beq hf.1
      rcases Deep.open_slice hu h with ⟨h1, _⟩ | ⟨a, len, cap, m, nf, D, Pl, h1, _, hl, hm, hmm, _, hall⟩
      · exact .inl h1
      · refine .inr ⟨a, len, cap, h1, hl, hm, fun i hi => ?_⟩
        simp only [if_true] at hmm
        obtain ⟨cs', hc, ht⟩ := hall i (by omega)
        rw [hn] at hc
        obtain ⟨_, c1, c2⟩ := World.cells?_some hc
        refine ⟨cs', ⟨c1, fun j hj => ?_⟩, has_of e et _ _ _ hf.2 ht⟩
        rw [← c2 j hj, Addr.add_add]
    · cases hf
  | arr len e n =>
    simp only [fitsB] at hf
    split at hf
    · rename_i l et hu
      rw [Bool.and_eq_true, Bool.and_eq_true] at hf
      have hl : l = len := eq_of_beq hf.1.1
      have hn : P.cellsOf et = n := eq_of_beq hf.1.2
      subst hl
      obtain ⟨xs, m, _, _, _, hxl, hall⟩ := DataW.trod_array hu h
      intro i hi
      have := hall i hi
      rw [hn] at this
      rw [List.getElem?_eq_getElem (by omega)] at this
      exact has_of e et _ _ _ hf.2 this
    · cases hf
  | agg fs =>
    simp only [fitsB] at hf
    split at hf
    · rename_i fl hu
      obtain ⟨xs, n, _, _, _, hxl, hall⟩ := DataW.trod_struct hu h
      exact hasF_of fs fl 0 n cs xs hf hxl hall
    · cases hf
  | fnil => simp [fitsB] at hf
  | fcons off n f r => simp [fitsB] at hf
theorem hasF_of (sh : Sh) : ∀ (fl : Array Field) (i n : Nat) (cs : List Value) (xs : List (DataW H × List MemPlace)), fitsF P sh fl i = true → xs.length = fl.size →
    (∀ (i : Nat) (f : Field), fl[i]? = some f → DataW.trod enc P W 0 (fun _ => true) true n f.type ((cs.drop f.offset).take (P.cellsOf f.type)) = xs[i]?) → sh.Has W cs := by
  intro fl i n cs xs hf hl hall
  cases sh with
  | fnil => trivial
  | fcons off m f r =>
    simp only [fitsF, Bool.and_eq_true] at hf
    obtain ⟨h1, h2⟩ := hf
    refine ⟨?_, hasF_of r fl (i + 1) n cs xs h2 hl hall⟩
    split at h1
    · rename_i fd hfd
      rw [Bool.and_eq_true, Bool.and_eq_true] at h1
      have ho : fd.offset = off := eq_of_beq h1.1.1
      have hm : P.cellsOf fd.type = m := eq_of_beq h1.1.2
      have ht := hall i fd hfd
      have hi : i < xs.length := by rw [hl]; exact (Array.getElem?_eq_some_iff.1 hfd).1
      rw [List.getElem?_eq_getElem hi, ho, hm] at ht
      exact has_of f fd.type _ _ _ h1.2 ht
    · cases h1
  | int k => simp [fitsF] at hf
  | bool => simp [fitsF] at hf
  | str => simp [fitsF] at hf
  | slice e n => simp [fitsF] at hf
  | arr l e n => simp [fitsF] at hf
  | agg fs => simp [fitsF] at hf
end
theorem open_sh {sh : Sh} {t : TypeId} {v : Value} {d : DataW H} {p : List MemPlace} (hf : fitsB P sh t = true) (h : DataW.Trod enc P W 0 (fun _ => true) true t v d p) : sh.Has W v.cells.toList := by
  obtain ⟨fuel, hf'⟩ := h
  exact has_of sh t fuel _ _ hf hf'
end
theorem exists_list {α : Type} {p : Nat → α → Prop} : ∀ (n : Nat), (∀ i, i < n → ∃ x, p i x) → ∃ l : List α, l.length = n ∧ ∀ i x, l[i]? = some x → p i x := by
  intro n
  induction n with
  | zero => intro _; exact ⟨[], rfl, fun i x h => by cases h⟩
  | succ n ih =>
    intro h
    obtain ⟨l, hl, hp⟩ := ih fun i hi => h i (by omega)
    obtain ⟨x, hx⟩ := h n (by omega)
    refine ⟨l ++ [x], by simp [hl], fun i y hy => ?_⟩
    by_cases hi : i < l.length
    · rw [List.getElem?_append_left hi] at hy; exact hp i y hy
    · rw [List.getElem?_append_right (by omega)] at hy
      have h0 : i - l.length = 0 := by
        have := (List.getElem?_eq_some_iff.1 hy).1; simp at this; omega
      rw [h0] at hy
      simp at hy
      subst hy
      rw [show i = n by omega]; exact hx
/-- Where a slice's elements lie. -/
theorem slice_addr {w : World} {a : Addr} {v : Value} (h : w.cell? (a.add 0) = some v) : a = ⟨a.block, a.off, none⟩ := addr_plain h
def shBytes : Sh := .slice (.int .u8) 1
theorem has_bytes {w : World} {cs : List Value} (h : shBytes.Has w cs) : ∃ (bs : List UInt8) (a : Option Addr) (c : Nat), cs = [.slice a bs.length c] ∧ bs.length ≤ c ∧ c ≤ maxLen ∧ RowAt w a (bs.map bV) := by
  rcases h with rfl | ⟨a, len, cap, rfl, hl, hm, hall⟩
  · exact ⟨[], none, 0, rfl, Nat.le_refl _, by decide, .inl rfl⟩
  · obtain ⟨zs, hz, hp⟩ := exists_list (p := fun i z => w.cell? (a.add i) = some (.int .u8 z) ∧ (Lit.int .u8 z).wf = true) len (fun i hi => by
      obtain ⟨cs', ⟨h1, h2⟩, z, rfl, hw⟩ := hall i hi
      have := h2 0 (by omega)
      simp at this
      exact ⟨z, this, hw⟩)
    obtain ⟨h1, h2⟩ := row_of_cells (W := w) (a := a) (zs := zs) (len := len) (by omega) (fun i hi => by
      have := (hp i zs[i] (List.getElem?_eq_getElem hi)).1
      rw [this]; congr 2; simp [List.getD, List.getElem?_eq_getElem hi]) (fun n hn => by
      obtain ⟨i, hi⟩ := List.getElem?_of_mem hn
      exact (hp i n hi).2)
    exact ⟨ofI (zs.take len), some a, cap, by rw [h1], by rw [h1]; exact hl, hm, h2⟩
theorem has_int {w : World} {k : IntKind} {cs : List Value} (h : (Sh.int k).Has w cs) : ∃ z, cs = [.int k z] ∧ (Lit.int k z).wf = true := h
end Go.Proofs.Ytkggnbabnfhcpaa
end
section
/- Small words for using printed conditions. No program in sight. -/
namespace Go.Proofs.Ytkggnbabnfhcpaa
open Go.RowKit
theorem keepG_nil (w w1 : World) : KeepG [] w w1 := fun _ g hg => by cases hg
theorem keepG_below {gs : List Nat} {w w1 : World} (h : Below w.heap.size w w1) : KeepG gs w w1 := fun hu g hg => h.block g (hu g hg)
theorem keepG_fr {gs L : List Nat} {w w1 : World} (h : Fr L w w1) (ha : ∀ g ∈ gs, g ∉ L) : KeepG gs w w1 := fun hu g hg => h.block g (hu g hg) (ha g hg)
/-- A call whose contract tells one value. -/
theorem wr64 {z : Int} (h1 : -9223372036854775808 ≤ z) (h2 : z ≤ 9223372036854775807) : IntKind.i64.wrap z = z := IntWalk.i64_in z ⟨h1, h2⟩
theorem wru64 {z : Int} (h1 : 0 ≤ z) (h2 : z ≤ 18446744073709551615) : IntKind.u64.wrap z = z := by rw [IntKind.wrap_u64]; omega
theorem wru8 {z : Int} (h1 : 0 ≤ z) (h2 : z ≤ 255) : IntKind.u8.wrap z = z := by rw [IntKind.wrap_u8]; omega
theorem u64_mod (z : Int) (k : Nat) (hk : 0 < k) : ∃ m : Nat, m < k ∧ Int.tmod (IntKind.u64.wrap z) (k : Int) = (m : Int) := by
  have h0 : 0 ≤ IntKind.u64.wrap z := by rw [IntKind.wrap_u64]; omega
  have h1 := Int.emod_nonneg (IntKind.u64.wrap z) (show (k : Int) ≠ 0 by omega)
  have h2 := Int.emod_lt_of_pos (IntKind.u64.wrap z) (show (0 : Int) < (k : Int) by omega)
  exact ⟨(IntKind.u64.wrap z % (k : Int)).toNat, by omega, by rw [Int.tmod_eq_emod_of_nonneg h0]; omega⟩
theorem br_t {b : Bool} {A B : Prop} (hb : b = true) (h : A) : br b A B := by rw [br_true hb]; exact h
theorem br_f {b : Bool} {A B : Prop} (hb : b = false) (h : B) : br b A B := by rw [br_false hb]; exact h
theorem br_y {p : Prop} [Decidable p] {A B : Prop} (hp : p) (h : A) : br (decide p) A B := br_t (decide_eq_true hp) h
theorem br_n {p : Prop} [Decidable p] {A B : Prop} (hp : ¬ p) (h : B) : br (decide p) A B := br_f (decide_eq_false hp) h
theorem br_not {b : Bool} {A B : Prop} (h : br b B A) : br (!b) A B := by cases b <;> exact h
/-- A new block. -/
theorem newO_mk {w : World} {o : Obj} {K : Nat → World → Prop} (h : K w.heap.size (w.alloc o)) : newO w o K := by rintro g w1 rfl rfl; exact h
theorem newO_in {w : World} {o : Obj} {K : Nat → World → Prop} (h : ∀ w1, w1.heap[w.heap.size]? = some o → Below w.heap.size w w1 → w1.heap.size = w.heap.size + 1 → K w.heap.size w1) : newO w o K := by
  rintro g w1 rfl rfl; exact h _ (al_new rfl) (Below_one o) (by simp)
theorem drewO_in {w : World} {K : World → Prop} (h : ∀ w1, Below w.heap.size w w1 → w1.heap = w.heap → K w1) : drewO w K := fun w1 h1 h2 => h w1 h2 h1
theorem cellsAt_row {w : World} {g : Nat} {cs : Array Value} {t : TypeId} {fr : Nat × Nat} (h : w.heap[g]? = some (.cells cs t fr)) {off : Nat} {vs : List Value} (hv : (cs.toList.drop off).take vs.length = vs) : cellsAt w g off vs :=
  cellsAt_of fun j v hj => by
    rw [cell_of_row _ _ _ _ _ _ h]
    rw [← hv, List.getElem?_take] at hj
    split at hj
    · rw [List.getElem?_drop] at hj; simpa using hj
    · cases hj
theorem row_of_block {w : World} {g : Nat} {bs : List UInt8} {t : TypeId} {fr : Nat × Nat} (h : w.heap[g]? = some (.cells (bs.map bV).toArray t fr)) : RowAt w (some ⟨g, 0, none⟩) (bs.map bV) := RowAt.ofWhole h
/-- A block's cells, as what is appended. -/
theorem src_block {P : Program} {W : World} {tx e' : TypeId} (hk : P.underlying tx = some (.slice e')) {g n c size : Nat} {cs : List Value} {t : TypeId} {fr : Nat × Nat} (h : W.heap[g]? = some (.cells cs.toArray t fr)) (hl : cs.length = n * size) (h1 : allOne cs = true) :
    Src P size tx (.slice (some ⟨g, 0, none⟩) n c) n cs W :=
  Src.ofSlice _ hk _ n c _ hl (fun j u hj => by
    rw [Addr.add_lit, Nat.zero_add, cell_of_row _ _ _ _ _ _ h]
    simpa using hj) (allOne_spec h1)
theorem own_cell {w : World} {b : Nat} {e : TypeId} {a : Option Addr} {n c : Nat} {xs : List Value} (h : Own w b e 1 (.slice a n c) n xs) {i : Nat} {v : Value} (hi : xs[i]? = some v) : ∃ g off, a = some ⟨g, off, none⟩ ∧ w.cell? ⟨g, off + i * 1, none⟩ = some v := by
  have hlt : i < xs.length := (List.getElem?_eq_some_iff.1 hi).1
  have hl := h.1
  rcases h.2 with ⟨h0, h1⟩ | ⟨g, off, cap, cur, hv, _⟩
  · omega
  · injection hv with h1 h2 h3
    subst h1
    exact ⟨g, off, rfl, by rw [Nat.mul_one]; exact h.cells g off _ rfl i v hi⟩
theorem Bk.there {w : World} {g : Nat} {cs : Array Value} {t : TypeId} (h : Bk w g cs t) {i n : Nat} (hi : i + n ≤ cs.size) : w.there g i n := fun j hj => by
  refine ⟨?_, h.frozen _⟩
  rw [h.cell]
  rw [Array.getElem?_eq_getElem (by omega)]
  rfl
theorem stO_bk {gs : List Nat} {w : World} {g i : Nat} {cs : Array Value} {t : TypeId} {v : Value} {K : World → Prop} (h : Bk w g cs t) (hi : i < cs.size) (hg : ∀ x ∈ gs, x ≠ g) (hk : ∀ w1, Bk w1 g (cs.setIfInBounds i v) t → Fr [g] w w1 → w1.heap.size = w.heap.size → K w1) : stO gs w g i [v] K :=
  ⟨hg, h.there (by simp; omega), fun w1 e => by
    subst e
    exact hk _ (h.setCell i v) ((Fr.refl [g] w).setCell (p := ⟨g, i, none⟩) (.inl (by simp)) v) (by simp [World.setCells, World.setCell])⟩
theorem stO_set {gs : List Nat} {w : World} {g i : Nat} {cs : Array Value} {t : TypeId} {v : Value} {K : World → Prop} (h : Bk w g cs t) (hi : i < cs.size) (hg : ∀ x ∈ gs, x ≠ g) (hk : K (w.setCell ⟨g, i, none⟩ v)) : stO gs w g i [v] K :=
  ⟨hg, h.there (by simp; omega), fun w1 e => by subst e; exact hk⟩
theorem sliceBase_cell {w : World} {b off c l s j : Nat} {v : Value} (hlt : l ≠ c) (h : w.cell? ⟨b, off + l * s + j, none⟩ = some v) : ∃ b' off', sliceBase (some ⟨b, off, none⟩) c l s = some ⟨b', off', none⟩ ∧ w.cell? ⟨b', off' + j, none⟩ = some v := by
  refine ⟨b, off + l * s, ?_, h⟩
  unfold sliceBase
  rw [if_neg (fun e => hlt e.symm)]
  simp [Addr.add_lit]
theorem own_empty {w : World} {g : Nat} {e : TypeId} (s : Nat) (h : w.heap[g]? = some (.cells #[] e (0, 0))) : Own w 0 e s (.slice (some ⟨g, 0, none⟩) 0 0) 0 [] :=
  ⟨by simp, .inr ⟨g, 0, 0, #[], rfl, Nat.zero_le _, h, Nat.le_refl _, Nat.zero_le _, by simp, by simp⟩⟩
theorem Own.store {w : World} {b : Nat} {e : TypeId} {a : Option Addr} {n c : Nat} {xs : List Value} (h : Own w b e 1 (.slice a n c) n xs) {i : Nat} (hi : i < n) {gs : List Nat} {v : Value} {K : World → Prop} (hgs : ∀ k, (Value.slice a n c).ownBlock = some k → ∀ x ∈ gs, x ≠ k)
    (hk : ∀ w1, Own w1 b e 1 (.slice a n c) n (xs.set i v) → Fr (Value.slice a n c).ownBlock.toList w w1 → w1.heap.size = w.heap.size → K w1) : ∃ g off, a = some ⟨g, off, none⟩ ∧ stO gs w g (off + i * 1) [v] K := by
  rcases h.2 with ⟨h0, h1⟩ | ⟨g, off, cap, cur, hv, hb, hg, hn, hm, hs, ht⟩
  · omega
  · injection hv with h1 h2 h3
    subst h1; subst h3
    have hB : Bk w g cur e := hg
    refine ⟨g, off, rfl, ?_⟩
    rw [Nat.mul_one]
    refine stO_bk hB (by omega) (fun x hx => hgs g rfl x hx) fun w1 hb1 hf hsz => ?_
    refine hk w1 ⟨by rw [List.length_set]; exact h.1, .inr ⟨g, off, c, _, rfl, hb, hb1, hn, hm, by simpa using hs, ?_⟩⟩ hf hsz
    rw [← ht, Array.toList_setIfInBounds, List.drop_set]
    rw [if_neg (by omega), show off + i - off = i by omega, List.take_set]
theorem Own.storeAt {w : World} {b : Nat} {e : TypeId} {g off n c : Nat} {xs : List Value} (h : Own w b e 1 (.slice (some ⟨g, off, none⟩) n c) n xs) {i : Nat} (hi : i < n) {gs : List Nat} {v : Value} {K : World → Prop} (hgs : ∀ x ∈ gs, x ≠ g)
    (hk : ∀ w1, Own w1 b e 1 (.slice (some ⟨g, off, none⟩) n c) n (xs.set i v) → Fr [g] w w1 → w1.heap.size = w.heap.size → K w1) : stO gs w g (off + i * 1) [v] K := by
  obtain ⟨g', off', he, hst⟩ := Own.store (K := K) (v := v) h hi (fun k hk x hx => by injection hk with hk; subst hk; exact hgs x hx) hk
  injection he with he
  injection he with e1 e2
  subst e1; subst e2
  exact hst
/-- One byte more or other. -/
theorem bits_byte (op : BinOp) (x y : Int) : ∃ b : UInt8, bitsV op .u8 x y = (b.toNat : Int) := by
  have key : ∀ z : Int, ∃ b : UInt8, IntKind.u8.wrap z = (b.toNat : Int) := fun z => by
    have h : 0 ≤ IntKind.u8.wrap z ∧ IntKind.u8.wrap z < 256 := by rw [IntKind.wrap_u8]; omega
    refine ⟨UInt8.ofNat (IntKind.u8.wrap z).toNat, ?_⟩
    rw [show (UInt8.ofNat (IntKind.u8.wrap z).toNat).toNat = (IntKind.u8.wrap z).toNat % 256 from rfl, Nat.mod_eq_of_lt (by omega)]
    omega
  unfold bitsV
  cases op <;> exact key _
theorem strOf_cat (xs ys : List UInt8) : strOf xs ++ strOf ys = strOf (xs ++ ys) := by
  apply ByteArray.ext
  simp [strOf, ByteArray.data_append]
theorem strOf_extract (xs : List UInt8) (i j : Nat) : (strOf xs).extract i j = strOf ((xs.drop i).take (j - i)) := by
  apply ByteArray.ext
  simp [strOf, ByteArray.data_extract, List.take_drop]
theorem byteAt_strOf (xs : List UInt8) (i : Nat) : byteAt (strOf xs) (i : Int) = ((xs.getD i 0).toNat : Int) := by unfold byteAt; rw [strOf_list]; rfl
end Go.Proofs.Ytkggnbabnfhcpaa
end
section
/- Slices of structs that came in: their elements, one behind the other. No program in sight. -/
namespace Go.Proofs.Ytkggnbabnfhcpaa
open Go.RowKit Go.WideShapes Go.ChangeShapes
/-- Elements of n cells each, of which R tells where they lie. -/
def RowsAt {α : Type} (R : World → Nat → Nat → α → Prop) (n : Nat) (w : World) (a : Option Addr) (xs : List α) : Prop := xs = [] ∨ ∃ b off, a = some ⟨b, off, none⟩ ∧ ∀ i x, xs[i]? = some x → R w b (off + i * n) x
theorem RowsAt.mono {α : Type} {R : World → Nat → Nat → α → Prop} {n : Nat} {w w' : World} {a : Option Addr} {xs : List α} (h : RowsAt R n w a xs) (hm : ∀ b off x, R w b off x → R w' b off x) : RowsAt R n w' a xs := by
  rcases h with h | ⟨b, off, ha, h⟩
  · exact .inl h
  · exact .inr ⟨b, off, ha, fun i x hx => hm _ _ _ (h i x hx)⟩
theorem RowsAt.get {α : Type} {R : World → Nat → Nat → α → Prop} {n : Nat} {w : World} {a : Option Addr} {xs : List α} (h : RowsAt R n w a xs) {i : Nat} (hi : i < xs.length) : ∃ b off, a = some ⟨b, off, none⟩ ∧ R w b (off + i * n) xs[i] := by
  rcases h with rfl | ⟨b, off, ha, h⟩
  · simp at hi
  · exact ⟨b, off, ha, h i _ (List.getElem?_eq_getElem hi)⟩
theorem has_rows {α : Type} {e : Sh} {n : Nat} (hn : 0 < n) {R : World → Nat → Nat → α → Prop} {w : World} (elem : ∀ (cs' : List Value) (b off : Nat), cs'.length = n → cellsAt w b off cs' → e.Has w cs' → ∃ x, R w b off x) {cs : List Value} (h : (Sh.slice e n).Has w cs) :
    ∃ (xs : List α) (a : Option Addr) (c : Nat), cs = [.slice a xs.length c] ∧ xs.length ≤ c ∧ c ≤ maxLen ∧ RowsAt R n w a xs := by
  rcases h with rfl | ⟨a, len, cap, rfl, hl, hm, hall⟩
  · exact ⟨[], none, 0, rfl, Nat.le_refl _, by decide, .inl rfl⟩
  · obtain ⟨xs, hz, hp⟩ := exists_list (p := fun i (x : α) => R w a.block (a.off + i * n) x ∧ a = ⟨a.block, a.off, none⟩) len (fun i hi => by
      obtain ⟨cs0, ⟨h01, h02⟩, _⟩ := hall 0 (by omega)
      have ha : a = ⟨a.block, a.off, none⟩ := by
        have := h02 0 (by omega)
        rw [List.getElem?_eq_getElem (by omega)] at this
        simp only [Nat.zero_mul, Nat.zero_add] at this
        exact addr_plain this
      obtain ⟨cs', ⟨h1, h2⟩, h3⟩ := hall i hi
      obtain ⟨x, hx⟩ := elem cs' a.block (a.off + i * n) h1 (cellsAt_of fun j v hj => by
        have hjn : j < n := by have := (List.getElem?_eq_some_iff.1 hj).1; omega
        have := h2 j hjn
        rw [ha, Addr.add_lit, ← Nat.add_assoc, hj] at this
        exact this) h3
      exact ⟨x, hx, ha⟩)
    refine ⟨xs, some a, cap, by rw [hz], by omega, hm, ?_⟩
    by_cases h0 : xs = []
    · exact .inl h0
    · have h1 : 0 < xs.length := List.length_pos_iff.2 h0
      have ha := (hp 0 _ (List.getElem?_eq_getElem h1)).2
      exact .inr ⟨a.block, a.off, by rw [← ha], fun i p hi => (hp i p hi).1⟩
theorem cellsAt_below {w w' : World} {b off : Nat} {vs : List Value} (h : cellsAt w b off vs) {B : Nat} (hb : Below B w w') (hB : w.heap.size ≤ B) : cellsAt w' b off vs :=
  cellsAt_of fun j v hj => by
    have h1 := cellsAt_get h j v hj
    exact (hb.cell (p := ⟨b, off + j, none⟩) (Nat.lt_of_lt_of_le (block_lt_of_cell h1) hB)).trans h1
theorem open_rows {P : Program} {α : Type} {e : Sh} {n : Nat} {R : World → Nat → Nat → α → Prop} {H : Type} {enc : TypeId × Value → H} {W : World} {t : TypeId} {v : Value} {d : DataW H} {p : List MemPlace} (hn : 0 < n) (elem : ∀ (cs' : List Value) (b off : Nat), cs'.length = n → cellsAt W b off cs' → e.Has W cs' → ∃ x, R W b off x)
    (hf : fitsB P (.slice e n) t = true) (hv : ∃ a l c, v = .slice a l c) (h : DataW.Trod enc P W 0 (fun _ => true) true t v d p) : ∃ (xs : List α) (a : Option Addr) (c : Nat), v = .slice a xs.length c ∧ RowsAt R n W a xs ∧ xs.length ≤ c ∧ c ≤ maxLen := by
  obtain ⟨a, l, c, rfl⟩ := hv
  obtain ⟨xs, a', c', h1, h2, h3, h4⟩ := has_rows hn elem (open_sh hf h)
  simp [Value.cells] at h1
  obtain ⟨rfl, rfl, rfl⟩ := h1
  exact ⟨xs, a, c, rfl, h4, h2, h3⟩
end Go.Proofs.Ytkggnbabnfhcpaa
end
section
/- An object with a list of its own: each element so many cells, what an element refers to in blocks that the object owns. No program in sight. -/
namespace Go.Proofs.Ytkggnbabnfhcpaa
open Go.RowKit
theorem cell_keep {w w' : World} {b : Nat} (hk : w'.heap[b]? = w.heap[b]?) (o : Nat) : w'.cell? ⟨b, o, none⟩ = w.cell? ⟨b, o, none⟩ := by unfold World.cell?; simp only [hk]
theorem cellsAt_keep {w w' : World} {b : Nat} (hk : w'.heap[b]? = w.heap[b]?) : ∀ {vs : List Value} {off : Nat}, cellsAt w b off vs → cellsAt w' b off vs
  | [], _, _ => trivial
  | _ :: _, _, h => ⟨(cell_keep hk _).trans h.1, cellsAt_keep hk h.2⟩
theorem cellsAt_list {w : World} {b : Nat} : ∀ {vs : List Value} {off : Nat}, (∀ j v, vs[j]? = some v → w.cell? ⟨b, off + j, none⟩ = some v) → cellsAt w b off vs
  | [], _, _ => trivial
  | v :: r, off, h => ⟨by simpa using h 0 v rfl, cellsAt_list fun j u hu => by have := h (j + 1) u (by simpa using hu); rwa [show off + (j + 1) = off + 1 + j by omega] at this⟩
structure RStable {α : Type} (R : World → List Nat → α → List Value → Prop) (k : Nat) : Prop where
  len : ∀ {w : World} {M : List Nat} {e : α} {cs : List Value}, R w M e cs → cs.length = k
  keep : ∀ {w w' : World} {M : List Nat} {e : α} {cs : List Value}, R w M e cs → (∀ b ∈ M, w'.heap[b]? = w.heap[b]?) → R w' M e cs
  mono : ∀ {w : World} {M K : List Nat} {e : α} {cs : List Value}, R w M e cs → (∀ b ∈ M, b ∈ K) → R w K e cs
def ElsOk {α : Type} (R : World → List Nat → α → List Value → Prop) (k : Nat) (w : World) (M : List Nat) (es : List α) (xs : List Value) : Prop :=
  xs.length = es.length * k ∧ ∀ (i : Nat) (e : α), es[i]? = some e → R w M e ((xs.drop (i * k)).take k)
section
variable {α : Type} {R : World → List Nat → α → List Value → Prop} {k : Nat} {w w' : World} {M K : List Nat} {es : List α} {xs : List Value}
theorem ElsOk.nil : ElsOk R k w M [] [] := ⟨by simp, fun i e h => by cases h⟩
theorem ElsOk.keep (hR : RStable R k) (h : ElsOk R k w M es xs) (hk : ∀ b ∈ M, w'.heap[b]? = w.heap[b]?) : ElsOk R k w' M es xs := ⟨h.1, fun i e he => hR.keep (h.2 i e he) hk⟩
theorem ElsOk.mono (hR : RStable R k) (h : ElsOk R k w M es xs) (hs : ∀ b ∈ M, b ∈ K) : ElsOk R k w K es xs := ⟨h.1, fun i e he => hR.mono (h.2 i e he) hs⟩
theorem ElsOk.app (hR : RStable R k) (h : ElsOk R k w M es xs) {e : α} {cs : List Value} (he : R w M e cs) : ElsOk R k w M (es ++ [e]) (xs ++ cs) := by
  have hc := hR.len he
  refine ⟨by rw [List.length_append, List.length_append, h.1, hc, List.length_singleton, Nat.add_mul, Nat.one_mul], fun i x hx => ?_⟩
  by_cases hi : i < es.length
  · rw [List.getElem?_append_left hi] at hx
    have := h.2 i x hx
    have hm : i * k + k ≤ xs.length := by
      rw [h.1]
      have := Nat.mul_le_mul_right k (show i + 1 ≤ es.length from hi)
      rw [Nat.add_mul, Nat.one_mul] at this
      exact this
    rwa [List.drop_append_of_le_length (by omega), List.take_append_of_le_length (by rw [List.length_drop]; omega)]
  · have hlt := (List.getElem?_eq_some_iff.1 hx).1
    rw [List.length_append, List.length_singleton] at hlt
    obtain rfl : i = es.length := by omega
    rw [List.getElem?_append_right (Nat.le_refl _), Nat.sub_self] at hx
    injection hx with hx; subst hx
    rw [← h.1, List.drop_left, List.take_of_length_le (by omega)]
    exact he
theorem ElsOk.erase (h : ElsOk R k w M es xs) {i : Nat} (hi : i < es.length) : ElsOk R k w M (es.eraseIdx i) (xs.take (i * k) ++ xs.drop ((i + 1) * k)) := by
  have e1 : (i + 1) * k = i * k + k := by rw [Nat.add_mul, Nat.one_mul]
  have e2 : (es.length - 1) * k + k = es.length * k := by
    rw [← Nat.add_one_mul]; congr 1; omega
  have hm : i * k + k ≤ xs.length := by
    rw [h.1]
    have := Nat.mul_le_mul_right k (show i + 1 ≤ es.length from hi)
    omega
  have hxl := h.1
  refine ⟨by rw [List.length_append, List.length_take, List.length_drop, List.length_eraseIdx_of_lt hi]; omega, fun j x hx => ?_⟩
  rw [List.getElem?_eraseIdx] at hx
  split at hx
  · rename_i hj
    have := h.2 j x hx
    have hjk : j * k + k ≤ i * k := by
      have := Nat.mul_le_mul_right k (show j + 1 ≤ i from hj)
      rw [Nat.add_mul, Nat.one_mul] at this; exact this
    rw [List.drop_append_of_le_length (by rw [List.length_take]; omega), List.take_append_of_le_length (by rw [List.length_drop, List.length_take]; omega), List.drop_take, List.take_take]
    rwa [Nat.min_eq_left (by omega)]
  · rename_i hj
    have := h.2 (j + 1) x hx
    have hjk : i * k ≤ j * k := Nat.mul_le_mul_right k (by omega)
    have e3 : (j + 1) * k = j * k + k := by rw [Nat.add_mul, Nat.one_mul]
    have hlt : (xs.take (i * k)).length = i * k := by rw [List.length_take]; omega
    rw [List.drop_append, hlt, List.drop_eq_nil_of_le (by omega), List.nil_append, List.drop_drop]
    rwa [show (i + 1) * k + (j * k - i * k) = (j + 1) * k by omega]
theorem ElsOk.cells (hR : RStable R k) (h : ElsOk R k w M es xs) {te : TypeId} {b0 c : Nat} {a : Option Addr} (hO : Own w b0 te k (.slice a es.length c) es.length xs) {i : Nat} {e : α} (he : es[i]? = some e) :
    ∃ cs, R w M e cs ∧ ∃ b off, a = some ⟨b, off, none⟩ ∧ (b0 ≤ b ∧ b < w.heap.size) ∧ cellsAt w b (off + i * k) cs := by
  have hr := h.2 i e he
  refine ⟨_, hr, ?_⟩
  have hlt := (List.getElem?_eq_some_iff.1 he).1
  rcases hO.2 with ⟨_, h0⟩ | ⟨g, off, cap, cur, hv, hb, hg, _⟩
  · omega
  · injection hv with q1 q2 q3
    subst q1
    refine ⟨g, off, rfl, ⟨hb, heap_lt hg⟩, cellsAt_list fun j v hv => ?_⟩
    rw [List.getElem?_take] at hv
    split at hv
    · rw [List.getElem?_drop] at hv
      rw [Nat.add_assoc]
      exact hO.cells g off c rfl _ v hv
    · cases hv
/-- The object under way: what it owns lies in L, or is new. -/
structure LRaw (R : World → List Nat → α → List Value → Prop) (k : Nat) (te tp : TypeId) (w : World) (L : List Nat) (n0 p : Nat) (f : Value → Array Value) (es : List α) (kv : Value) (xs : List Value) (M : List Nat) : Prop where
  bk : Bk w p (f kv) tp
  own : Own w 0 te k kv es.length xs
  els : ElsOk R k w M es xs
  far : ∀ b ∈ M, (b ∈ L ∨ n0 ≤ b) ∧ b ≠ p ∧ kv.ownBlock ≠ some b
  mine : ∀ b, kv.ownBlock = some b → b ∈ L ∨ n0 ≤ b
  under : Under M w.heap.size
variable {te tp : TypeId} {L : List Nat} {n0 p : Nat} {f : Value → Array Value} {kv : Value}
theorem own_apart {g : Nat} {cs : Array Value} {t e : TypeId} {size n b0 : Nat} {v : Value} {xs : List Value} (h1 : Bk w g cs t) (h2 : Own w b0 e size v n xs) (hne : t ≠ e) : v.ownBlock ≠ some g := by
  intro h
  rcases h2.2 with ⟨rfl, _⟩ | ⟨g', off, cap, cur, rfl, hb, hg, _⟩
  · cases h
  · simp [Value.ownBlock] at h
    subst h
    unfold Bk at h1
    rw [h1] at hg
    injection hg with hg
    injection hg with h3 h4 h5
    exact hne h4
theorem LRaw.keep (hR : RStable R k) (h : LRaw R k te tp w L n0 p f es kv xs M) (hk : ∀ b, (b = p ∨ kv.ownBlock = some b ∨ b ∈ M) → w'.heap[b]? = w.heap[b]?) (hs : w.heap.size ≤ w'.heap.size) : LRaw R k te tp w' L n0 p f es kv xs M :=
  ⟨h.bk.keep (hk p (.inl rfl)), h.own.keep fun b hb => hk b (.inr (.inl hb)), h.els.keep hR fun b hb => hk b (.inr (.inr hb)), h.far, h.mine, h.under.mono hs⟩
theorem LRaw.lt (h : LRaw R k te tp w L n0 p f es kv xs M) {b : Nat} (hb : b = p ∨ kv.ownBlock = some b ∨ b ∈ M) : b < w.heap.size := by
  rcases hb with rfl | hb | hb
  · exact h.bk.lt
  · exact (h.own.lt b hb).2
  · exact h.under b hb
theorem LRaw.below (hR : RStable R k) (h : LRaw R k te tp w L n0 p f es kv xs M) (hb : Below w.heap.size w w') : LRaw R k te tp w' L n0 p f es kv xs M := h.keep hR (fun b hb' => hb.block b (h.lt hb')) hb.size
theorem LRaw.more (hR : RStable R k) (h : LRaw R k te tp w L n0 p f es kv xs M) (B : List Nat) (hB : ∀ b ∈ B, (b ∈ L ∨ n0 ≤ b) ∧ b < w.heap.size ∧ b ≠ p ∧ kv.ownBlock ≠ some b) : LRaw R k te tp w L n0 p f es kv xs (M ++ B) :=
  ⟨h.bk, h.own, h.els.mono hR fun _ hk => List.mem_append_left _ hk, fun b hb => (List.mem_append.1 hb).elim (h.far b) fun hb => ⟨(hB b hb).1, (hB b hb).2.2⟩, h.mine, fun b hb => (List.mem_append.1 hb).elim (h.under b) fun hb => (hB b hb).2.1⟩
theorem LRaw.wider (h : LRaw R k te tp w L n0 p f es kv xs M) (hs : ∀ b ∈ L, b ∈ K) : LRaw R k te tp w K n0 p f es kv xs M :=
  ⟨h.bk, h.own, h.els, fun b hb => ⟨(h.far b hb).1.imp (hs b) id, (h.far b hb).2⟩, fun b hb => (h.mine b hb).imp (hs b) id, h.under⟩
/-- The list has turned, and is stored: appended to, cut, or new. -/
theorem LRaw.turn (hR : RStable R k) (hne : tp ≠ te) (h : LRaw R k te tp w L n0 p f es kv xs M) (hn : n0 ≤ w.heap.size) {es' : List α} {xs' : List Value} (he : ElsOk R k w M es' xs') {v1 : Value} (ho : Own w' 0 te k v1 es'.length xs') (hp : w'.heap[p]? = w.heap[p]?) (hM : ∀ b ∈ M, w'.heap[b]? = w.heap[b]?) (hs : w.heap.size ≤ w'.heap.size)
    (hn1 : v1.ownBlock = kv.ownBlock ∨ ∃ g, v1.ownBlock = some g ∧ w.heap.size ≤ g) {j : Nat} (hj : (f kv).setIfInBounds j v1 = f v1) : LRaw R k te tp (w'.setCell ⟨p, j, none⟩ v1) L n0 p f es' v1 xs' M := by
  have b1 := h.bk.keep hp
  have hk1 : ∀ b, b ≠ p → (w'.setCell ⟨p, j, none⟩ v1).heap[b]? = w'.heap[b]? := fun b hb => Below.heap_setCell _ _ _ _ hb
  have hfar : ∀ b ∈ M, v1.ownBlock ≠ some b := fun b hb e => by
    rcases hn1 with h1 | ⟨g, h1, hg1⟩
    · exact (h.far b hb).2.2 (h1 ▸ e)
    · rw [h1] at e; injection e with e; have := h.under b hb; omega
  refine ⟨hj ▸ b1.setCell j v1, ho.keep fun b hb => hk1 b fun e2 => own_apart b1 ho hne (e2 ▸ hb), (he.keep hR hM).keep hR fun b hb => hk1 b (h.far b hb).2.1, fun b hb => ⟨(h.far b hb).1, (h.far b hb).2.1, hfar b hb⟩, fun b hb => ?_, (h.under.mono hs).mono (by simp)⟩
  rcases hn1 with h1 | ⟨g, h1, hg1⟩
  · exact h.mine b (h1 ▸ hb)
  · rw [h1] at hb; injection hb with hb; exact .inr (by omega)
/-- Another cell of the object is stored. -/
theorem LRaw.cell (hR : RStable R k) (hne : tp ≠ te) (h : LRaw R k te tp w L n0 p f es kv xs M) {j : Nat} {v : Value} {f' : Value → Array Value} (hj : (f kv).setIfInBounds j v = f' kv) : LRaw R k te tp (w.setCell ⟨p, j, none⟩ v) L n0 p f' es kv xs M := by
  have hk1 : ∀ b, b ≠ p → (w.setCell ⟨p, j, none⟩ v).heap[b]? = w.heap[b]? := fun b hb => Below.heap_setCell _ _ _ _ hb
  exact ⟨hj ▸ h.bk.setCell j v, h.own.keep fun b hb => hk1 b fun e2 => own_apart h.bk h.own hne (e2 ▸ hb), h.els.keep hR fun b hb => hk1 b (h.far b hb).2.1, h.far, h.mine, h.under.mono (by simp)⟩
/-- The object, with all that it owns. -/
structure LAt (R : World → List Nat → α → List Value → Prop) (k : Nat) (te tp : TypeId) (w : World) (L : List Nat) (p : Nat) (f : Value → Array Value) (es : List α) : Prop where
  ex : ∃ kv xs M, Bk w p (f kv) tp ∧ Own w 0 te k kv es.length xs ∧ ElsOk R k w M es xs ∧ (∀ b ∈ M, b ∈ L ∧ b ≠ p ∧ kv.ownBlock ≠ some b) ∧ ∀ b, kv.ownBlock = some b → b ∈ L
  mem : p ∈ L
  under : Under L w.heap.size
theorem LAt.raw (h : LAt R k te tp w L p f es) (n0 : Nat) : ∃ kv xs M, LRaw R k te tp w L n0 p f es kv xs M := by
  obtain ⟨⟨kv, xs, M, h1, h2, h3, h4, h5⟩, hm, hu⟩ := h
  exact ⟨kv, xs, M, h1, h2, h3, fun b hb => ⟨.inl (h4 b hb).1, (h4 b hb).2⟩, fun b hb => .inl (h5 b hb), fun b hb => hu b (h4 b hb).1⟩
theorem LRaw.at (h : LRaw R k te tp w L n0 p f es kv xs M) (hp : p ∈ L) : ∃ L', LAt R k te tp w L' p f es ∧ Gr L L' n0 := by
  refine ⟨p :: (kv.ownBlock.toList ++ M), ⟨⟨kv, xs, M, h.bk, h.own, h.els, fun b hb => ⟨by simp [hb], (h.far b hb).2⟩, fun b hb => by simp [hb]⟩, by simp, fun b hb => ?_⟩, fun b hb => ?_⟩
  · rcases List.mem_cons.1 hb with rfl | hb
    · exact h.bk.lt
    · rcases List.mem_append.1 hb with hb | hb
      · exact (h.own.lt b (by simpa using hb)).2
      · exact h.under b hb
  · rcases List.mem_cons.1 hb with rfl | hb
    · exact .inl hp
    · rcases List.mem_append.1 hb with hb | hb
      · exact h.mine b (by simpa using hb)
      · exact (h.far b hb).1
theorem LAt.keep (hR : RStable R k) (h : LAt R k te tp w L p f es) (hk : ∀ b ∈ L, w'.heap[b]? = w.heap[b]?) (hs : w.heap.size ≤ w'.heap.size) : LAt R k te tp w' L p f es := by
  obtain ⟨⟨kv, xs, M, h1, h2, h3, h4, h5⟩, hm, hu⟩ := h
  exact ⟨⟨kv, xs, M, h1.keep (hk p hm), h2.keep (fun b e => hk b (h5 b e)), h3.keep hR (fun b e => hk b (h4 b e).1), h4, h5⟩, hm, hu.mono hs⟩
theorem LAt.fr (hR : RStable R k) (h : LAt R k te tp w L p f es) (hf : Fr K w w') (ha : Apart L K) : LAt R k te tp w' L p f es := h.keep hR (hf.keep ha h.under) hf.size
theorem LAt.below (hR : RStable R k) (h : LAt R k te tp w L p f es) (hb : Below w.heap.size w w') : LAt R k te tp w' L p f es := h.keep hR (fun b hk => hb.block b (h.under b hk)) hb.size
end
end Go.Proofs.Ytkggnbabnfhcpaa
end
section
/- One element less: what 'slices.Delete' does to a list that is owned. No program in sight. -/
namespace Go.Proofs.Ytkggnbabnfhcpaa
open Go.RowKit
variable {P : Program} {w : World} {b : Nat} {e : TypeId} {k : Nat} {xs : List Value}
theorem Own.pre {a : Option Addr} {n c i : Nat} (h : Own w b e k (.slice a n c) n xs) (hi : i ≤ n) : Own w b e k (.slice a i c) i (xs.take (i * k)) := by
  obtain ⟨hl, h⟩ := h
  have hm : i * k ≤ n * k := Nat.mul_le_mul_right k hi
  refine ⟨by rw [List.length_take]; omega, ?_⟩
  rcases h with ⟨h0, h1⟩ | ⟨g, off, cap, cur, hv, hb, hg, hn, hm2, hs, ht⟩
  · injection h0 with q1 q2 q3
    subst q1; subst q3
    obtain rfl : i = 0 := by omega
    exact .inl ⟨rfl, rfl⟩
  · injection hv with q1 q2 q3
    subst q1; subst q3
    refine .inr ⟨g, off, c, cur, rfl, hb, hg, by omega, hm2, hs, ?_⟩
    rw [← ht, List.take_take, Nat.min_eq_left hm]
theorem own_somewhere {a : Option Addr} {n c : Nat} (h : Own w b e k (.slice a n c) n xs) (hn : 0 < n) : ∃ g off, a = some ⟨g, off, none⟩ ∧ n ≤ c := by
  rcases h.2 with ⟨_, h0⟩ | ⟨g, off, cap, cur, hv, _, _, hc, _⟩
  · omega
  · injection hv with q1 q2 q3
    subst q1; subst q3
    exact ⟨g, off, rfl, hc⟩
theorem Own.tail {a : Option Addr} {n c i : Nat} (h : Own w b e k (.slice a n c) n xs) (hi : i < n) {tx e' : TypeId} (hk : P.underlying tx = some (.slice e')) (h1 : ∀ v ∈ xs, v.oneCell' = true) :
    Src P k tx (.slice (sliceBase a c (i + 1) k) (n - (i + 1)) (c - (i + 1))) (n - (i + 1)) (xs.drop ((i + 1) * k)) w := by
  obtain ⟨g, off, rfl, hc⟩ := own_somewhere h (by omega)
  have hx := h.1
  have e1 : (n - (i + 1)) * k + (i + 1) * k = n * k := by rw [← Nat.add_mul]; congr 1; omega
  have hl : (xs.drop ((i + 1) * k)).length = (n - (i + 1)) * k := by rw [List.length_drop]; omega
  have h1' : ∀ v ∈ xs.drop ((i + 1) * k), v.oneCell' = true := fun v hv => h1 v (List.mem_of_mem_drop hv)
  unfold sliceBase
  split
  · rename_i hce
    have h0 : n - (i + 1) = 0 := by omega
    have hd : xs.drop ((i + 1) * k) = [] := List.eq_nil_of_length_eq_zero (by rw [hl, h0, Nat.zero_mul])
    rw [hd] at hl h1' ⊢
    exact Src.ofSlice w hk _ _ _ _ hl (fun j u hu => by cases hu) h1'
  · refine Src.ofSlice w hk _ _ _ _ hl (fun j u hu => ?_) h1'
    rw [List.getElem?_drop] at hu
    have := h.cells g off c rfl _ u hu
    show w.cell? (((⟨g, off, none⟩ : Addr).add ((i + 1) * k)).add j) = some u
    rw [Addr.add_lit, Addr.add_lit, Nat.add_assoc]
    exact this
theorem own_beyond1 {g off n c j : Nat} (h : Own w b e k (.slice (some ⟨g, off, none⟩) n c) n xs) (hj : n * k ≤ j) (hc : j < c * k) (v : Value) :
    (w.cell? ⟨g, off + j, none⟩).isSome = true ∧ w.frozen? ⟨g, off + j, none⟩ = false ∧ Own (w.setCell ⟨g, off + j, none⟩ v) b e k (.slice (some ⟨g, off, none⟩) n c) n xs := by
  obtain ⟨hl, h⟩ := h
  rcases h with ⟨h0, h1⟩ | ⟨g', off', cap, cur, hv, hb, hg, hn, hm2, hs, ht⟩
  · cases h0
  · injection hv with q1 q2 q3
    injection q1 with q1
    injection q1 with q1 q4
    subst q1; subst q3; subst q4
    have hB : Bk w g cur e := hg
    refine ⟨?_, hB.frozen _, hl, .inr ⟨g, off, c, _, rfl, hb, hB.setCell (off + j) v, hn, hm2, by simpa using hs, ?_⟩⟩
    · rw [hB.cell, Array.getElem?_eq_getElem (by omega)]; rfl
    · rw [← ht, Array.toList_setIfInBounds, List.drop_set]
      rw [if_neg (by omega), show off + j - off = j by omega, List.take_set, List.set_eq_of_length_le (by rw [List.length_take]; omega)]
theorem own_beyond {g off n c : Nat} : ∀ (vs : List Value) (j : Nat) (w : World), Own w b e k (.slice (some ⟨g, off, none⟩) n c) n xs → n * k ≤ j → j + vs.length ≤ c * k →
    w.there g (off + j) vs.length ∧ Own (w.setCells g (off + j) vs) b e k (.slice (some ⟨g, off, none⟩) n c) n xs ∧ Fr [g] w (w.setCells g (off + j) vs) ∧ (w.setCells g (off + j) vs).heap.size = w.heap.size
  | [], j, w, h, _, _ => ⟨fun i hi => by simp at hi, h, Fr.refl _ _, rfl⟩
  | v :: r, j, w, h, hj, hc => by
    rw [List.length_cons] at hc
    obtain ⟨h1, h2, h3⟩ := own_beyond1 h hj (by omega) v
    obtain ⟨k1, k2, k3, k4⟩ := own_beyond r (j + 1) _ h3 (by omega) (by omega)
    rw [← Nat.add_assoc] at k1 k2 k3 k4
    refine ⟨fun i hi => ?_, k2, ((Fr.refl [g] w).setCell (p := ⟨g, off + j, none⟩) (.inl (by simp)) v).trans k3 (Gr.refl _ _), k4.trans (by simp)⟩
    rw [List.length_cons] at hi
    refine ⟨?_, ?_⟩
    · obtain ⟨a1, a2, _⟩ := own_beyond1 h (j := j + i) (by omega) (by omega) v
      rw [Nat.add_assoc]; exact a1
    · obtain ⟨a1, a2, _⟩ := own_beyond1 h (j := j + i) (by omega) (by omega) v
      rw [Nat.add_assoc]; exact a2
theorem els_one {α : Type} {R : World → List Nat → α → List Value → Prop} {M : List Nat} {es : List α} (h : ElsOk R k w M es xs) (hR : ∀ w M e cs, R w M e cs → ∀ v ∈ cs, v.oneCell' = true) : ∀ v ∈ xs, v.oneCell' = true := by
  intro v hv
  obtain ⟨j, hj⟩ := List.getElem?_of_mem hv
  have hlt := (List.getElem?_eq_some_iff.1 hj).1
  have hl := h.1
  have hk : 0 < k := by
    rcases Nat.eq_zero_or_pos k with h0 | h0
    · subst h0; omega
    · exact h0
  have hi : j / k < es.length := Nat.div_lt_of_lt_mul (by rw [Nat.mul_comm]; omega)
  have := h.2 _ _ (List.getElem?_eq_getElem hi)
  refine hR _ _ _ _ this v ?_
  have hm : j = j / k * k + j % k := by rw [Nat.mul_comm]; exact (Nat.div_add_mod j k).symm
  have hmod := Nat.mod_lt j hk
  refine List.mem_iff_getElem?.2 ⟨j % k, ?_⟩
  rw [List.getElem?_take, if_pos hmod, List.getElem?_drop, ← hm]
  exact hj
end Go.Proofs.Ytkggnbabnfhcpaa
end
section
/- One element of an owned list is written over. No program in sight. -/
namespace Go.Proofs.Ytkggnbabnfhcpaa
open Go.RowKit
variable {w : World} {b : Nat} {e : TypeId} {k : Nat} {xs : List Value}
def setL : List Value → Nat → List Value → List Value
  | xs, _, [] => xs
  | xs, j, v :: r => setL (xs.set j v) (j + 1) r
theorem setL_len : ∀ (vs : List Value) (xs : List Value) (j : Nat), (setL xs j vs).length = xs.length
  | [], _, _ => rfl
  | v :: r, xs, j => by rw [setL, setL_len r, List.length_set]
theorem setL_get : ∀ (vs : List Value) (xs : List Value) (j i : Nat), j + vs.length ≤ xs.length → (setL xs j vs)[i]? = if j ≤ i ∧ i < j + vs.length then vs[i - j]? else xs[i]?
  | [], xs, j, i, _ => by rw [setL, if_neg (by simp only [List.length_nil]; omega)]
  | v :: r, xs, j, i, h => by
    rw [List.length_cons] at h
    rw [setL, setL_get r (xs.set j v) (j + 1) i (by rw [List.length_set]; omega), List.length_cons]
    by_cases h1 : i = j
    · subst h1
      rw [if_neg (by omega), if_pos (by omega), Nat.sub_self, List.getElem?_set_self (by omega)]
      rfl
    · by_cases h2 : j + 1 ≤ i ∧ i < j + 1 + r.length
      · rw [if_pos h2, if_pos (by omega), show i - j = (i - (j + 1)) + 1 by omega, List.getElem?_cons_succ]
      · rw [if_neg h2, if_neg (by omega), List.getElem?_set_ne (by omega)]
theorem own_in1 {g off n c j : Nat} (h : Own w b e k (.slice (some ⟨g, off, none⟩) n c) n xs) (hj : j < n * k) (v : Value) :
    (w.cell? ⟨g, off + j, none⟩).isSome = true ∧ w.frozen? ⟨g, off + j, none⟩ = false ∧ Own (w.setCell ⟨g, off + j, none⟩ v) b e k (.slice (some ⟨g, off, none⟩) n c) n (xs.set j v) := by
  obtain ⟨hl, h⟩ := h
  rcases h with ⟨h0, h1⟩ | ⟨g', off', cap, cur, hv, hb, hg, hn, hm2, hs, ht⟩
  · cases h0
  · injection hv with q1 q2 q3
    injection q1 with q1
    injection q1 with q1 q4
    subst q1; subst q3; subst q4
    have hB : Bk w g cur e := hg
    have hm : n * k ≤ c * k := Nat.mul_le_mul_right k hn
    refine ⟨?_, hB.frozen _, by rw [List.length_set]; exact hl, .inr ⟨g, off, c, _, rfl, hb, hB.setCell (off + j) v, hn, hm2, by simpa using hs, ?_⟩⟩
    · rw [hB.cell, Array.getElem?_eq_getElem (by omega)]; rfl
    · rw [← ht, Array.toList_setIfInBounds, List.drop_set]
      rw [if_neg (by omega), show off + j - off = j by omega, List.take_set]
theorem own_setL {g off n c : Nat} : ∀ (vs : List Value) (j : Nat) (w : World) (xs : List Value), Own w b e k (.slice (some ⟨g, off, none⟩) n c) n xs → j + vs.length ≤ n * k →
    w.there g (off + j) vs.length ∧ Own (w.setCells g (off + j) vs) b e k (.slice (some ⟨g, off, none⟩) n c) n (setL xs j vs) ∧ Fr [g] w (w.setCells g (off + j) vs) ∧ (w.setCells g (off + j) vs).heap.size = w.heap.size
  | [], j, w, xs, h, _ => ⟨fun i hi => by simp at hi, h, Fr.refl _ _, rfl⟩
  | v :: r, j, w, xs, h, hc => by
    rw [List.length_cons] at hc
    obtain ⟨h1, h2, h3⟩ := own_in1 h (j := j) (by omega) v
    obtain ⟨k1, k2, k3, k4⟩ := own_setL r (j + 1) _ _ h3 (by omega)
    rw [← Nat.add_assoc] at k1 k2 k3 k4
    refine ⟨fun i hi => ?_, k2, ((Fr.refl [g] w).setCell (p := ⟨g, off + j, none⟩) (.inl (by simp)) v).trans k3 (Gr.refl _ _), k4.trans (by simp)⟩
    rw [List.length_cons] at hi
    obtain ⟨a1, a2, _⟩ := own_in1 h (j := j + i) (by omega) v
    rw [Nat.add_assoc]
    exact ⟨a1, a2⟩
/-- An element of so many cells is stored. -/
theorem Own.storeK {g off n c i : Nat} (h : Own w b e k (.slice (some ⟨g, off, none⟩) n c) n xs) (hi : i < n) {vs : List Value} (hv : vs.length = k) {gs : List Nat} (hgs : ∀ x ∈ gs, x ≠ g) {K : World → Prop}
    (hk : ∀ w1, Own w1 b e k (.slice (some ⟨g, off, none⟩) n c) n (setL xs (i * k) vs) → Fr [g] w w1 → w1.heap.size = w.heap.size → K w1) : stO gs w g (off + i * k) vs K := by
  have hm : i * k + k ≤ n * k := by
    have := Nat.mul_le_mul_right k (show i + 1 ≤ n from hi)
    rw [Nat.add_mul, Nat.one_mul] at this; exact this
  obtain ⟨k1, k2, k3, k4⟩ := own_setL vs (i * k) w xs h (by omega)
  exact ⟨hgs, k1, fun w1 e1 => by subst e1; exact hk _ k2 k3 k4⟩
theorem ElsOk.set {α : Type} {R : World → List Nat → α → List Value → Prop} {M : List Nat} {es : List α} (hR : RStable R k) (h : ElsOk R k w M es xs) {i : Nat} (hi : i < es.length) {x : α} {cs : List Value} (hx : R w M x cs) : ElsOk R k w M (es.set i x) (setL xs (i * k) cs) := by
  have hl := h.1
  have hc := hR.len hx
  have hm : ∀ j, j < es.length → j * k + k ≤ xs.length := fun j hj => by
    rw [hl]
    have := Nat.mul_le_mul_right k (show j + 1 ≤ es.length from hj)
    rw [Nat.add_mul, Nat.one_mul] at this; exact this
  refine ⟨by rw [setL_len, List.length_set, hl], fun j y hy => ?_⟩
  have hj : j < es.length := by have := (List.getElem?_eq_some_iff.1 hy).1; rwa [List.length_set] at this
  have key : ((setL xs (i * k) cs).drop (j * k)).take k = if i = j then cs else (xs.drop (j * k)).take k := by
    apply List.ext_getElem?
    intro q
    rw [List.getElem?_take]
    by_cases hq : q < k
    · rw [if_pos hq, List.getElem?_drop, setL_get _ _ _ _ (by have := hm i hi; omega)]
      by_cases hij : i = j
      · subst hij
        rw [if_pos rfl, if_pos (by omega)]
        congr 1; omega
      · rw [if_neg hij]
        have hne : ¬ (i * k ≤ j * k + q ∧ j * k + q < i * k + cs.length) := by
          rintro ⟨h1, h2⟩
          rcases Nat.lt_or_gt_of_ne hij with h3 | h3
          · have := Nat.mul_le_mul_right k (show i + 1 ≤ j from h3)
            rw [Nat.add_mul, Nat.one_mul] at this; omega
          · have := Nat.mul_le_mul_right k (show j + 1 ≤ i from h3)
            rw [Nat.add_mul, Nat.one_mul] at this; omega
        rw [if_neg hne, List.getElem?_take, if_pos hq, List.getElem?_drop]
    · rw [if_neg hq]
      symm
      split
      · rw [List.getElem?_eq_none (by omega)]
      · rw [List.getElem?_take, if_neg hq]
  rw [key]
  by_cases hij : i = j
  · subst hij
    rw [List.getElem?_set_self hi] at hy
    injection hy with hy; subst hy
    rw [if_pos rfl]; exact hx
  · rw [List.getElem?_set_ne hij] at hy
    rw [if_neg hij]
    exact h.2 j y hy
end Go.Proofs.Ytkggnbabnfhcpaa
end
section
/- Functions that write nothing but blocks of their own: their steps, seen from the world that they began in. No program in sight. -/
namespace Go.Proofs.Ytkggnbabnfhcpaa
open Go.RowKit
theorem box_below {w w1 w2 : World} {g : Nat} (h : Below w.heap.size w w1) (hg : w.heap.size ≤ g) (hb : BoxSt g w1 w2) : Below w.heap.size w w2 := h.trans (hb.1.below (fun k hk => by rw [List.mem_singleton] at hk; omega) h.size)
/-- One value comes back, and what was there is as it was. -/
def Ret (v : Value) (w : World) : Ending → World → Prop := fun e w' => e = .returned v ∧ Below w.heap.size w w'
theorem ret_in {P : Program} {f : FuncId} {av : Array Value} {w : World} {v : Value} (h : Calls P f av w fun e w' => ∃ u, e = .returned u ∧ (u = v ∧ Below w.heap.size w w')) : Calls P f av w (Ret v w) :=
  h.mono (by rintro e w' ⟨u, rfl, rfl, b⟩; exact ⟨rfl, b⟩)
theorem ret_same {P : Program} {f : FuncId} {av : Array Value} {w : World} {v : Value} (h : Calls P f av w fun e w' => e = .returned v ∧ w' = w) : Calls P f av w (Ret v w) :=
  h.mono (by rintro e w' ⟨rfl, rfl⟩; exact ⟨rfl, Below.refl _ _⟩)
section
variable {w0 w : World}
abbrev Bs (w0 w : World) : Prop := Below w0.heap.size w0 w
theorem Bs.refl (w : World) : Bs w w := Below.refl _ _
theorem Bs.to {w1 : World} (B : Bs w0 w) (b : Below w.heap.size w w1) : Bs w0 w1 := Below.trans B (b.mono B.size)
theorem Bs.box {g : Nat} {w1 : World} (B : Bs w0 w) (hg : w0.heap.size ≤ g) (h : BoxSt g w w1) : Bs w0 w1 := box_below B hg h
theorem newB (B : Bs w0 w) {o : Obj} {K : Nat → World → Prop} (h : ∀ g w1, w0.heap.size ≤ g → w.heap.size = g → w1.heap[g]? = some o → w1.heap.size = g + 1 → Below w.heap.size w w1 → Bs w0 w1 → K g w1) : newO w o K := by
  rintro g w1 rfl rfl
  exact h _ _ B.size rfl (al_new rfl) (by simp) (Below_one o) (B.to (Below_one o))
theorem drewB (B : Bs w0 w) {K : World → Prop} (h : ∀ w1, Below w.heap.size w w1 → Bs w0 w1 → w1.heap = w.heap → K w1) : drewO w K := fun w1 h1 h2 => h w1 h2 (B.to h2) h1
theorem boxB {g : Nat} (B : Bs w0 w) (hg : w0.heap.size ≤ g) {K : World → Prop} (h : ∀ w1, BoxSt g w w1 → Bs w0 w1 → w1.heap.size = w.heap.size → K w1) : ∀ w1, BoxSt g w w1 → K w1 := fun w1 h1 => h w1 h1 (B.box hg h1) h1.2
theorem callB {P : Program} {f : FuncId} {av : Array Value} {v : Value} {gs : List Nat} {R : Ending → World → Prop} (B : Bs w0 w) (h : Calls P f av w (Ret v w)) (k : ∀ w1, Below w.heap.size w w1 → Bs w0 w1 → R (.returned v) w1) :
    Calls P f av w (fun e w1 => KeepG gs w w1 ∧ R e w1) := h.mono (by rintro e w1 ⟨rfl, b⟩; exact ⟨keepG_below b, k w1 b (B.to b)⟩)
theorem callQ {P : Program} {f : FuncId} {av : Array Value} {gs : List Nat} {Q R : Ending → World → Prop} (B : Bs w0 w) (h : Calls P f av w (fun e w1 => Q e w1 ∧ Below w.heap.size w w1)) (k : ∀ e w1, Q e w1 → Below w.heap.size w w1 → Bs w0 w1 → R e w1) :
    Calls P f av w (fun e w1 => KeepG gs w w1 ∧ R e w1) := h.mono (by rintro e w1 ⟨q, b⟩; exact ⟨keepG_below b, k e w1 q b (B.to b)⟩)
end
/-- Elements of k cells each, one behind the other, in a block from n0 on. -/
def Rws {α : Type} (enc : α → List Value) (k n0 : Nat) (w : World) (a : Option Addr) (xs : List α) : Prop := xs = [] ∨ ∃ b off, a = some ⟨b, off, none⟩ ∧ n0 ≤ b ∧ ∀ i x, xs[i]? = some x → cellsAt w b (off + i * k) (enc x)
section
variable {α : Type} {enc : α → List Value} {k n0 : Nat} {w w' : World} {a : Option Addr} {xs : List α}
theorem Rws.nil : Rws enc k n0 w a [] := .inl rfl
theorem Rws.ofRows (h : RowsAt (fun w b off x => cellsAt w b off (enc x)) k w a xs) : Rws enc k 0 w a xs := h.elim .inl fun ⟨b, off, h1, h2⟩ => .inr ⟨b, off, h1, Nat.zero_le _, h2⟩
theorem Rws.low {n1 : Nat} (h : Rws enc k n0 w a xs) (hn : n1 ≤ n0) : Rws enc k n1 w a xs := h.elim .inl fun ⟨b, off, h1, h2, h3⟩ => .inr ⟨b, off, h1, Nat.le_trans hn h2, h3⟩
theorem Rws.keep (h : Rws enc k n0 w a xs) (hk : ∀ b, n0 ≤ b → b < w.heap.size → w'.heap[b]? = w.heap[b]?) : Rws enc k n0 w' a xs := by
  rcases h with h | ⟨b, off, ha, hb, h⟩
  · exact .inl h
  · refine .inr ⟨b, off, ha, hb, fun i x hx => cellsAt_of fun j v hj => ?_⟩
    have h1 := cellsAt_get (h i x hx) j v hj
    have h2 := block_lt_of_cell h1
    rw [cell_keep (hk b hb h2)]
    exact h1
theorem Rws.below (h : Rws enc k n0 w a xs) (hb : Below w.heap.size w w') : Rws enc k n0 w' a xs := h.keep fun b _ h2 => hb.block b h2
theorem Rws.box {g : Nat} (h : Rws enc k n0 w a xs) (hb : BoxSt g w w') (hg : g < n0) : Rws enc k n0 w' a xs := h.keep fun b h1 h2 => hb.1.block b h2 (by rw [List.mem_singleton]; omega)
theorem Rws.newbox {g : Nat} {w1 w2 : World} (h : Rws enc k n0 w a xs) (hb : Below w.heap.size w w1) (sg : w.heap.size = g) (hx : BoxSt g w1 w2) : Rws enc k n0 w2 a xs := h.keep fun b _ h2 => (hx.1.block b (by have := hb.size; omega) (by rw [List.mem_singleton]; omega)).trans (hb.block b h2)
theorem Rws.grown {r : Option Nat} (h : Rws enc k n0 w a xs) (hg : w.grownBy w' r) (hr : ∀ b, r = some b → b < n0) : Rws enc k n0 w' a xs := h.keep fun b h1 h2 => hg.block b h2 fun e => by have := hr b e.symm; omega
theorem Rws.get (h : Rws enc k n0 w a xs) {i : Nat} (hi : i < xs.length) : ∃ b off, a = some ⟨b, off, none⟩ ∧ cellsAt w b (off + i * k) (enc xs[i]) := by
  rcases h with rfl | ⟨b, off, ha, _, h⟩
  · simp at hi
  · exact ⟨b, off, ha, h i _ (List.getElem?_eq_getElem hi)⟩
theorem Rws.take (h : Rws enc k n0 w a xs) (n : Nat) : Rws enc k n0 w a (xs.take n) := by
  rcases h with rfl | ⟨b, off, ha, h0, h⟩
  · exact .inl (by simp)
  · refine .inr ⟨b, off, ha, h0, fun i x hx => h i x ?_⟩
    rw [List.getElem?_take] at hx
    split at hx
    · exact hx
    · cases hx
theorem flatK_len (hk : ∀ x, (enc x).length = k) : ∀ es : List α, (es.flatMap enc).length = es.length * k
  | [] => by simp
  | e :: r => by rw [List.flatMap_cons, List.length_append, flatK_len hk r, hk, List.length_cons, Nat.add_mul]; omega
theorem flatK_get (hk : ∀ x, (enc x).length = k) : ∀ (es : List α) (i : Nat) (e : α) (j : Nat), es[i]? = some e → j < k → (es.flatMap enc)[i * k + j]? = (enc e)[j]?
  | x :: r, 0, e, j, h, hj => by
    cases h
    rw [List.flatMap_cons, List.getElem?_append_left (by rw [hk]; omega)]
    congr 1; omega
  | x :: r, i + 1, e, j, h, hj => by
    have e1 : (i + 1) * k = i * k + k := by rw [Nat.add_mul, Nat.one_mul]
    rw [List.flatMap_cons, List.getElem?_append_right (by rw [hk]; omega), hk, show (i + 1) * k + j - k = i * k + j by omega]
    exact flatK_get hk r i e j (by simpa using h) hj
theorem Rws.ofOwn {t : TypeId} {n c : Nat} (hkp : 0 < k) (hk : ∀ x, (enc x).length = k) (h : Own w n0 t k (.slice a n c) n (xs.flatMap enc)) : Rws enc k n0 w a xs := by
  by_cases h0 : xs = []
  · exact .inl h0
  rcases h.2 with ⟨h1, h2⟩ | ⟨g, off, cap, cur, hv, hb, hg, hn, hm, hs, ht⟩
  · have h3 := h.1
    rw [flatK_len hk, h2, Nat.zero_mul] at h3
    exact absurd (List.length_eq_zero_iff.1 ((Nat.mul_eq_zero.1 h3).resolve_right (by omega))) h0
  · injection hv with h1 h2 h3
    subst h1; subst h3
    refine .inr ⟨g, off, rfl, hb, fun i x hx => cellsAt_list fun j v hv => ?_⟩
    have hj : j < k := by have := (List.getElem?_eq_some_iff.1 hv).1; rw [hk] at this; exact this
    have := flatK_get hk xs i x j hx hj
    rw [Nat.add_assoc]
    exact h.cells g off c rfl _ v (by rw [this]; exact hv)
theorem Rws.src {P : Program} {tx e' : TypeId} {c : Nat} (hT : P.underlying tx = some (.slice e')) (hkp : 0 < k) (hk : ∀ x, (enc x).length = k) (h1 : ∀ x, ∀ v ∈ enc x, v.oneCell' = true) (h : Rws enc k n0 w a xs) : Src P k tx (.slice a xs.length c) xs.length (xs.flatMap enc) w := by
  have hone : ∀ v ∈ xs.flatMap enc, v.oneCell' = true := fun v hv => by
    obtain ⟨x, _, hx⟩ := List.mem_flatMap.1 hv
    exact h1 x v hx
  cases a with
  | none =>
    rcases h with rfl | ⟨b, off, ha, _⟩
    · exact Src.ofNil w hT c
    · cases ha
  | some ad =>
    refine Src.ofSlice w hT ad _ _ _ (flatK_len hk xs) (fun j u hu => ?_) hone
    rcases h with rfl | ⟨b, off, ha, _, h⟩
    · cases hu
    · injection ha with ha; subst ha
      have hlt := (List.getElem?_eq_some_iff.1 hu).1
      rw [flatK_len hk] at hlt
      have hi : j / k < xs.length := (Nat.div_lt_iff_lt_mul hkp).2 hlt
      have hm : j % k < k := Nat.mod_lt _ hkp
      have hx := List.getElem?_eq_getElem hi
      have h1 := flatK_get hk xs (j / k) _ (j % k) hx hm
      have hd : j / k * k + j % k = j := by rw [Nat.mul_comm]; exact Nat.div_add_mod j k
      rw [hd, hu] at h1
      have := cellsAt_get (h _ _ hx) (j % k) u h1.symm
      rw [Addr.add_lit]
      rwa [Nat.add_assoc, hd] at this
end
theorem Rws.one {α : Type} {enc : α → List Value} {k n0 g : Nat} {w : World} {x : α} {t : TypeId} {fr : Nat × Nat} (h : w.heap[g]? = some (.cells (enc x).toArray t fr)) (hg : n0 ≤ g) : Rws enc k n0 w (some ⟨g, 0, none⟩) [x] := by
  refine .inr ⟨g, 0, rfl, hg, fun i y hy => ?_⟩
  have hi : i = 0 := by have := (List.getElem?_eq_some_iff.1 hy).1; simp at this; omega
  subst hi
  simp at hy
  subst hy
  rw [Nat.zero_mul]
  exact cellsAt_row h (by simp)
theorem Own.box {w w1 : World} {n1 size n g : Nat} {e : TypeId} {v : Value} {xs : List Value} (h : Own w n1 e size v n xs) (hb : BoxSt g w w1) (hg : ∀ k, v.ownBlock = some k → k ≠ g) : Own w1 n1 e size v n xs := h.keep fun k hk => hb.1.block k (h.lt k hk).2 (by rw [List.mem_singleton]; exact hg k hk)
/-- A new box was made and filled. -/
theorem Own.newbox {w w1 w2 : World} {n1 size n g : Nat} {e : TypeId} {v : Value} {xs : List Value} (h : Own w n1 e size v n xs) (hb : Below w.heap.size w w1) (sg : w.heap.size = g) (hx : BoxSt g w1 w2) : Own w2 n1 e size v n xs := (h.below hb (Nat.le_refl _)).box hx fun k hk => by have := (h.lt k hk).2; omega
/-- What is appended to, is one's own. -/
theorem appB {P : Program} {gs : List Nat} {w0 w : World} {e : TypeId} {size bytes n1 n c m : Nat} {tx : TypeId} {a : Option Addr} {x : Value} {xs news : List Value} {K : Nat → Option Addr → Nat → World → Prop}
    (B : Bs w0 w) (o : Own w n1 e size (.slice a n c) n xs) (hn1 : w0.heap.size ≤ n1) (hn2 : n1 ≤ w.heap.size) (s : Src P size tx x m news w) (h1 : n + m ≤ maxLen) (h2 : (n + m) * bytes ≤ 140737488355328)
    (hg : ∀ g ∈ gs, (Value.slice a n c).ownBlock ≠ some g)
    (k : ∀ a' c' w1, Own w1 n1 e size (.slice a' (n + m) c') (n + m) (xs ++ news) → w.grownBy w1 (Value.slice a n c).ownBlock → Bs w0 w1 → w.heap.size ≤ w1.heap.size → K m a' c' w1) :
    appO P gs w e size bytes tx a n c x K := by
  refine ⟨m, xs, news, o.base_le fun _ _ => Nat.zero_le _, s, h1, h2, hg, fun a' c' w1 o1 g1 or1 _ => k a' c' w1 (o1.base_le fun q hq => ?_) g1 ?_ g1.size⟩
  · rcases or1 with h | ⟨g, h, h3⟩
    · exact (o.lt q (h ▸ hq)).1
    · rw [h] at hq; injection hq with hq; omega
  · exact ⟨g1.os.trans B.os, g1.tape.trans B.tape, g1.output.trans B.output, Nat.le_trans B.size g1.size, fun q hq => (g1.block q (by have := B.size; omega) fun e => by have := (o.lt q e.symm).1; omega).trans (B.block q hq)⟩
end Go.Proofs.Ytkggnbabnfhcpaa
end
section
/- More steps of functions seen from the world that they began in: blocks that are written over. No program in sight. -/
namespace Go.Proofs.Ytkggnbabnfhcpaa
open Go.RowKit
/-- Cells of a block that are written over. -/
theorem stO_part {w : World} {g off : Nat} {t : TypeId} {cs : Array Value} {vs : List Value} {gs : List Nat} {K : World → Prop} (h : Bk w g cs t) (hl : off + vs.length ≤ cs.size) (hg : ∀ x ∈ gs, x ≠ g)
    (k : ∀ w1, Bk w1 g (setL cs.toList off vs).toArray t → Fr [g] w w1 → w1.heap.size = w.heap.size → K w1) : stO gs w g off vs K := by
  have key : ∀ (vs : List Value) (w : World) (cs : Array Value) (off : Nat), Bk w g cs t → off + vs.length ≤ cs.size → Bk (w.setCells g off vs) g (setL cs.toList off vs).toArray t ∧ Fr [g] w (w.setCells g off vs) ∧ (w.setCells g off vs).heap.size = w.heap.size := by
    intro vs
    induction vs with
    | nil => intro w cs off h _; exact ⟨by simpa [World.setCells, setL] using h, Fr.refl _ _, rfl⟩
    | cons v r ih =>
      intro w cs off h hl
      rw [List.length_cons] at hl
      obtain ⟨k1, k2, k3⟩ := ih (w.setCell ⟨g, off, none⟩ v) (cs.setIfInBounds off v) (off + 1) (h.setCell off v) (by simp; omega)
      refine ⟨?_, ((Fr.refl [g] w).setCell (p := ⟨g, off, none⟩) (.inl (by simp)) v).trans k2 (Gr.refl _ _), by rw [show w.setCells g off (v :: r) = (w.setCell ⟨g, off, none⟩ v).setCells g (off + 1) r from rfl, k3]; simp [World.setCell]⟩
      rw [Array.toList_setIfInBounds] at k1
      exact k1
  obtain ⟨k1, k2, k3⟩ := key vs w cs off h hl
  exact ⟨hg, h.there hl, fun w1 e => by subst e; exact k _ k1 k2 k3⟩
theorem setL_whole {vs xs : List Value} (h : vs.length = xs.length) : setL xs 0 vs = vs := by
  apply List.ext_getElem?
  intro i
  rw [setL_get vs xs 0 i (by omega)]
  by_cases hi : i < vs.length
  · rw [if_pos ⟨Nat.zero_le _, by omega⟩]; rfl
  · rw [if_neg (by omega), List.getElem?_eq_none (by omega), List.getElem?_eq_none (by omega)]
theorem Bs.fr {w0 w w1 : World} {L : List Nat} (B : Bs w0 w) (h : Fr L w w1) (hL : ∀ k ∈ L, w0.heap.size ≤ k) : Bs w0 w1 := Below.trans B (h.below hL B.size)
theorem Bs.fr1 {w0 w w1 : World} {g : Nat} (B : Bs w0 w) (h : Fr [g] w w1) (hg : w0.heap.size ≤ g) : Bs w0 w1 := B.fr h fun k hk => by rw [List.mem_singleton] at hk; omega
/-- A block of one's own is written over, wholly. -/
theorem stB {w0 w : World} {g : Nat} {t : TypeId} {cs : Array Value} {vs : List Value} {gs : List Nat} {K : World → Prop} (B : Bs w0 w) (hg0 : w0.heap.size ≤ g) (h : Bk w g cs t) (hl : vs.length = cs.size) (hg : ∀ x ∈ gs, x ≠ g)
    (k : ∀ w1, Bk w1 g vs.toArray t → Fr [g] w w1 → Bs w0 w1 → w1.heap.size = w.heap.size → K w1) : stO gs w g 0 vs K :=
  stO_part h (by omega) hg fun w1 h1 f1 z1 => k w1 (by rw [setL_whole (by simpa using hl)] at h1; exact h1) f1 (B.fr1 f1 hg0) z1
/-- One cell of it. -/
theorem stB1 {w0 w : World} {g i : Nat} {t : TypeId} {cs : Array Value} {v : Value} {gs : List Nat} {K : World → Prop} (B : Bs w0 w) (hg0 : w0.heap.size ≤ g) (h : Bk w g cs t) (hi : i < cs.size) (hg : ∀ x ∈ gs, x ≠ g)
    (k : ∀ w1, Bk w1 g (cs.setIfInBounds i v) t → Fr [g] w w1 → Bs w0 w1 → w1.heap.size = w.heap.size → K w1) : stO gs w g i [v] K :=
  stO_bk h hi hg fun w1 h1 f1 z1 => k w1 h1 f1 (B.fr1 f1 hg0) z1
theorem Bk.below {w w1 : World} {g : Nat} {cs : Array Value} {t : TypeId} (h : Bk w g cs t) (hb : Below w.heap.size w w1) : Bk w1 g cs t := h.keep (hb.block g h.lt)
theorem Bk.box {w w1 : World} {g k : Nat} {cs : Array Value} {t : TypeId} (h : Bk w g cs t) (hb : BoxSt k w w1) (hk : g ≠ k) : Bk w1 g cs t := h.keep (hb.1.block g h.lt (by rw [List.mem_singleton]; exact hk))
theorem Bk.fr {w w1 : World} {g : Nat} {L : List Nat} {cs : Array Value} {t : TypeId} (h : Bk w g cs t) (hb : Fr L w w1) (hk : g ∉ L) : Bk w1 g cs t := h.keep (hb.block g h.lt hk)
theorem Bk.fr1 {w w1 : World} {g k : Nat} {cs : Array Value} {t : TypeId} (h : Bk w g cs t) (hb : Fr [k] w w1) (hk : g ≠ k) : Bk w1 g cs t := h.fr hb (by rw [List.mem_singleton]; exact hk)
end Go.Proofs.Ytkggnbabnfhcpaa
end
