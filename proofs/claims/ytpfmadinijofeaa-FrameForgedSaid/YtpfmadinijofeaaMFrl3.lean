import Derived.Test.YtpfmadinijofeaaProg
import Derived.Test.YtpfmadinijofeaaMFrl2
import Derived.Test.YtpfmadinijofeaaMFrl1
import Derived.ProofKit
import Derived.Deep.Matrix
import Derived.Deep.Slices
import Derived.OpenShut
import Derived.Shelf.SlIterI.Nil
import Derived.Shelf.SortM.Plain
import Derived.Shelf.SortM.SortNone
import Derived.Ground.GgzProg
import Derived.Ground.SlgmProg
import Derived.WideShapes
set_option linter.unusedVariables false
section
/- Conditions of functions, printed by a program of this claim's own (vcgen.py) out of the loaded code; each is proved to be enough. -/
set_option maxRecDepth 100000
namespace Go.Proofs.Ytpfmadinijofeaa
open Go.RowKit
namespace GFr
def env : Env := ⟨[(3, ⟨.int .i64, 1, .int .i64 0, 8, [.int .i64]⟩), (4, ⟨.bool, 1, .bool false, 1, [.bool]⟩), (5, ⟨.int .u8, 1, .int .u8 0, 1, [.int .u8]⟩), (9, ⟨.str, 1, .string ByteArray.empty, 16, [.str]⟩), (22, ⟨.slice 5, 1, .slice none 0 0, 24, [.slice]⟩), (24, ⟨.ptr, 1, .pointer none, 8, [.ptr]⟩), (25, ⟨.int .i64, 1, .int .i64 0, 8, [.int .i64]⟩), (30, ⟨.int .u64, 1, .int .u64 0, 8, [.int .u64]⟩), (44, ⟨.slice 22, 1, .slice none 0 0, 24, [.slice]⟩), (47, ⟨.arr 3 3, 3, .agg #[.int .i64 0, .int .i64 0, .int .i64 0], 24, [.int .i64, .int .i64, .int .i64]⟩), (48, ⟨.ptr, 1, .pointer none, 8, [.ptr]⟩), (60, ⟨.slice 3, 1, .slice none 0 0, 24, [.slice]⟩), (64, ⟨.slice 4, 1, .slice none 0 0, 24, [.slice]⟩), (70, ⟨.slice 44, 1, .slice none 0 0, 24, [.slice]⟩), (76, ⟨.slice 9, 1, .slice none 0 0, 24, [.slice]⟩), (84, ⟨.slice 86, 1, .slice none 0 0, 24, [.slice]⟩), (86, ⟨.struct [(0, 70), (1, 3), (2, 64)], 3, .agg #[.slice none 0 0, .int .i64 0, .slice none 0 0], 56, [.slice, .int .i64, .slice]⟩), (114, ⟨.struct [(0, 24), (1, 3), (2, 3), (3, 3), (4, 3), (5, 3)], 6, .agg #[.pointer none, .int .i64 0, .int .i64 0, .int .i64 0, .int .i64 0, .int .i64 0], 48, [.ptr, .int .i64, .int .i64, .int .i64, .int .i64, .int .i64]⟩), (122, ⟨.int .u32, 1, .int .u32 0, 4, [.int .u32]⟩), (139, ⟨.struct [(0, 22), (1, 4)], 2, .agg #[.slice none 0 0, .bool false], 32, [.slice, .bool]⟩), (146, ⟨.ptr, 1, .pointer none, 8, [.ptr]⟩), (157, ⟨.struct [(0, 22), (1, 25)], 2, .agg #[.slice none 0 0, .int .i64 0], 32, [.slice, .int .i64]⟩)], [(13, [.lf (.ptr), .lf (.int .i64)]), (17, [.lf (.int .i64)]), (18, [.lf (.slice), .lf (.int .i64)]), (22, [.lf (.ptr), .lf (.slice), .lf (.int .i64)]), (23, [.lf (.slice)]), (24, [.lf (.bool)]), (25, [.lf (.ptr)]), (26, [.lf (.int .i64)]), (27, [.lf (.int .i64)]), (28, [.lf (.int .i64)]), (29, [.lf (.int .i64)]), (30, [.lf (.int .i64)]), (31, [.lf (.int .i64)]), (36, [.lf (.slice)]), (37, []), (38, [.lf (.bool)]), (39, []), (40, [.lf (.ptr), .lf (.ptr), .lf (.bool)]), (41, [.lf (.slice)]), (42, [.lf (.str)]), (43, [.lf (.slice)]), (44, [.lf (.bool)]), (45, [.lf (.slice), .lf (.slice)]), (46, [.lf (.slice)]), (58, [.lf (.int .i64)]), (59, [.lf (.slice), .lf (.bool), .lf (.int .i64)]), (60, [.lf (.slice)]), (61, [.lf (.int .i64)]), (62, [.lf (.int .i64)]), (63, [.lf (.slice)]), (64, [.lf (.slice)]), (65, [.lf (.int .i64)]), (67, [.lf (.int .u32)]), (70, [.lf (.str)]), (71, [.lf (.str)]), (72, [.lf (.str)]), (73, [.lf (.int .u32)]), (77, [.lf (.slice), .lf (.int .i64)]), (78, [.lf (.int .i64), .lf (.bool)]), (79, [.lf (.slice), .lf (.bool)]), (80, []), (81, [.lf (.slice), .lf (.int .i64)]), (82, [.lf (.slice)]), (83, [.lf (.str)]), (89, [.lf (.ptr)]), (90, [.lf (.int .i64)]), (91, [.lf (.int .i64)]), (92, [.lf (.slice)])], []⟩
theorem ty3 : TyOk Try.prog 3 ⟨.int .i64, 1, .int .i64 0, 8, [.int .i64]⟩ := tyok (by kernel_rfl) (by kernel_rfl)
theorem ty4 : TyOk Try.prog 4 ⟨.bool, 1, .bool false, 1, [.bool]⟩ := tyok (by kernel_rfl) (by kernel_rfl)
theorem ty5 : TyOk Try.prog 5 ⟨.int .u8, 1, .int .u8 0, 1, [.int .u8]⟩ := tyok (by kernel_rfl) (by kernel_rfl)
theorem ty9 : TyOk Try.prog 9 ⟨.str, 1, .string ByteArray.empty, 16, [.str]⟩ := tyok (by kernel_rfl) (by kernel_rfl)
theorem ty22 : TyOk Try.prog 22 ⟨.slice 5, 1, .slice none 0 0, 24, [.slice]⟩ := tyok (by kernel_rfl) (by kernel_rfl)
theorem ty24 : TyOk Try.prog 24 ⟨.ptr, 1, .pointer none, 8, [.ptr]⟩ := tyok (by kernel_rfl) (by kernel_rfl)
theorem ty25 : TyOk Try.prog 25 ⟨.int .i64, 1, .int .i64 0, 8, [.int .i64]⟩ := tyok (by kernel_rfl) (by kernel_rfl)
theorem ty30 : TyOk Try.prog 30 ⟨.int .u64, 1, .int .u64 0, 8, [.int .u64]⟩ := tyok (by kernel_rfl) (by kernel_rfl)
theorem ty44 : TyOk Try.prog 44 ⟨.slice 22, 1, .slice none 0 0, 24, [.slice]⟩ := tyok (by kernel_rfl) (by kernel_rfl)
theorem ty47 : TyOk Try.prog 47 ⟨.arr 3 3, 3, .agg #[.int .i64 0, .int .i64 0, .int .i64 0], 24, [.int .i64, .int .i64, .int .i64]⟩ := tyok (by kernel_rfl) (by kernel_rfl)
theorem ty48 : TyOk Try.prog 48 ⟨.ptr, 1, .pointer none, 8, [.ptr]⟩ := tyok (by kernel_rfl) (by kernel_rfl)
theorem ty60 : TyOk Try.prog 60 ⟨.slice 3, 1, .slice none 0 0, 24, [.slice]⟩ := tyok (by kernel_rfl) (by kernel_rfl)
theorem ty64 : TyOk Try.prog 64 ⟨.slice 4, 1, .slice none 0 0, 24, [.slice]⟩ := tyok (by kernel_rfl) (by kernel_rfl)
theorem ty70 : TyOk Try.prog 70 ⟨.slice 44, 1, .slice none 0 0, 24, [.slice]⟩ := tyok (by kernel_rfl) (by kernel_rfl)
theorem ty76 : TyOk Try.prog 76 ⟨.slice 9, 1, .slice none 0 0, 24, [.slice]⟩ := tyok (by kernel_rfl) (by kernel_rfl)
theorem ty84 : TyOk Try.prog 84 ⟨.slice 86, 1, .slice none 0 0, 24, [.slice]⟩ := tyok (by kernel_rfl) (by kernel_rfl)
theorem ty86 : TyOk Try.prog 86 ⟨.struct [(0, 70), (1, 3), (2, 64)], 3, .agg #[.slice none 0 0, .int .i64 0, .slice none 0 0], 56, [.slice, .int .i64, .slice]⟩ := tyok (by kernel_rfl) (by kernel_rfl)
theorem ty114 : TyOk Try.prog 114 ⟨.struct [(0, 24), (1, 3), (2, 3), (3, 3), (4, 3), (5, 3)], 6, .agg #[.pointer none, .int .i64 0, .int .i64 0, .int .i64 0, .int .i64 0, .int .i64 0], 48, [.ptr, .int .i64, .int .i64, .int .i64, .int .i64, .int .i64]⟩ := tyok (by kernel_rfl) (by kernel_rfl)
theorem ty122 : TyOk Try.prog 122 ⟨.int .u32, 1, .int .u32 0, 4, [.int .u32]⟩ := tyok (by kernel_rfl) (by kernel_rfl)
theorem ty139 : TyOk Try.prog 139 ⟨.struct [(0, 22), (1, 4)], 2, .agg #[.slice none 0 0, .bool false], 32, [.slice, .bool]⟩ := tyok (by kernel_rfl) (by kernel_rfl)
theorem ty146 : TyOk Try.prog 146 ⟨.ptr, 1, .pointer none, 8, [.ptr]⟩ := tyok (by kernel_rfl) (by kernel_rfl)
theorem ty157 : TyOk Try.prog 157 ⟨.struct [(0, 22), (1, 25)], 2, .agg #[.slice none 0 0, .int .i64 0], 32, [.slice, .int .i64]⟩ := tyok (by kernel_rfl) (by kernel_rfl)
theorem fn13 : FnOk Try.prog 13 := fnok Try.func13 (by kernel_rfl) (by kernel_rfl)
theorem fn17 : FnOk Try.prog 17 := fnok Try.func17 (by kernel_rfl) (by kernel_rfl)
theorem fn18 : FnOk Try.prog 18 := fnok Try.func18 (by kernel_rfl) (by kernel_rfl)
theorem fn22 : FnOk Try.prog 22 := fnok Try.func22 (by kernel_rfl) (by kernel_rfl)
theorem fn23 : FnOk Try.prog 23 := fnok Try.func23 (by kernel_rfl) (by kernel_rfl)
theorem fn24 : FnOk Try.prog 24 := fnok Try.func24 (by kernel_rfl) (by kernel_rfl)
theorem fn25 : FnOk Try.prog 25 := fnok Try.func25 (by kernel_rfl) (by kernel_rfl)
theorem fn26 : FnOk Try.prog 26 := fnok Try.func26 (by kernel_rfl) (by kernel_rfl)
theorem fn27 : FnOk Try.prog 27 := fnok Try.func27 (by kernel_rfl) (by kernel_rfl)
theorem fn28 : FnOk Try.prog 28 := fnok Try.func28 (by kernel_rfl) (by kernel_rfl)
theorem fn29 : FnOk Try.prog 29 := fnok Try.func29 (by kernel_rfl) (by kernel_rfl)
theorem fn30 : FnOk Try.prog 30 := fnok Try.func30 (by kernel_rfl) (by kernel_rfl)
theorem fn31 : FnOk Try.prog 31 := fnok Try.func31 (by kernel_rfl) (by kernel_rfl)
theorem fn36 : FnOk Try.prog 36 := fnok Try.func36 (by kernel_rfl) (by kernel_rfl)
theorem fn37 : FnOk Try.prog 37 := fnok Try.func37 (by kernel_rfl) (by kernel_rfl)
theorem fn38 : FnOk Try.prog 38 := fnok Try.func38 (by kernel_rfl) (by kernel_rfl)
theorem fn39 : FnOk Try.prog 39 := fnok Try.func39 (by kernel_rfl) (by kernel_rfl)
theorem fn40 : FnOk Try.prog 40 := fnok Try.func40 (by kernel_rfl) (by kernel_rfl)
theorem fn41 : FnOk Try.prog 41 := fnok Try.func41 (by kernel_rfl) (by kernel_rfl)
theorem fn42 : FnOk Try.prog 42 := fnok Try.func42 (by kernel_rfl) (by kernel_rfl)
theorem fn43 : FnOk Try.prog 43 := fnok Try.func43 (by kernel_rfl) (by kernel_rfl)
theorem fn44 : FnOk Try.prog 44 := fnok Try.func44 (by kernel_rfl) (by kernel_rfl)
theorem fn45 : FnOk Try.prog 45 := fnok Try.func45 (by kernel_rfl) (by kernel_rfl)
theorem fn46 : FnOk Try.prog 46 := fnok Try.func46 (by kernel_rfl) (by kernel_rfl)
theorem fn58 : FnOk Try.prog 58 := fnok Try.func58 (by kernel_rfl) (by kernel_rfl)
theorem fn59 : FnOk Try.prog 59 := fnok Try.func59 (by kernel_rfl) (by kernel_rfl)
theorem fn60 : FnOk Try.prog 60 := fnok Try.func60 (by kernel_rfl) (by kernel_rfl)
theorem fn61 : FnOk Try.prog 61 := fnok Try.func61 (by kernel_rfl) (by kernel_rfl)
theorem fn62 : FnOk Try.prog 62 := fnok Try.func62 (by kernel_rfl) (by kernel_rfl)
theorem fn63 : FnOk Try.prog 63 := fnok Try.func63 (by kernel_rfl) (by kernel_rfl)
theorem fn64 : FnOk Try.prog 64 := fnok Try.func64 (by kernel_rfl) (by kernel_rfl)
theorem fn65 : FnOk Try.prog 65 := fnok Try.func65 (by kernel_rfl) (by kernel_rfl)
theorem fn67 : FnOk Try.prog 67 := fnok Try.func67 (by kernel_rfl) (by kernel_rfl)
theorem fn70 : FnOk Try.prog 70 := fnok Try.func70 (by kernel_rfl) (by kernel_rfl)
theorem fn71 : FnOk Try.prog 71 := fnok Try.func71 (by kernel_rfl) (by kernel_rfl)
theorem fn72 : FnOk Try.prog 72 := fnok Try.func72 (by kernel_rfl) (by kernel_rfl)
theorem fn73 : FnOk Try.prog 73 := fnok Try.func73 (by kernel_rfl) (by kernel_rfl)
theorem fn77 : FnOk Try.prog 77 := fnok Try.func77 (by kernel_rfl) (by kernel_rfl)
theorem fn78 : FnOk Try.prog 78 := fnok Try.func78 (by kernel_rfl) (by kernel_rfl)
theorem fn79 : FnOk Try.prog 79 := fnok Try.func79 (by kernel_rfl) (by kernel_rfl)
theorem fn80 : FnOk Try.prog 80 := fnok Try.func80 (by kernel_rfl) (by kernel_rfl)
theorem fn81 : FnOk Try.prog 81 := fnok Try.func81 (by kernel_rfl) (by kernel_rfl)
theorem fn82 : FnOk Try.prog 82 := fnok Try.func82 (by kernel_rfl) (by kernel_rfl)
theorem fn83 : FnOk Try.prog 83 := fnok Try.func83 (by kernel_rfl) (by kernel_rfl)
theorem fn89 : FnOk Try.prog 89 := fnok Try.func89 (by kernel_rfl) (by kernel_rfl)
theorem fn90 : FnOk Try.prog 90 := fnok Try.func90 (by kernel_rfl) (by kernel_rfl)
theorem fn91 : FnOk Try.prog 91 := fnok Try.func91 (by kernel_rfl) (by kernel_rfl)
theorem fn92 : FnOk Try.prog 92 := fnok Try.func92 (by kernel_rfl) (by kernel_rfl)
theorem envOk : EOk Try.prog env := ⟨(by simp only [env, List.forall_mem_cons, List.not_mem_nil, false_implies, implies_true, and_true]; exact ⟨ty3, ty4, ty5, ty9, ty22, ty24, ty25, ty30, ty44, ty47, ty48, ty60, ty64, ty70, ty76, ty84, ty86, ty114, ty122, ty139, ty146, ty157⟩), (by simp only [env, List.forall_mem_cons, List.not_mem_nil, false_implies, implies_true, and_true]; exact ⟨fn13, fn17, fn18, fn22, fn23, fn24, fn25, fn26, fn27, fn28, fn29, fn30, fn31, fn36, fn37, fn38, fn39, fn40, fn41, fn42, fn43, fn44, fn45, fn46, fn58, fn59, fn60, fn61, fn62, fn63, fn64, fn65, fn67, fn70, fn71, fn72, fn73, fn77, fn78, fn79, fn80, fn81, fn82, fn83, fn89, fn90, fn91, fn92⟩), by kernel_rfl, (fun _ h => by cases h)⟩
/-- purser/frame.number -/
def number_vc (a0 : Option Addr) (n0 : Nat) (c0 : Nat) (x1 : Int) (x2 : Int) (w : World) (K : Value → World → Prop) : Prop :=
  ∃ (I : Option Addr → Nat → Nat → Int → World → Prop) (μ : Option Addr → Nat → Nat → Int → World → Nat),
  I a0 n0 c0 (IntKind.i64.wrap (x2 - 1)) w ∧
  ∀ (a0_2 : Option Addr) (n0_2 : Nat) (c0_2 : Nat) (x7 : Int) (w_2 : World), I a0_2 n0_2 c0_2 x7 w_2 →
  br (decide (x7 ≥ 0)) (
    (0 : Int) ≤ (IntKind.i64.wrap (8 * x7)) ∧
    newO w_2 (.cells #[.int .u8 (IntKind.u8.wrap (Int.fdiv x1 (2 ^ (min (IntKind.i64.wrap (8 * x7)).toNat (IntKind.bits .u64)))))] 5) fun g w_3 =>
    appO Try.prog [] w_3 5 1 1 22 a0_2 n0_2 c0_2 (.slice (some ⟨g, 0, none⟩) 1 1) fun m21 a21 c21 w_4 =>
    I a21 (n0_2 + m21) c21 (IntKind.i64.wrap (x7 - 1)) w_4 ∧ μ a21 (n0_2 + m21) c21 (IntKind.i64.wrap (x7 - 1)) w_4 < μ a0_2 n0_2 c0_2 x7 w_2
  ) (
    K (.slice a0_2 n0_2 c0_2) w_2
  )
def number_notes : Notes := ⟨[], [(2, ⟨[(0, .lf (.slice)), (7, .lf (.int .i64))], [], [10, 11, 14, 15, 16, 17, 18, 19, 20, 21, 0, 12, 13, 7], []⟩)], [], []⟩
theorem number_calls (a0 : Option Addr) (n0 : Nat) (c0 : Nat) (x1 : Int) (x2 : Int) (w : World) (K : Value → World → Prop) (h : number_vc a0 n0 c0 x1 x2 w K) : Calls Try.prog 82 #[.slice a0 n0 c0, .int .u64 x1, .int .i64 x2] w fun e w' => ∃ v, e = .returned v ∧ K v w' :=
  calls_of_fvc envOk Try.func82 number_notes [] [.slice a0 n0 c0, .int .u64 x1, .int .i64 x2] w K (use_vc h (by as_aux_lemma => kernel_rfl))
/-- purser/frame.body -/
def body_vc (a0 : Option Addr) (n0 : Nat) (c0 : Nat) (w : World) (K : Value → World → Prop) : Prop :=
  newO w (.cells #[.slice none 0 0, .bool false] 139) fun g w_2 =>
  ∃ (I : Int → World → Prop) (μ : Int → World → Nat),
  I 0 w_2 ∧
  ∀ (x12 : Int) (w_3 : World), I x12 w_3 →
  br (decide (x12 < ((n0 : Nat) : Int))) (
    withP a0 fun g14 o14 =>
    (0 : Int) ≤ x12 ∧ x12 < (((n0 : Nat) : Int) : Int) ∧
    ∃ (a15 : Option Addr) (n15 : Nat) (c15 : Nat), w_3.cell? ⟨g14, o14 + x12.toNat * 1, none⟩ = some (.slice a15 n15 c15) ∧
    Calls Try.prog 80 #[.pointer (some ⟨g, 0, none⟩), .slice a15 n15 c15] w_3 fun e w_4 => KeepG [] w_3 w_4 ∧
    e = .returned (.tuple #[]) ∧
    I (IntKind.i64.wrap (x12 + 1)) w_4 ∧ μ (IntKind.i64.wrap (x12 + 1)) w_4 < μ x12 w_3
  ) (
    Calls Try.prog 81 #[.pointer (some ⟨g, 0, none⟩)] w_3 fun e_2 w_5 => KeepG [] w_3 w_5 ∧
    ∃ (a22_0 : Option Addr) (n22_0 : Nat) (c22_0 : Nat) (x22_1 : Int),
    e_2 = .returned (.tuple #[.slice a22_0 n22_0 c22_0, .int .i64 x22_1]) ∧
    K (.slice a22_0 n22_0 c22_0) w_5
  )
def body_notes : Notes := ⟨[], [(3, ⟨[(12, .lf (.int .i64))], [], [13, 14, 15, 5, 16, 17, 18, 19, 12], []⟩)], [], []⟩
theorem body_calls (a0 : Option Addr) (n0 : Nat) (c0 : Nat) (w : World) (K : Value → World → Prop) (h : body_vc a0 n0 c0 w K) : Calls Try.prog 60 #[.slice a0 n0 c0] w fun e w' => ∃ v, e = .returned v ∧ K v w' :=
  calls_of_fvc envOk Try.func60 body_notes [] [.slice a0 n0 c0] w K (use_vc h (by as_aux_lemma => kernel_rfl))
/-- purser/frame.sectors -/
def sectors_vc (x0 : Int) (w : World) (K : Value → World → Prop) : Prop :=
  br (decide (x0 ≤ 39)) (
    K (.int .i64 1) w
  ) (
    (63 : Int) ≠ 0 ∧
    K (.int .i64 (IntKind.i64.wrap (1 + (IntKind.i64.wrap (Int.tdiv (IntKind.i64.wrap ((IntKind.i64.wrap ((IntKind.i64.wrap (x0 - 39)) + 63)) - 1)) 63))))) w
  )
def sectors_notes : Notes := ⟨[], [], [], []⟩
theorem sectors_calls (x0 : Int) (w : World) (K : Value → World → Prop) (h : sectors_vc x0 w K) : Calls Try.prog 61 #[.int .i64 x0] w fun e w' => ∃ v, e = .returned v ∧ K v w' :=
  calls_of_fvc envOk Try.func61 sectors_notes [] [.int .i64 x0] w K (use_vc h (by as_aux_lemma => kernel_rfl))
/-- purser/frame.Sectors -/
def sectorsX_vc (a0 : Option Addr) (n0 : Nat) (c0 : Nat) (w : World) (K : Value → World → Prop) : Prop :=
  Calls Try.prog 60 #[.slice a0 n0 c0] w fun e w_2 => KeepG [] w w_2 ∧
  ∃ (a4 : Option Addr) (n4 : Nat) (c4 : Nat),
  e = .returned (.slice a4 n4 c4) ∧
  Calls Try.prog 61 #[.int .i64 ((n4 : Nat) : Int)] w_2 fun e_2 w_3 => KeepG [] w_2 w_3 ∧
  ∃ (x6 : Int),
  e_2 = .returned (.int .i64 x6) ∧
  K (.int .i64 x6) w_3
def sectorsX_notes : Notes := ⟨[], [], [], []⟩
theorem sectorsX_calls (a0 : Option Addr) (n0 : Nat) (c0 : Nat) (w : World) (K : Value → World → Prop) (h : sectorsX_vc a0 n0 c0 w K) : Calls Try.prog 30 #[.slice a0 n0 c0] w fun e w' => ∃ v, e = .returned v ∧ K v w' :=
  calls_of_fvc envOk Try.func30 sectorsX_notes [] [.slice a0 n0 c0] w K (use_vc h (by as_aux_lemma => kernel_rfl))
/-- purser/frame.label -/
def label_vc (x0 : Int) (x1 : Int) (a2 : Option Addr) (n2 : Nat) (c2 : Nat) (w : World) (K : Value → World → Prop) : Prop :=
  Calls Try.prog 82 #[.slice none 0 0, .int .u64 (IntKind.u64.wrap x0), .int .i64 8] w fun e w_2 => KeepG [] w w_2 ∧
  ∃ (a10 : Option Addr) (n10 : Nat) (c10 : Nat),
  e = .returned (.slice a10 n10 c10) ∧
  Calls Try.prog 82 #[.slice a10 n10 c10, .int .u64 (IntKind.u64.wrap x1), .int .i64 8] w_2 fun e_2 w_3 => KeepG [] w_2 w_3 ∧
  ∃ (a14 : Option Addr) (n14 : Nat) (c14 : Nat),
  e_2 = .returned (.slice a14 n14 c14) ∧
  Calls Try.prog 82 #[.slice a14 n14 c14, .int .u64 (IntKind.u64.wrap ((n2 : Nat) : Int)), .int .i64 4] w_3 fun e_3 w_4 => KeepG [] w_3 w_4 ∧
  ∃ (a19 : Option Addr) (n19 : Nat) (c19 : Nat),
  e_3 = .returned (.slice a19 n19 c19) ∧
  newO w_4 (.cells #[.slice a19 n19 c19, .slice a2 n2 c2] 22) fun g w_5 =>
  Calls Try.prog 73 #[.slice (some ⟨g, 0, none⟩) 2 2] w_5 fun e_4 w_6 => KeepG [] w_5 w_6 ∧
  ∃ (x24 : Int),
  e_4 = .returned (.int .u32 x24) ∧
  Calls Try.prog 82 #[.slice a19 n19 c19, .int .u64 (IntKind.u64.wrap x24), .int .i64 4] w_6 fun e_5 w_7 => KeepG [] w_6 w_7 ∧
  ∃ (a26 : Option Addr) (n26 : Nat) (c26 : Nat),
  e_5 = .returned (.slice a26 n26 c26) ∧
  K (.slice a26 n26 c26) w_7
def label_notes : Notes := ⟨[], [], [], []⟩
theorem label_calls (x0 : Int) (x1 : Int) (a2 : Option Addr) (n2 : Nat) (c2 : Nat) (w : World) (K : Value → World → Prop) (h : label_vc x0 x1 a2 n2 c2 w K) : Calls Try.prog 63 #[.int .i64 x0, .int .i64 x1, .slice a2 n2 c2] w fun e w' => ∃ v, e = .returned v ∧ K v w' :=
  calls_of_fvc envOk Try.func63 label_notes [] [.int .i64 x0, .int .i64 x1, .slice a2 n2 c2] w K (use_vc h (by as_aux_lemma => kernel_rfl))
/-- purser/frame.pad -/
def pad_vc (a0 : Option Addr) (n0 : Nat) (c0 : Nat) (w : World) (K : Value → World → Prop) : Prop :=
  ∃ (I : Option Addr → Nat → Nat → World → Prop) (μ : Option Addr → Nat → Nat → World → Nat),
  I a0 n0 c0 w ∧
  ∀ (a0_2 : Option Addr) (n0_2 : Nat) (c0_2 : Nat) (w_2 : World), I a0_2 n0_2 c0_2 w_2 →
  (64 : Int) ≠ 0 ∧
  br (decide ((Int.tmod ((n0_2 : Nat) : Int) 64) ≠ 0)) (
    newO w_2 (.cells #[.int .u8 0] 5) fun g w_3 =>
    appO Try.prog [] w_3 5 1 1 22 a0_2 n0_2 c0_2 (.slice (some ⟨g, 0, none⟩) 1 1) fun m9 a9 c9 w_4 =>
    I a9 (n0_2 + m9) c9 w_4 ∧ μ a9 (n0_2 + m9) c9 w_4 < μ a0_2 n0_2 c0_2 w_2
  ) (
    K (.slice a0_2 n0_2 c0_2) w_2
  )
def pad_notes : Notes := ⟨[], [(1, ⟨[(0, .lf (.slice))], [], [3, 4, 5, 6, 7, 8, 9, 0], []⟩)], [], []⟩
theorem pad_calls (a0 : Option Addr) (n0 : Nat) (c0 : Nat) (w : World) (K : Value → World → Prop) (h : pad_vc a0 n0 c0 w K) : Calls Try.prog 64 #[.slice a0 n0 c0] w fun e w' => ∃ v, e = .returned v ∧ K v w' :=
  calls_of_fvc envOk Try.func64 pad_notes [] [.slice a0 n0 c0] w K (use_vc h (by as_aux_lemma => kernel_rfl))
/-- (*purser/frame.Log).read -/
def fread_vc (p0 : Option Addr) (x1 : Int) (x2 : Int) (w : World) (K : Value → World → Prop) : Prop :=
  drewO w fun w_2 =>
  withP p0 fun g9 o9 =>
  ∃ (p11 : Option Addr), w_2.cell? ⟨g9, o9, none⟩ = some (.pointer p11) ∧
  withP p0 fun g13 o13 =>
  ∃ (x15 : Int), w_2.cell? ⟨g13, o13 + 1, none⟩ = some (.int .i64 x15) ∧
  Calls Try.prog 18 #[.pointer p11, .int .i64 (IntKind.i64.wrap (x15 + x1)), .int .i64 x2] w_2 fun e w_3 => KeepG [] w_2 w_3 ∧
  ∃ (a19_0 : Option Addr) (n19_0 : Nat) (c19_0 : Nat) (x19_1 : Int),
  e = .returned (.tuple #[.slice a19_0 n19_0 c19_0, .int .i64 x19_1]) ∧
  K (.tuple #[.slice a19_0 n19_0 c19_0, .int .i64 x19_1]) w_3
def fread_notes : Notes := ⟨[(1, ⟨[0, 1, 3, 7, 0, 16, 48, 112, 0, 496, 0, 2047, 4095, 4095, 16383, 32767], [11], [0, 1, 2, 3, 4, 5, 6, 7, 8, 9, 10, 12, 13, 14, 15]⟩)], [], [], []⟩
theorem fread_calls (p0 : Option Addr) (x1 : Int) (x2 : Int) (w : World) (K : Value → World → Prop) (h : fread_vc p0 x1 x2 w K) : Calls Try.prog 77 #[.pointer p0, .int .i64 x1, .int .i64 x2] w fun e w' => ∃ v, e = .returned v ∧ K v w' :=
  calls_of_fvc envOk Try.func77 fread_notes [] [.pointer p0, .int .i64 x1, .int .i64 x2] w K (use_vc h (by as_aux_lemma => kernel_rfl))
/-- (*purser/frame.Log).count -/
def count_k1 (K : Value → World → Prop) (p0 : Option Addr) (a1 : Option Addr) (c1 : Nat) (a6 : Option Addr) (n6 : Nat) (w_7 : World) : Prop :=
  drewO w_7 fun w_8 =>
  (0 : Int) ≤ ((n6 : Nat) : Int) ∧ ((n6 : Nat) : Int) ≤ (((c1 : Nat) : Int) : Int) ∧
  ∃ bs28 : List UInt8, bs28.length = ((n6 : Nat) : Int).toNat ∧ RowAt w_8 a1 (bs28.map bV) ∧
  ∃ bs30 : List UInt8, bs30.length = n6 ∧ RowAt w_8 a6 (bs30.map bV) ∧
  br (decide ((strOf bs28) ≠ (strOf bs30))) (
    K (.tuple #[.int .i64 0, .bool false]) w_8
  ) (
    (0 : Int) ≤ ((n6 : Nat) : Int) ∧ ((n6 : Nat) : Int) ≤ IntKind.i64.wrap (((n6 : Nat) : Int) + 4) ∧ IntKind.i64.wrap (((n6 : Nat) : Int) + 4) ≤ (((c1 : Nat) : Int) : Int) ∧
    ∃ (I : Int → Int → World → Prop) (μ : Int → Int → World → Nat),
    I 0 0 w_8 ∧
    ∀ (x7 : Int) (x40 : Int) (w_9 : World), I x7 x40 w_9 →
    br (decide (x40 < (((IntKind.i64.wrap (((n6 : Nat) : Int) + 4)).toNat - ((n6 : Nat) : Int).toNat : Nat) : Int))) (
      withP (sliceBase a1 c1 (((n6 : Nat) : Int).toNat) 1) fun g42 o42 =>
      (0 : Int) ≤ x40 ∧ x40 < ((((IntKind.i64.wrap (((n6 : Nat) : Int) + 4)).toNat - ((n6 : Nat) : Int).toNat : Nat) : Int) : Int) ∧
      ∃ (x43 : Int), w_9.cell? ⟨g42, o42 + x40.toNat * 1, none⟩ = some (.int .u8 x43) ∧
      (0 : Int) ≤ 8 ∧
      I (bitsV .or .i64 (IntKind.i64.wrap (x7 * 2 ^ (min (8 : Int).toNat (IntKind.bits .i64)))) (IntKind.i64.wrap x43)) (IntKind.i64.wrap (x40 + 1)) w_9 ∧ μ (bitsV .or .i64 (IntKind.i64.wrap (x7 * 2 ^ (min (8 : Int).toNat (IntKind.bits .i64)))) (IntKind.i64.wrap x43)) (IntKind.i64.wrap (x40 + 1)) w_9 < μ x7 x40 w_9
    ) (
      drewO w_9 fun w_10 =>
      withP p0 fun g54 o54 =>
      ∃ (x56 : Int), w_10.cell? ⟨g54, o54 + 2, none⟩ = some (.int .i64 x56) ∧
      withP p0 fun g58 o58 =>
      ∃ (x60 : Int), w_10.cell? ⟨g58, o58 + 4, none⟩ = some (.int .i64 x60) ∧
      Calls Try.prog 61 #[.int .i64 x7] w_10 fun e_3 w_11 => KeepG [] w_10 w_11 ∧
      ∃ (x52 : Int),
      e_3 = .returned (.int .i64 x52) ∧
      w_11.cell? ⟨g54, o54 + 2, none⟩ = some (.int .i64 x56) ∧
      w_11.cell? ⟨g58, o58 + 4, none⟩ = some (.int .i64 x60) ∧
      K (.tuple #[.int .i64 x7, .bool (decide (x52 ≤ (IntKind.i64.wrap (x56 - x60))))]) w_11
    )
  )
def count_vc (p0 : Option Addr) (a1 : Option Addr) (n1 : Nat) (c1 : Nat) (w : World) (K : Value → World → Prop) : Prop :=
  drewO w fun w_2 =>
  withP p0 fun g12 o12 =>
  ∃ (x14 : Int), w_2.cell? ⟨g12, o12 + 3, none⟩ = some (.int .i64 x14) ∧
  withP p0 fun g18 o18 =>
  ∃ (x20 : Int), w_2.cell? ⟨g18, o18 + 5, none⟩ = some (.int .i64 x20) ∧
  (
    newO w_2 (.cells #[.int .u8 1] 5) fun g w_3 =>
    w_3.cell? ⟨g12, o12 + 3, none⟩ = some (.int .i64 x14) ∧
    w_3.cell? ⟨g18, o18 + 5, none⟩ = some (.int .i64 x20) ∧
    Calls Try.prog 82 #[.slice none 0 0, .int .u64 (IntKind.u64.wrap x14), .int .i64 8] w_3 fun e w_4 => KeepG [] w_3 w_4 ∧
    ∃ (a16 : Option Addr) (n16 : Nat) (c16 : Nat),
    e = .returned (.slice a16 n16 c16) ∧
    w_4.cell? ⟨g18, o18 + 5, none⟩ = some (.int .i64 x20) ∧
    Calls Try.prog 82 #[.slice a16 n16 c16, .int .u64 (IntKind.u64.wrap x20), .int .i64 8] w_4 fun e_2 w_5 => KeepG [] w_4 w_5 ∧
    ∃ (a22 : Option Addr) (n22 : Nat) (c22 : Nat),
    e_2 = .returned (.slice a22 n22 c22) ∧
    appO Try.prog [] w_5 5 1 1 22 (some ⟨g, 0, none⟩) 1 1 (.slice a22 n22 c22) fun m23 a23 c23 w_6 =>
    count_k1 K p0 a1 c1 a23 (1 + m23) w_6
  ) ∧
  (
    Calls Try.prog 82 #[.slice none 0 0, .int .u64 (IntKind.u64.wrap x14), .int .i64 8] w_2 fun e_4 w_12 => KeepG [] w_2 w_12 ∧
    ∃ (a16_2 : Option Addr) (n16_2 : Nat) (c16_2 : Nat),
    e_4 = .returned (.slice a16_2 n16_2 c16_2) ∧
    w_12.cell? ⟨g18, o18 + 5, none⟩ = some (.int .i64 x20) ∧
    (
      newO w_12 (.cells #[.int .u8 1] 5) fun g_2 w_13 =>
      w_13.cell? ⟨g18, o18 + 5, none⟩ = some (.int .i64 x20) ∧
      Calls Try.prog 82 #[.slice a16_2 n16_2 c16_2, .int .u64 (IntKind.u64.wrap x20), .int .i64 8] w_13 fun e_5 w_14 => KeepG [] w_13 w_14 ∧
      ∃ (a22_2 : Option Addr) (n22_2 : Nat) (c22_2 : Nat),
      e_5 = .returned (.slice a22_2 n22_2 c22_2) ∧
      appO Try.prog [] w_14 5 1 1 22 (some ⟨g_2, 0, none⟩) 1 1 (.slice a22_2 n22_2 c22_2) fun m23_2 a23_2 c23_2 w_15 =>
      count_k1 K p0 a1 c1 a23_2 (1 + m23_2) w_15
    ) ∧
    (
      Calls Try.prog 82 #[.slice a16_2 n16_2 c16_2, .int .u64 (IntKind.u64.wrap x20), .int .i64 8] w_12 fun e_6 w_16 => KeepG [] w_12 w_16 ∧
      ∃ (a22_3 : Option Addr) (n22_3 : Nat) (c22_3 : Nat),
      e_6 = .returned (.slice a22_3 n22_3 c22_3) ∧
      newO w_16 (.cells #[.int .u8 1] 5) fun g_3 w_17 =>
      appO Try.prog [] w_17 5 1 1 22 (some ⟨g_3, 0, none⟩) 1 1 (.slice a22_3 n22_3 c22_3) fun m23_3 a23_3 c23_3 w_18 =>
      count_k1 K p0 a1 c1 a23_3 (1 + m23_3) w_18
    )
  )
def count_notes : Notes := ⟨[(1, ⟨[0, 0, 2, 6, 14, 30, 62, 0, 128, 384, 896, 1920, 4094, 8191, 16383], [0, 6, 12, 13], [1, 2, 3, 4, 5, 7, 8, 9, 10, 11, 14]⟩), (2, ⟨[0, 0, 2, 7, 15, 0, 32, 127], [], [0, 1, 2, 3, 4, 5, 6, 7]⟩), (10, ⟨[0, 0, 2, 0, 8, 24, 56, 0, 128, 384, 896, 2040, 4094, 7, 16383], [2], [0, 1, 3, 4, 5, 6, 7, 8, 9, 10, 11, 12, 13, 14]⟩)], [(6, ⟨[(7, .lf (.int .i64)), (40, .lf (.int .i64))], [], [41, 42, 43, 9, 44, 45, 46, 47, 48, 7, 49, 40], []⟩)], [], []⟩
theorem count_calls (p0 : Option Addr) (a1 : Option Addr) (n1 : Nat) (c1 : Nat) (w : World) (K : Value → World → Prop) (h : count_vc p0 a1 n1 c1 w K) : Calls Try.prog 78 #[.pointer p0, .slice a1 n1 c1] w fun e w' => ∃ v, e = .returned v ∧ K v w' :=
  calls_of_fvc envOk Try.func78 count_notes [] [.pointer p0, .slice a1 n1 c1] w K (use_vc h (by as_aux_lemma => kernel_rfl))
/-- purser/frame.records -/
def records_k1 (K : Value → World → Prop) (p7 : Option Addr) (a5_2 : Option Addr) (n5_2 : Nat) (c5_2 : Nat) (w_9 : World) : Prop :=
  Calls Try.prog 91 #[.pointer p7] w_9 fun e_5 w_10 => KeepG [] w_9 w_10 ∧
  ∃ (x25 : Int),
  e_5 = .returned (.int .i64 x25) ∧
  K (.tuple #[.slice a5_2 n5_2 c5_2, .bool (decide (x25 = 0))]) w_10
def records_vc (a0 : Option Addr) (n0 : Nat) (c0 : Nat) (w : World) (K : Value → World → Prop) : Prop :=
  Calls Try.prog 89 #[.slice a0 n0 c0] w fun e w_2 => KeepG [] w w_2 ∧
  ∃ (p7 : Option Addr),
  e = .returned (.pointer p7) ∧
  ∃ (I : Option Addr → Nat → Nat → World → Prop) (μ : Option Addr → Nat → Nat → World → Nat),
  I none 0 0 w_2 ∧
  ∀ (a5 : Option Addr) (n5 : Nat) (c5 : Nat) (w_3 : World), I a5 n5 c5 w_3 →
  Calls Try.prog 90 #[.pointer p7] w_3 fun e_2 w_4 => KeepG [] w_3 w_4 ∧
  ∃ (x9 : Int),
  e_2 = .returned (.int .i64 x9) ∧
  br (decide (x9 > 0)) (
    Calls Try.prog 91 #[.pointer p7] w_4 fun e_3 w_5 => KeepG [] w_4 w_5 ∧
    ∃ (x13 : Int),
    e_3 = .returned (.int .i64 x13) ∧
    br (decide (x13 = 4)) (
      Calls Try.prog 92 #[.pointer p7, .int .i64 ((n0 : Nat) : Int)] w_5 fun e_4 w_6 => KeepG [] w_5 w_6 ∧
      ∃ (a20 : Option Addr) (n20 : Nat) (c20 : Nat),
      e_4 = .returned (.slice a20 n20 c20) ∧
      newO w_6 (.cells #[.slice a20 n20 c20] 22) fun g w_7 =>
      appO Try.prog [] w_7 22 1 24 44 a5 n5 c5 (.slice (some ⟨g, 0, none⟩) 1 1) fun m22 a22 c22 w_8 =>
      I a22 (n5 + m22) c22 w_8 ∧ μ a22 (n5 + m22) c22 w_8 < μ a5 n5 c5 w_3
    ) (
      records_k1 K p7 a5 n5 c5 w_5
    )
  ) (
    records_k1 K p7 a5 n5 c5 w_4
  )
def records_notes : Notes := ⟨[], [(3, ⟨[(5, .lf (.slice))], [], [8, 9, 10, 11, 12, 13, 14, 15, 16, 17, 18, 19, 20, 21, 22, 5], []⟩)], [], []⟩
theorem records_calls (a0 : Option Addr) (n0 : Nat) (c0 : Nat) (w : World) (K : Value → World → Prop) (h : records_vc a0 n0 c0 w K) : Calls Try.prog 79 #[.slice a0 n0 c0] w fun e w' => ∃ v, e = .returned v ∧ K v w' :=
  calls_of_fvc envOk Try.func79 records_notes [] [.slice a0 n0 c0] w K (use_vc h (by as_aux_lemma => kernel_rfl))
/-- (*purser/frame.Log).next -/
def next_vc (p0 : Option Addr) (w : World) (K : Value → World → Prop) : Prop :=
  drewO w fun w_2 =>
  withP p0 fun g13 o13 =>
  ∃ (x15 : Int), w_2.cell? ⟨g13, o13 + 4, none⟩ = some (.int .i64 x15) ∧
  withP p0 fun g17 o17 =>
  ∃ (x19 : Int), w_2.cell? ⟨g17, o17 + 2, none⟩ = some (.int .i64 x19) ∧
  br (decide (x15 = x19)) (
    K (.tuple #[.slice none 0 0, .bool false, .int .i64 0]) w_2
  ) (
    withP p0 fun g24 o24 =>
    ∃ (x26 : Int), w_2.cell? ⟨g24, o24 + 4, none⟩ = some (.int .i64 x26) ∧
    Calls Try.prog 77 #[.pointer p0, .int .i64 x26, .int .i64 1] w_2 fun e w_3 => KeepG [] w_2 w_3 ∧
    ∃ (a27_0 : Option Addr) (n27_0 : Nat) (c27_0 : Nat) (x27_1 : Int),
    e = .returned (.tuple #[.slice a27_0 n27_0 c27_0, .int .i64 x27_1]) ∧
    br (decide (x27_1 ≠ 0)) (
      K (.tuple #[.slice none 0 0, .bool false, .int .i64 x27_1]) w_3
    ) (
      Calls Try.prog 78 #[.pointer p0, .slice a27_0 n27_0 c27_0] w_3 fun e_2 w_4 => KeepG [] w_3 w_4 ∧
      ∃ (x36_0 : Int) (b36_1 : Bool),
      e_2 = .returned (.tuple #[.int .i64 x36_0, .bool b36_1]) ∧
      br (!b36_1) (
        K (.tuple #[.slice none 0 0, .bool false, .int .i64 0]) w_4
      ) (
        newO w_4 (.cells #[] 5) fun g w_5 =>
        (0 : Int) ≤ (25 : Int) ∧ (25 : Int) ≤ (((n27_0 : Nat) : Int) : Int) ∧
        appO Try.prog [] w_5 5 1 1 22 (some ⟨g, 0, none⟩) 0 0 (.slice (sliceBase a27_0 c27_0 ((25 : Int).toNat) 1) (n27_0 - (25 : Int).toNat) (c27_0 - (25 : Int).toNat)) fun m44 a44 c44 w_6 =>
        drewO w_6 fun w_7 =>
        withP p0 fun g48 o48 =>
        ∃ (x50 : Int), w_7.cell? ⟨g48, o48 + 4, none⟩ = some (.int .i64 x50) ∧
        Calls Try.prog 61 #[.int .i64 x36_0] w_7 fun e_3 w_8 => KeepG [] w_7 w_8 ∧
        ∃ (x53 : Int),
        e_3 = .returned (.int .i64 x53) ∧
        w_8.cell? ⟨g48, o48 + 4, none⟩ = some (.int .i64 x50) ∧
        Calls Try.prog 77 #[.pointer p0, .int .i64 (IntKind.i64.wrap (x50 + 1)), .int .i64 (IntKind.i64.wrap (x53 - 1))] w_8 fun e_4 w_9 => KeepG [] w_8 w_9 ∧
        ∃ (a55_0 : Option Addr) (n55_0 : Nat) (c55_0 : Nat) (x55_1 : Int),
        e_4 = .returned (.tuple #[.slice a55_0 n55_0 c55_0, .int .i64 x55_1]) ∧
        br (decide (x55_1 ≠ 0)) (
          K (.tuple #[.slice none 0 0, .bool false, .int .i64 x55_1]) w_9
        ) (
          ∃ (I : Option Addr → Nat → Nat → Option Addr → Nat → Nat → World → Prop) (μ : Option Addr → Nat → Nat → Option Addr → Nat → Nat → World → Nat),
          I a44 (0 + m44) c44 a55_0 n55_0 c55_0 w_9 ∧
          ∀ (a9 : Option Addr) (n9 : Nat) (c9 : Nat) (a10 : Option Addr) (n10 : Nat) (c10 : Nat) (w_10 : World), I a9 n9 c9 a10 n10 c10 w_10 →
          br (decide (((n10 : Nat) : Int) > 0)) (
            (0 : Int) ≤ (1 : Int) ∧ (1 : Int) ≤ (64 : Int) ∧ (64 : Int) ≤ (((c10 : Nat) : Int) : Int) ∧
            appO Try.prog [] w_10 5 1 1 22 a9 n9 c9 (.slice (sliceBase a10 c10 ((1 : Int).toNat) 1) ((64 : Int).toNat - (1 : Int).toNat) (c10 - (1 : Int).toNat)) fun m69 a69 c69 w_11 =>
            (0 : Int) ≤ (64 : Int) ∧ (64 : Int) ≤ (((n10 : Nat) : Int) : Int) ∧
            I a69 (n9 + m69) c69 (sliceBase a10 c10 ((64 : Int).toNat) 1) (n10 - (64 : Int).toNat) (c10 - (64 : Int).toNat) w_11 ∧ μ a69 (n9 + m69) c69 (sliceBase a10 c10 ((64 : Int).toNat) 1) (n10 - (64 : Int).toNat) (c10 - (64 : Int).toNat) w_11 < μ a9 n9 c9 a10 n10 c10 w_10
          ) (
            (0 : Int) ≤ x36_0 ∧ x36_0 ≤ (((c9 : Nat) : Int) : Int) ∧
            drewO w_10 fun w_12 =>
            (0 : Int) ≤ (1 : Int) ∧ (1 : Int) ≤ (25 : Int) ∧ (25 : Int) ≤ (((c27_0 : Nat) : Int) : Int) ∧
            ∃ bs75 : List UInt8, bs75.length = (25 : Int).toNat - (1 : Int).toNat ∧ RowAt w_12 (sliceBase a27_0 c27_0 ((1 : Int).toNat) 1) (bs75.map bV) ∧
            withP p0 fun g77 o77 =>
            ∃ (x79 : Int), w_12.cell? ⟨g77, o77 + 3, none⟩ = some (.int .i64 x79) ∧
            withP p0 fun g81 o81 =>
            ∃ (x83 : Int), w_12.cell? ⟨g81, o81 + 5, none⟩ = some (.int .i64 x83) ∧
            Calls Try.prog 63 #[.int .i64 x79, .int .i64 x83, .slice a9 x36_0.toNat c9] w_12 fun e_5 w_13 => KeepG [] w_12 w_13 ∧
            ∃ (a85 : Option Addr) (n85 : Nat) (c85 : Nat),
            e_5 = .returned (.slice a85 n85 c85) ∧
            RowAt w_13 (sliceBase a27_0 c27_0 ((1 : Int).toNat) 1) (bs75.map bV) ∧
            ∃ bs86 : List UInt8, bs86.length = n85 ∧ RowAt w_13 a85 (bs86.map bV) ∧
            br (decide ((strOf bs75) ≠ (strOf bs86))) (
              K (.tuple #[.slice none 0 0, .bool false, .int .i64 0]) w_13
            ) (
              Calls Try.prog 79 #[.slice a9 x36_0.toNat c9] w_13 fun e_6 w_14 => KeepG [] w_13 w_14 ∧
              ∃ (a90_0 : Option Addr) (n90_0 : Nat) (c90_0 : Nat) (b90_1 : Bool),
              e_6 = .returned (.tuple #[.slice a90_0 n90_0 c90_0, .bool b90_1]) ∧
              K (.tuple #[.slice a90_0 n90_0 c90_0, .bool b90_1, .int .i64 0]) w_14
            )
          )
        )
      )
    )
  )
def next_notes : Notes := ⟨[(1, ⟨[0, 1, 3, 7, 0, 16, 48, 112, 255], [], [0, 1, 2, 3, 4, 5, 6, 7, 8]⟩), (10, ⟨[0, 0, 2, 6, 14, 30, 0, 64, 192, 511, 1023, 2047, 2047, 4095, 16383], [7, 9], [0, 1, 2, 3, 4, 5, 6, 8, 10, 11, 12, 13, 14]⟩), (17, ⟨[0, 1, 3, 0, 8, 24, 56, 0, 128, 384, 896, 0, 4088, 8184, 16383], [12], [0, 1, 2, 3, 4, 5, 6, 7, 8, 9, 10, 11, 13, 14]⟩)], [(13, ⟨[(9, .lf (.slice)), (10, .lf (.slice))], [], [61, 62, 63, 66, 67, 68, 69, 9, 64, 65, 10], []⟩)], [], []⟩
theorem next_calls (p0 : Option Addr) (w : World) (K : Value → World → Prop) (h : next_vc p0 w K) : Calls Try.prog 59 #[.pointer p0] w fun e w' => ∃ v, e = .returned v ∧ K v w' :=
  calls_of_fvc envOk Try.func59 next_notes [] [.pointer p0] w K (use_vc h (by as_aux_lemma => kernel_rfl))
/-- purser/frame.Open -/
def open_vc (p0 : Option Addr) (x1 : Int) (x2 : Int) (x3 : Int) (w : World) (K : Value → World → Prop) : Prop :=
  ∃ (I : Option Addr → Option Addr → Nat → Nat → World → Prop) (μ : Option Addr → Option Addr → Nat → Nat → World → Nat),
  (
    br (Option.isNone p0) (
      K (.tuple #[.pointer none, .slice none 0 0, .int .i64 1]) w
    ) (
      br (decide (x1 < 0)) (
        K (.tuple #[.pointer none, .slice none 0 0, .int .i64 1]) w
      ) (
        br (decide (x3 < 0)) (
          K (.tuple #[.pointer none, .slice none 0 0, .int .i64 1]) w
        ) (
          br (decide (x2 < 1)) (
            K (.tuple #[.pointer none, .slice none 0 0, .int .i64 1]) w
          ) (
            Calls Try.prog 58 #[.pointer p0] w fun e w_2 => KeepG [] w w_2 ∧
            ∃ (x33 : Int),
            e = .returned (.int .i64 x33) ∧
            br (decide (x2 > x33)) (
              K (.tuple #[.pointer none, .slice none 0 0, .int .i64 1]) w_2
            ) (
              Calls Try.prog 58 #[.pointer p0] w_2 fun e_2 w_3 => KeepG [] w_2 w_3 ∧
              ∃ (x39 : Int),
              e_2 = .returned (.int .i64 x39) ∧
              br (decide (x1 > (IntKind.i64.wrap (x39 - x2)))) (
                K (.tuple #[.pointer none, .slice none 0 0, .int .i64 1]) w_3
              ) (
                newO w_3 (.cells #[.pointer p0, .int .i64 x1, .int .i64 x2, .int .i64 x3, .int .i64 0, .int .i64 0] 114) fun g w_4 =>
                Calls Try.prog 59 #[.pointer (some ⟨g, 0, none⟩)] w_4 fun e_3 w_5 => KeepG [] w_4 w_5 ∧
                ∃ (a52_0 : Option Addr) (n52_0 : Nat) (c52_0 : Nat) (b52_1 : Bool) (x52_2 : Int),
                e_3 = .returned (.tuple #[.slice a52_0 n52_0 c52_0, .bool b52_1, .int .i64 x52_2]) ∧
                br (decide (x52_2 ≠ 0)) (
                  K (.tuple #[.pointer none, .slice none 0 0, .int .i64 x52_2]) w_5
                ) (
                  br (!b52_1) (
                    K (.tuple #[.pointer (some ⟨g, 0, none⟩), .slice none 0 0, .int .i64 0]) w_5
                  ) (
                    appO Try.prog [] w_5 22 1 24 44 none 0 0 (.slice a52_0 n52_0 c52_0) fun m65 a65 c65 w_6 =>
                    drewO w_6 fun w_7 =>
                    ∃ (x69 : Int), w_7.cell? ⟨g, 4, none⟩ = some (.int .i64 x69) ∧
                    Calls Try.prog 30 #[.slice a52_0 n52_0 c52_0] w_7 fun e_4 w_8 => KeepG [] w_7 w_8 ∧
                    ∃ (x71 : Int),
                    e_4 = .returned (.int .i64 x71) ∧
                    w_8.cell? ⟨g, 4, none⟩ = some (.int .i64 x69) ∧
                    stO [] w_8 g 4 [.int .i64 (IntKind.i64.wrap (x69 + x71))] fun w_9 =>
                    ∃ (x78 : Int), w_9.cell? ⟨g, 5, none⟩ = some (.int .i64 x78) ∧
                    stO [] w_9 g 5 [.int .i64 (IntKind.i64.wrap (x78 + 1))] fun w_10 =>
                    I (some ⟨g, 0, none⟩) a65 (0 + m65) c65 w_10
                  )
                )
              )
            )
          )
        )
      )
    )
  ) ∧
  ∀ (p11 : Option Addr) (a12 : Option Addr) (n12 : Nat) (c12 : Nat) (w_11 : World), I p11 a12 n12 c12 w_11 →
  Calls Try.prog 59 #[.pointer p11] w_11 fun e_5 w_12 => KeepG [] w_11 w_12 ∧
  ∃ (a52_0_2 : Option Addr) (n52_0_2 : Nat) (c52_0_2 : Nat) (b52_1_2 : Bool) (x52_2_2 : Int),
  e_5 = .returned (.tuple #[.slice a52_0_2 n52_0_2 c52_0_2, .bool b52_1_2, .int .i64 x52_2_2]) ∧
  br (decide (x52_2_2 ≠ 0)) (
    K (.tuple #[.pointer none, .slice none 0 0, .int .i64 x52_2_2]) w_12
  ) (
    br (!b52_1_2) (
      K (.tuple #[.pointer p11, .slice a12 n12 c12, .int .i64 0]) w_12
    ) (
      appO Try.prog [] w_12 22 1 24 44 a12 n12 c12 (.slice a52_0_2 n52_0_2 c52_0_2) fun m65_2 a65_2 c65_2 w_13 =>
      drewO w_13 fun w_14 =>
      withP p11 fun g67 o67 =>
      ∃ (x69_2 : Int), w_14.cell? ⟨g67, o67 + 4, none⟩ = some (.int .i64 x69_2) ∧
      Calls Try.prog 30 #[.slice a52_0_2 n52_0_2 c52_0_2] w_14 fun e_6 w_15 => KeepG [] w_14 w_15 ∧
      ∃ (x71_2 : Int),
      e_6 = .returned (.int .i64 x71_2) ∧
      w_15.cell? ⟨g67, o67 + 4, none⟩ = some (.int .i64 x69_2) ∧
      withP p11 fun g73 o73 =>
      stO [] w_15 g73 (o73 + 4) [.int .i64 (IntKind.i64.wrap (x69_2 + x71_2))] fun w_16 =>
      withP p11 fun g76 o76 =>
      ∃ (x78_2 : Int), w_16.cell? ⟨g76, o76 + 5, none⟩ = some (.int .i64 x78_2) ∧
      withP p11 fun g80 o80 =>
      stO [] w_16 g80 (o80 + 5) [.int .i64 (IntKind.i64.wrap (x78_2 + 1))] fun w_17 =>
      I p11 a65_2 (n12 + m65_2) c65_2 w_17 ∧ μ p11 a65_2 (n12 + m65_2) c65_2 w_17 < μ p11 a12 n12 c12 w_11
    )
  )
def open_notes : Notes := ⟨[(11, ⟨[0, 1, 3, 7, 0, 16, 63, 127, 255, 511], [5, 9], [0, 1, 2, 3, 4, 6, 7, 8]⟩)], [], [], [(1, 0, ⟨[(11, .lf (.ptr)), (12, .lf (.slice))], [], [16, 17, 18, 19, 20, 21, 22, 23, 24, 25, 26, 27, 28, 29, 30, 31, 32, 33, 34, 35, 36, 37, 38, 39, 40, 41, 42, 43, 8, 9, 10, 44, 45, 46, 47, 48, 49, 11, 12, 51, 52, 50, 53, 54, 55, 13, 14, 15, 56, 57, 58, 59, 60, 61, 62, 63, 64, 65, 66, 67, 68, 69, 70, 71, 72, 73, 74, 75, 76, 77, 78, 79, 80, 81], []⟩)]⟩
theorem open_calls (p0 : Option Addr) (x1 : Int) (x2 : Int) (x3 : Int) (w : World) (K : Value → World → Prop) (h : open_vc p0 x1 x2 x3 w K) : Calls Try.prog 22 #[.pointer p0, .int .i64 x1, .int .i64 x2, .int .i64 x3] w fun e w' => ∃ v, e = .returned v ∧ K v w' :=
  calls_of_fvc envOk Try.func22 open_notes [] [.pointer p0, .int .i64 x1, .int .i64 x2, .int .i64 x3] w K (use_vc h (by as_aux_lemma => kernel_rfl))
/-- (*purser/frame.Log).tail -/
def tail_vc (p0 : Option Addr) (a1 : Option Addr) (n1 : Nat) (c1 : Nat) (w : World) (K : Value → World → Prop) : Prop :=
  br (decide (((n1 : Nat) : Int) ≤ 39)) (
    K (.int .i64 0) w
  ) (
    (0 : Int) ≤ (39 : Int) ∧ (39 : Int) ≤ (((n1 : Nat) : Int) : Int) ∧
    ∃ (I : Option Addr → Nat → Nat → Option Addr → Nat → Nat → World → Prop) (μ : Option Addr → Nat → Nat → Option Addr → Nat → Nat → World → Nat),
    I (sliceBase a1 c1 ((39 : Int).toNat) 1) (n1 - (39 : Int).toNat) (c1 - (39 : Int).toNat) none 0 0 w ∧
    ∀ (a1_2 : Option Addr) (n1_2 : Nat) (c1_2 : Nat) (a5 : Option Addr) (n5 : Nat) (c5 : Nat) (w_2 : World), I a1_2 n1_2 c1_2 a5 n5 c5 w_2 →
    br (decide (((n1_2 : Nat) : Int) > 0)) (
      drewO w_2 fun w_3 =>
      (0 : Int) ≤ min ((n1_2 : Nat) : Int) 63 ∧ min ((n1_2 : Nat) : Int) 63 ≤ (((c1_2 : Nat) : Int) : Int) ∧
      newO w_3 (.cells #[.int .u8 2] 5) fun g w_4 =>
      appO Try.prog [] w_4 5 1 1 22 a5 n5 c5 (.slice (some ⟨g, 0, none⟩) 1 1) fun m22 a22 c22 w_5 =>
      appO Try.prog [] w_5 5 1 1 22 a22 (n5 + m22) c22 (.slice a1_2 ((min ((n1_2 : Nat) : Int) 63).toNat) c1_2) fun m28 a28 c28 w_6 =>
      Calls Try.prog 64 #[.slice a28 ((n5 + m22) + m28) c28] w_6 fun e w_7 => KeepG [] w_6 w_7 ∧
      ∃ (a29 : Option Addr) (n29 : Nat) (c29 : Nat),
      e = .returned (.slice a29 n29 c29) ∧
      (0 : Int) ≤ min ((n1_2 : Nat) : Int) 63 ∧ min ((n1_2 : Nat) : Int) 63 ≤ (((n1_2 : Nat) : Int) : Int) ∧
      I (sliceBase a1_2 c1_2 ((min ((n1_2 : Nat) : Int) 63).toNat) 1) (n1_2 - (min ((n1_2 : Nat) : Int) 63).toNat) (c1_2 - (min ((n1_2 : Nat) : Int) 63).toNat) a29 n29 c29 w_7 ∧ μ (sliceBase a1_2 c1_2 ((min ((n1_2 : Nat) : Int) 63).toNat) 1) (n1_2 - (min ((n1_2 : Nat) : Int) 63).toNat) (c1_2 - (min ((n1_2 : Nat) : Int) 63).toNat) a29 n29 c29 w_7 < μ a1_2 n1_2 c1_2 a5 n5 c5 w_2
    ) (
      drewO w_2 fun w_8 =>
      withP p0 fun g31 o31 =>
      ∃ (p33 : Option Addr), w_8.cell? ⟨g31, o31, none⟩ = some (.pointer p33) ∧
      withP p0 fun g35 o35 =>
      ∃ (x37 : Int), w_8.cell? ⟨g35, o35 + 1, none⟩ = some (.int .i64 x37) ∧
      withP p0 fun g39 o39 =>
      ∃ (x41 : Int), w_8.cell? ⟨g39, o39 + 4, none⟩ = some (.int .i64 x41) ∧
      Calls Try.prog 17 #[.pointer p33, .int .i64 (IntKind.i64.wrap ((IntKind.i64.wrap (x37 + x41)) + 1)), .slice a5 n5 c5] w_8 fun e_2 w_9 => KeepG [] w_8 w_9 ∧
      ∃ (x45 : Int),
      e_2 = .returned (.int .i64 x45) ∧
      br (decide (x45 ≠ 0)) (
        K (.int .i64 x45) w_9
      ) (
        withP p0 fun g50 o50 =>
        ∃ (p52 : Option Addr), w_9.cell? ⟨g50, o50, none⟩ = some (.pointer p52) ∧
        Calls Try.prog 65 #[.pointer p52] w_9 fun e_3 w_10 => KeepG [] w_9 w_10 ∧
        ∃ (x53 : Int),
        e_3 = .returned (.int .i64 x53) ∧
        K (.int .i64 x53) w_10
      )
    )
  )
def tail_notes : Notes := ⟨[(7, ⟨[0, 0, 3, 0, 0, 16, 48, 120, 255, 511, 1023], [1, 2, 8, 9], [0, 3, 4, 5, 6, 7, 10]⟩), (8, ⟨[0, 1, 3, 7, 0, 16, 48, 112, 0, 256, 768, 1792, 4080, 8176, 0, 32767, 65535], [15], [0, 1, 2, 3, 4, 5, 6, 7, 8, 9, 10, 11, 12, 13, 14, 16]⟩)], [(5, ⟨[(1, .lf (.slice)), (5, .lf (.slice))], [], [12, 13, 14, 20, 21, 22, 23, 24, 25, 26, 27, 28, 29, 5, 15, 16, 17, 18, 19, 1], []⟩)], [], []⟩
theorem tail_calls (p0 : Option Addr) (a1 : Option Addr) (n1 : Nat) (c1 : Nat) (w : World) (K : Value → World → Prop) (h : tail_vc p0 a1 n1 c1 w K) : Calls Try.prog 62 #[.pointer p0, .slice a1 n1 c1] w fun e w' => ∃ v, e = .returned v ∧ K v w' :=
  calls_of_fvc envOk Try.func62 tail_notes [] [.pointer p0, .slice a1 n1 c1] w K (use_vc h (by as_aux_lemma => kernel_rfl))
/-- (*purser/frame.Log).Append -/
def append_k1 (K : Value → World → Prop) (p0 : Option Addr) (a14 : Option Addr) (n14 : Nat) (c14 : Nat) (x17 : Int) (a8 : Option Addr) (n8 : Nat) (c8 : Nat) (w_10 : World) : Prop :=
  drewO w_10 fun w_11 =>
  withP p0 fun g58 o58 =>
  ∃ (p60 : Option Addr), w_11.cell? ⟨g58, o58, none⟩ = some (.pointer p60) ∧
  withP p0 fun g62 o62 =>
  ∃ (x64 : Int), w_11.cell? ⟨g62, o62 + 1, none⟩ = some (.int .i64 x64) ∧
  withP p0 fun g66 o66 =>
  ∃ (x68 : Int), w_11.cell? ⟨g66, o66 + 4, none⟩ = some (.int .i64 x68) ∧
  (0 : Int) ≤ min ((n14 : Nat) : Int) 39 ∧ min ((n14 : Nat) : Int) 39 ≤ (((c14 : Nat) : Int) : Int) ∧
  appO Try.prog [] w_11 5 1 1 22 a8 n8 c8 (.slice a14 ((min ((n14 : Nat) : Int) 39).toNat) c14) fun m76 a76 c76 w_12 =>
  w_12.cell? ⟨g58, o58, none⟩ = some (.pointer p60) ∧
  w_12.cell? ⟨g62, o62 + 1, none⟩ = some (.int .i64 x64) ∧
  w_12.cell? ⟨g66, o66 + 4, none⟩ = some (.int .i64 x68) ∧
  Calls Try.prog 64 #[.slice a76 (n8 + m76) c76] w_12 fun e_5 w_13 => KeepG [] w_12 w_13 ∧
  ∃ (a77 : Option Addr) (n77 : Nat) (c77 : Nat),
  e_5 = .returned (.slice a77 n77 c77) ∧
  w_13.cell? ⟨g58, o58, none⟩ = some (.pointer p60) ∧
  w_13.cell? ⟨g62, o62 + 1, none⟩ = some (.int .i64 x64) ∧
  w_13.cell? ⟨g66, o66 + 4, none⟩ = some (.int .i64 x68) ∧
  Calls Try.prog 17 #[.pointer p60, .int .i64 (IntKind.i64.wrap (x64 + x68)), .slice a77 n77 c77] w_13 fun e_6 w_14 => KeepG [] w_13 w_14 ∧
  ∃ (x78 : Int),
  e_6 = .returned (.int .i64 x78) ∧
  br (decide (x78 ≠ 0)) (
    K (.int .i64 x78) w_14
  ) (
    withP p0 fun g83 o83 =>
    ∃ (p85 : Option Addr), w_14.cell? ⟨g83, o83, none⟩ = some (.pointer p85) ∧
    Calls Try.prog 65 #[.pointer p85] w_14 fun e_7 w_15 => KeepG [] w_14 w_15 ∧
    ∃ (x86 : Int),
    e_7 = .returned (.int .i64 x86) ∧
    br (decide (x86 ≠ 0)) (
      K (.int .i64 x86) w_15
    ) (
      withP p0 fun g91 o91 =>
      ∃ (x93 : Int), w_15.cell? ⟨g91, o91 + 4, none⟩ = some (.int .i64 x93) ∧
      withP p0 fun g96 o96 =>
      stO [] w_15 g96 (o96 + 4) [.int .i64 (IntKind.i64.wrap (x93 + x17))] fun w_16 =>
      withP p0 fun g99 o99 =>
      ∃ (x101 : Int), w_16.cell? ⟨g99, o99 + 5, none⟩ = some (.int .i64 x101) ∧
      withP p0 fun g103 o103 =>
      stO [] w_16 g103 (o103 + 5) [.int .i64 (IntKind.i64.wrap (x101 + 1))] fun w_17 =>
      K (.int .i64 0) w_17
    )
  )
def append_vc (p0 : Option Addr) (a1 : Option Addr) (n1 : Nat) (c1 : Nat) (w : World) (K : Value → World → Prop) : Prop :=
  br (Option.isNone p0) (
    K (.int .i64 1) w
  ) (
    Calls Try.prog 60 #[.slice a1 n1 c1] w fun e w_2 => KeepG [] w w_2 ∧
    ∃ (a14 : Option Addr) (n14 : Nat) (c14 : Nat),
    e = .returned (.slice a14 n14 c14) ∧
    Calls Try.prog 61 #[.int .i64 ((n14 : Nat) : Int)] w_2 fun e_2 w_3 => KeepG [] w_2 w_3 ∧
    ∃ (x17 : Int),
    e_2 = .returned (.int .i64 x17) ∧
    br (decide (((n1 : Nat) : Int) = 0)) (
      K (.int .i64 0) w_3
    ) (
      drewO w_3 fun w_4 =>
      br (decide (((n14 : Nat) : Int) > 2147483647)) (
        K (.int .i64 11) w_4
      ) (
        withP p0 fun g29 o29 =>
        ∃ (x31 : Int), w_4.cell? ⟨g29, o29 + 2, none⟩ = some (.int .i64 x31) ∧
        withP p0 fun g33 o33 =>
        ∃ (x35 : Int), w_4.cell? ⟨g33, o33 + 4, none⟩ = some (.int .i64 x35) ∧
        br (decide (x17 > (IntKind.i64.wrap (x31 - x35)))) (
          K (.int .i64 11) w_4
        ) (
          Calls Try.prog 62 #[.pointer p0, .slice a14 n14 c14] w_4 fun e_3 w_5 => KeepG [] w_4 w_5 ∧
          ∃ (x41 : Int),
          e_3 = .returned (.int .i64 x41) ∧
          br (decide (x41 ≠ 0)) (
            K (.int .i64 x41) w_5
          ) (
            drewO w_5 fun w_6 =>
            withP p0 fun g47 o47 =>
            ∃ (x49 : Int), w_6.cell? ⟨g47, o47 + 3, none⟩ = some (.int .i64 x49) ∧
            withP p0 fun g51 o51 =>
            ∃ (x53 : Int), w_6.cell? ⟨g51, o51 + 5, none⟩ = some (.int .i64 x53) ∧
            (
              newO w_6 (.cells #[.int .u8 1] 5) fun g w_7 =>
              w_7.cell? ⟨g47, o47 + 3, none⟩ = some (.int .i64 x49) ∧
              w_7.cell? ⟨g51, o51 + 5, none⟩ = some (.int .i64 x53) ∧
              Calls Try.prog 63 #[.int .i64 x49, .int .i64 x53, .slice a14 n14 c14] w_7 fun e_4 w_8 => KeepG [] w_7 w_8 ∧
              ∃ (a55 : Option Addr) (n55 : Nat) (c55 : Nat),
              e_4 = .returned (.slice a55 n55 c55) ∧
              appO Try.prog [] w_8 5 1 1 22 (some ⟨g, 0, none⟩) 1 1 (.slice a55 n55 c55) fun m56 a56 c56 w_9 =>
              append_k1 K p0 a14 n14 c14 x17 a56 (1 + m56) c56 w_9
            ) ∧
            (
              Calls Try.prog 63 #[.int .i64 x49, .int .i64 x53, .slice a14 n14 c14] w_6 fun e_8 w_18 => KeepG [] w_6 w_18 ∧
              ∃ (a55_2 : Option Addr) (n55_2 : Nat) (c55_2 : Nat),
              e_8 = .returned (.slice a55_2 n55_2 c55_2) ∧
              newO w_18 (.cells #[.int .u8 1] 5) fun g_2 w_19 =>
              appO Try.prog [] w_19 5 1 1 22 (some ⟨g_2, 0, none⟩) 1 1 (.slice a55_2 n55_2 c55_2) fun m56_2 a56_2 c56_2 w_20 =>
              append_k1 K p0 a14 n14 c14 x17 a56_2 (1 + m56_2) c56_2 w_20
            )
          )
        )
      )
    )
  )
def append_notes : Notes := ⟨[(7, ⟨[0, 1, 3, 7, 15, 15, 47, 111, 239, 15, 527, 1551, 3599, 8175, 16383, 32767, 65535], [], [0, 1, 2, 3, 4, 5, 6, 7, 8, 9, 10, 11, 12, 13, 14, 15, 16]⟩), (12, ⟨[0, 0, 2, 6, 14, 0, 32, 96, 224, 0, 1022, 2047, 4095], [0, 10, 11], [1, 2, 3, 4, 5, 6, 7, 8, 9, 12]⟩), (13, ⟨[0, 1, 3, 7, 0, 16, 48, 112, 0, 256, 768, 1792, 4080, 0, 0, 0, 32768, 98304, 245760, 516096, 1040384, 2097151, 4194303], [19, 20, 21], [0, 1, 2, 3, 4, 5, 6, 7, 8, 9, 10, 11, 12, 13, 14, 15, 16, 17, 18, 22]⟩)], [], [], []⟩
theorem append_calls (p0 : Option Addr) (a1 : Option Addr) (n1 : Nat) (c1 : Nat) (w : World) (K : Value → World → Prop) (h : append_vc p0 a1 n1 c1 w K) : Calls Try.prog 26 #[.pointer p0, .slice a1 n1 c1] w fun e w' => ∃ v, e = .returned v ∧ K v w' :=
  calls_of_fvc envOk Try.func26 append_notes [] [.pointer p0, .slice a1 n1 c1] w K (use_vc h (by as_aux_lemma => kernel_rfl))
/-- (*purser/frame.Log).Groups -/
def groups_vc (p0 : Option Addr) (w : World) (K : Value → World → Prop) : Prop :=
  br (Option.isNone p0) (
    K (.int .i64 0) w
  ) (
    withP p0 fun g6 o6 =>
    ∃ (x8 : Int), w.cell? ⟨g6, o6 + 5, none⟩ = some (.int .i64 x8) ∧
    K (.int .i64 x8) w
  )
def groups_notes : Notes := ⟨[], [], [], []⟩
theorem groups_calls (p0 : Option Addr) (w : World) (K : Value → World → Prop) (h : groups_vc p0 w K) : Calls Try.prog 27 #[.pointer p0] w fun e w' => ∃ v, e = .returned v ∧ K v w' :=
  calls_of_fvc envOk Try.func27 groups_notes [] [.pointer p0] w K (use_vc h (by as_aux_lemma => kernel_rfl))
/-- (*purser/frame.Log).Left -/
def left_vc (p0 : Option Addr) (w : World) (K : Value → World → Prop) : Prop :=
  br (Option.isNone p0) (
    K (.int .i64 0) w
  ) (
    drewO w fun w_2 =>
    withP p0 fun g6 o6 =>
    ∃ (x8 : Int), w_2.cell? ⟨g6, o6 + 2, none⟩ = some (.int .i64 x8) ∧
    withP p0 fun g10 o10 =>
    ∃ (x12 : Int), w_2.cell? ⟨g10, o10 + 4, none⟩ = some (.int .i64 x12) ∧
    K (.int .i64 (IntKind.i64.wrap (x8 - x12))) w_2
  )
def left_notes : Notes := ⟨[(3, ⟨[0, 1, 3, 7, 0, 16, 48, 112, 255, 511], [], [0, 1, 2, 3, 4, 5, 6, 7, 8, 9]⟩)], [], [], []⟩
theorem left_calls (p0 : Option Addr) (w : World) (K : Value → World → Prop) (h : left_vc p0 w K) : Calls Try.prog 28 #[.pointer p0] w fun e w' => ∃ v, e = .returned v ∧ K v w' :=
  calls_of_fvc envOk Try.func28 left_notes [] [.pointer p0] w K (use_vc h (by as_aux_lemma => kernel_rfl))
/-- (*purser/frame.Log).Gen -/
def gen_vc (p0 : Option Addr) (w : World) (K : Value → World → Prop) : Prop :=
  br (Option.isNone p0) (
    K (.int .i64 0) w
  ) (
    withP p0 fun g6 o6 =>
    ∃ (x8 : Int), w.cell? ⟨g6, o6 + 3, none⟩ = some (.int .i64 x8) ∧
    K (.int .i64 x8) w
  )
def gen_notes : Notes := ⟨[], [], [], []⟩
theorem gen_calls (p0 : Option Addr) (w : World) (K : Value → World → Prop) (h : gen_vc p0 w K) : Calls Try.prog 29 #[.pointer p0] w fun e w' => ∃ v, e = .returned v ∧ K v w' :=
  calls_of_fvc envOk Try.func29 gen_notes [] [.pointer p0] w K (use_vc h (by as_aux_lemma => kernel_rfl))
/-- purser/purserref05.number -/
def rnumber_vc (x0 : Int) (x1 : Int) (w : World) (K : Value → World → Prop) : Prop :=
  ∃ (I : ByteArray → Int → World → Prop) (μ : ByteArray → Int → World → Nat),
  I (⟨#[]⟩ : ByteArray) (IntKind.i64.wrap (x1 - 1)) w ∧
  ∀ (s5 : ByteArray) (x6 : Int) (w_2 : World), I s5 x6 w_2 →
  br (decide (x6 ≥ 0)) (
    (0 : Int) ≤ (IntKind.i64.wrap (8 * x6)) ∧
    Calls Try.prog 83 #[.int .i64 (IntKind.i64.wrap (bitsV .and .u64 (Int.fdiv x0 (2 ^ (min (IntKind.i64.wrap (8 * x6)).toNat (IntKind.bits .u64)))) 255))] w_2 fun e w_3 => KeepG [] w_2 w_3 ∧
    ∃ (s20 : ByteArray),
    e = .returned (.string s20) ∧
    s5.size + s20.size ≤ 9223372036854775807 ∧
    I (s5 ++ s20) (IntKind.i64.wrap (x6 - 1)) w_3 ∧ μ (s5 ++ s20) (IntKind.i64.wrap (x6 - 1)) w_3 < μ s5 x6 w_2
  ) (
    K (.string s5) w_2
  )
def rnumber_notes : Notes := ⟨[], [(3, ⟨[(5, .lf (.str)), (6, .lf (.int .i64))], [], [9, 10, 13, 14, 15, 16, 17, 18, 19, 20, 21, 5, 11, 12, 6], []⟩)], [], []⟩
theorem rnumber_calls (x0 : Int) (x1 : Int) (w : World) (K : Value → World → Prop) (h : rnumber_vc x0 x1 w K) : Calls Try.prog 71 #[.int .u64 x0, .int .i64 x1] w fun e w' => ∃ v, e = .returned v ∧ K v w' :=
  calls_of_fvc envOk Try.func71 rnumber_notes [] [.int .u64 x0, .int .i64 x1] w K (use_vc h (by as_aux_lemma => kernel_rfl))
/-- purser/purserref05.Bytes -/
def rbytes_vc (a0 : Option Addr) (n0 : Nat) (c0 : Nat) (w : World) (K : Value → World → Prop) : Prop :=
  ∃ (I : ByteArray → Int → World → Prop) (μ : ByteArray → Int → World → Nat),
  I (⟨#[]⟩ : ByteArray) 0 w ∧
  ∀ (s3 : ByteArray) (x4 : Int) (w_2 : World), I s3 x4 w_2 →
  br (decide (x4 < ((n0 : Nat) : Int))) (
    withP a0 fun g14 o14 =>
    (0 : Int) ≤ x4 ∧ x4 < (((n0 : Nat) : Int) : Int) ∧
    ∃ (a15 : Option Addr) (n15 : Nat) (c15 : Nat), w_2.cell? ⟨g14, o14 + x4.toNat * 1, none⟩ = some (.slice a15 n15 c15) ∧
    ∃ bs16 : List UInt8, bs16.length = n15 ∧ RowAt w_2 a15 (bs16.map bV) ∧
    Calls Try.prog 70 #[.string (strOf bs16)] w_2 fun e w_3 => KeepG [] w_2 w_3 ∧
    ∃ (s17 : ByteArray),
    e = .returned (.string s17) ∧
    s3.size + s17.size ≤ 9223372036854775807 ∧
    I (s3 ++ s17) (IntKind.i64.wrap (x4 + 1)) w_3 ∧ μ (s3 ++ s17) (IntKind.i64.wrap (x4 + 1)) w_3 < μ s3 x4 w_2
  ) (
    K (.string s3) w_2
  )
def rbytes_notes : Notes := ⟨[], [(3, ⟨[(3, .lf (.str)), (4, .lf (.int .i64))], [], [5, 6, 7, 8, 11, 12, 13, 14, 15, 16, 17, 18, 3, 9, 10, 4], []⟩)], [], []⟩
theorem rbytes_calls (a0 : Option Addr) (n0 : Nat) (c0 : Nat) (w : World) (K : Value → World → Prop) (h : rbytes_vc a0 n0 c0 w K) : Calls Try.prog 42 #[.slice a0 n0 c0] w fun e w' => ∃ v, e = .returned v ∧ K v w' :=
  calls_of_fvc envOk Try.func42 rbytes_notes [] [.slice a0 n0 c0] w K (use_vc h (by as_aux_lemma => kernel_rfl))
/-- purser/purserref05.Sectors -/
def rsectors_vc (a0 : Option Addr) (n0 : Nat) (c0 : Nat) (w : World) (K : Value → World → Prop) : Prop :=
  Calls Try.prog 42 #[.slice a0 n0 c0] w fun e w_2 => KeepG [] w w_2 ∧
  ∃ (s7 : ByteArray),
  e = .returned (.string s7) ∧
  ∃ (I : Int → Int → World → Prop) (μ : Int → Int → World → Nat),
  I 1 (IntKind.i64.wrap (((s7.size : Nat) : Int) - 39)) w_2 ∧
  ∀ (x4 : Int) (x5 : Int) (w_3 : World), I x4 x5 w_3 →
  br (decide (x5 > 0)) (
    I (IntKind.i64.wrap (x4 + 1)) (IntKind.i64.wrap (x5 - 63)) w_3 ∧ μ (IntKind.i64.wrap (x4 + 1)) (IntKind.i64.wrap (x5 - 63)) w_3 < μ x4 x5 w_3
  ) (
    K (.int .i64 x4) w_3
  )
def rsectors_notes : Notes := ⟨[], [(4, ⟨[(4, .lf (.int .i64)), (5, .lf (.int .i64))], [], [11, 12, 15, 16, 4, 13, 14, 5], []⟩)], [], []⟩
theorem rsectors_calls (a0 : Option Addr) (n0 : Nat) (c0 : Nat) (w : World) (K : Value → World → Prop) (h : rsectors_vc a0 n0 c0 w K) : Calls Try.prog 31 #[.slice a0 n0 c0] w fun e w' => ∃ v, e = .returned v ∧ K v w' :=
  calls_of_fvc envOk Try.func31 rsectors_notes [] [.slice a0 n0 c0] w K (use_vc h (by as_aux_lemma => kernel_rfl))
/-- purser/purserref05.pad -/
def rpad_vc (s0 : ByteArray) (w : World) (K : Value → World → Prop) : Prop :=
  (0 : Int) ≤ IntKind.i64.wrap (64 - ((s0.size : Nat) : Int)) ∧ IntKind.i64.wrap (64 - ((s0.size : Nat) : Int)) ≤ IntKind.i64.wrap (64 - ((s0.size : Nat) : Int)) ∧ ((1 : Nat) : Int) * (IntKind.i64.wrap (64 - ((s0.size : Nat) : Int))) ≤ 281474976710656 ∧ IntKind.i64.wrap (64 - ((s0.size : Nat) : Int)) ≤ 9223372036854775807 ∧
  newO w (.cells (madeCells (Value.cells (.int .u8 0)) ((IntKind.i64.wrap (64 - ((s0.size : Nat) : Int))).toNat * 1)) 5) fun g w_2 =>
  ∃ bs8 : List UInt8, bs8.length = (IntKind.i64.wrap (64 - ((s0.size : Nat) : Int))).toNat ∧ RowAt w_2 (some ⟨g, 0, none⟩) (bs8.map bV) ∧
  s0.size + (strOf bs8).size ≤ 9223372036854775807 ∧
  K (.string (s0 ++ (strOf bs8))) w_2
def rpad_notes : Notes := ⟨[], [], [], []⟩
theorem rpad_calls (s0 : ByteArray) (w : World) (K : Value → World → Prop) (h : rpad_vc s0 w K) : Calls Try.prog 72 #[.string s0] w fun e w' => ∃ v, e = .returned v ∧ K v w' :=
  calls_of_fvc envOk Try.func72 rpad_notes [] [.string s0] w K (use_vc h (by as_aux_lemma => kernel_rfl))
/-- purser/purserref05.Lay -/
def rlay_vc (x0 : Int) (x1 : Int) (a2 : Option Addr) (n2 : Nat) (c2 : Nat) (w : World) (K : Value → World → Prop) : Prop :=
  Calls Try.prog 42 #[.slice a2 n2 c2] w fun e w_2 => KeepG [] w w_2 ∧
  ∃ (s13 : ByteArray),
  e = .returned (.string s13) ∧
  Calls Try.prog 71 #[.int .u64 (IntKind.u64.wrap x0), .int .i64 8] w_2 fun e_2 w_3 => KeepG [] w_2 w_3 ∧
  ∃ (s16 : ByteArray),
  e_2 = .returned (.string s16) ∧
  Calls Try.prog 71 #[.int .u64 (IntKind.u64.wrap x1), .int .i64 8] w_3 fun e_3 w_4 => KeepG [] w_3 w_4 ∧
  ∃ (s19 : ByteArray),
  e_3 = .returned (.string s19) ∧
  s16.size + s19.size ≤ 9223372036854775807 ∧
  Calls Try.prog 71 #[.int .u64 (IntKind.u64.wrap ((s13.size : Nat) : Int)), .int .i64 4] w_4 fun e_4 w_5 => KeepG [] w_4 w_5 ∧
  ∃ (s24 : ByteArray),
  e_4 = .returned (.string s24) ∧
  (s16 ++ s19).size + s24.size ≤ 9223372036854775807 ∧
  ((s16 ++ s19) ++ s24).size + s13.size ≤ 9223372036854775807 ∧
  Calls Try.prog 67 #[.string (((s16 ++ s19) ++ s24) ++ s13)] w_5 fun e_5 w_6 => KeepG [] w_5 w_6 ∧
  ∃ (x29 : Int),
  e_5 = .returned (.int .u32 x29) ∧
  Calls Try.prog 71 #[.int .u64 (IntKind.u64.wrap x29), .int .i64 4] w_6 fun e_6 w_7 => KeepG [] w_6 w_7 ∧
  ∃ (s31 : ByteArray),
  e_6 = .returned (.string s31) ∧
  (⟨#[1]⟩ : ByteArray).size + ((s16 ++ s19) ++ s24).size ≤ 9223372036854775807 ∧
  ((⟨#[1]⟩ : ByteArray) ++ ((s16 ++ s19) ++ s24)).size + s31.size ≤ 9223372036854775807 ∧
  (0 : Int) ≤ min ((s13.size : Nat) : Int) 39 ∧ min ((s13.size : Nat) : Int) 39 ≤ (((s13.size : Nat) : Int) : Int) ∧
  (((⟨#[1]⟩ : ByteArray) ++ ((s16 ++ s19) ++ s24)) ++ s31).size + (s13.extract 0 ((min ((s13.size : Nat) : Int) 39).toNat)).size ≤ 9223372036854775807 ∧
  Calls Try.prog 72 #[.string ((((⟨#[1]⟩ : ByteArray) ++ ((s16 ++ s19) ++ s24)) ++ s31) ++ (s13.extract 0 ((min ((s13.size : Nat) : Int) 39).toNat)))] w_7 fun e_7 w_8 => KeepG [] w_7 w_8 ∧
  ∃ (s43 : ByteArray),
  e_7 = .returned (.string s43) ∧
  newO w_8 (.cells #[.string s43] 9) fun g w_9 =>
  (0 : Int) ≤ min ((s13.size : Nat) : Int) 39 ∧ min ((s13.size : Nat) : Int) 39 ≤ (((s13.size : Nat) : Int) : Int) ∧
  ∃ (I : ByteArray → Option Addr → Nat → Nat → World → Prop) (μ : ByteArray → Option Addr → Nat → Nat → World → Nat),
  I (s13.extract ((min ((s13.size : Nat) : Int) 39).toNat) s13.size) (some ⟨g, 0, none⟩) 1 1 w_9 ∧
  ∀ (s7 : ByteArray) (a11 : Option Addr) (n11 : Nat) (c11 : Nat) (w_10 : World), I s7 a11 n11 c11 w_10 →
  br (decide (s7 ≠ (⟨#[]⟩ : ByteArray))) (
    (0 : Int) ≤ min ((s7.size : Nat) : Int) 63 ∧ min ((s7.size : Nat) : Int) 63 ≤ (((s7.size : Nat) : Int) : Int) ∧
    (⟨#[2]⟩ : ByteArray).size + (s7.extract 0 ((min ((s7.size : Nat) : Int) 63).toNat)).size ≤ 9223372036854775807 ∧
    Calls Try.prog 72 #[.string ((⟨#[2]⟩ : ByteArray) ++ (s7.extract 0 ((min ((s7.size : Nat) : Int) 63).toNat)))] w_10 fun e_8 w_11 => KeepG [] w_10 w_11 ∧
    ∃ (s61 : ByteArray),
    e_8 = .returned (.string s61) ∧
    newO w_11 (.cells #[.string s61] 9) fun g_2 w_12 =>
    appO Try.prog [] w_12 9 1 16 76 a11 n11 c11 (.slice (some ⟨g_2, 0, none⟩) 1 1) fun m63 a63 c63 w_13 =>
    (0 : Int) ≤ min ((s7.size : Nat) : Int) 63 ∧ min ((s7.size : Nat) : Int) 63 ≤ (((s7.size : Nat) : Int) : Int) ∧
    I (s7.extract ((min ((s7.size : Nat) : Int) 63).toNat) s7.size) a63 (n11 + m63) c63 w_13 ∧ μ (s7.extract ((min ((s7.size : Nat) : Int) 63).toNat) s7.size) a63 (n11 + m63) c63 w_13 < μ s7 a11 n11 c11 w_10
  ) (
    K (.slice a11 n11 c11) w_10
  )
def rlay_notes : Notes := ⟨[], [(7, ⟨[(7, .lf (.str)), (11, .lf (.slice))], [], [48, 49, 53, 54, 55, 10, 56, 57, 58, 59, 60, 61, 62, 63, 11, 50, 51, 52, 7], []⟩)], [], []⟩
theorem rlay_calls (x0 : Int) (x1 : Int) (a2 : Option Addr) (n2 : Nat) (c2 : Nat) (w : World) (K : Value → World → Prop) (h : rlay_vc x0 x1 a2 n2 c2 w K) : Calls Try.prog 43 #[.int .i64 x0, .int .i64 x1, .slice a2 n2 c2] w fun e w' => ∃ v, e = .returned v ∧ K v w' :=
  calls_of_fvc envOk Try.func43 rlay_notes [] [.int .i64 x0, .int .i64 x1, .slice a2 n2 c2] w K (use_vc h (by as_aux_lemma => kernel_rfl))
/-- purser/purserref05.Same -/
def rsame_vc (a0 : Option Addr) (n0 : Nat) (c0 : Nat) (a1 : Option Addr) (n1 : Nat) (c1 : Nat) (w : World) (K : Value → World → Prop) : Prop :=
  br (decide (((n0 : Nat) : Int) ≠ ((n1 : Nat) : Int))) (
    K (.bool false) w
  ) (
    ∃ (I : Int → World → Prop) (μ : Int → World → Nat),
    I 0 w ∧
    ∀ (x5 : Int) (w_2 : World), I x5 w_2 →
    br (decide (x5 < ((n0 : Nat) : Int))) (
      drewO w_2 fun w_3 =>
      withP a0 fun g19 o19 =>
      (0 : Int) ≤ x5 ∧ x5 < (((n0 : Nat) : Int) : Int) ∧
      ∃ (a20 : Option Addr) (n20 : Nat) (c20 : Nat), w_3.cell? ⟨g19, o19 + x5.toNat * 1, none⟩ = some (.slice a20 n20 c20) ∧
      ∃ bs21 : List UInt8, bs21.length = n20 ∧ RowAt w_3 a20 (bs21.map bV) ∧
      withP a1 fun g24 o24 =>
      (0 : Int) ≤ x5 ∧ x5 < (((n1 : Nat) : Int) : Int) ∧
      ∃ (a25 : Option Addr) (n25 : Nat) (c25 : Nat), w_3.cell? ⟨g24, o24 + x5.toNat * 1, none⟩ = some (.slice a25 n25 c25) ∧
      ∃ bs26 : List UInt8, bs26.length = n25 ∧ RowAt w_3 a25 (bs26.map bV) ∧
      br (decide ((strOf bs21) ≠ (strOf bs26))) (
        K (.bool false) w_3
      ) (
        I (IntKind.i64.wrap (x5 + 1)) w_3 ∧ μ (IntKind.i64.wrap (x5 + 1)) w_3 < μ x5 w_2
      )
    ) (
      K (.bool true) w_2
    )
  )
def rsame_notes : Notes := ⟨[(6, ⟨[0, 0, 3, 7, 15, 0, 0, 96, 224, 480, 1023], [], [0, 1, 2, 3, 4, 5, 6, 7, 8, 9, 10]⟩)], [(4, ⟨[(5, .lf (.int .i64))], [], [11, 12, 13, 14, 17, 18, 19, 20, 21, 22, 23, 24, 25, 26, 27, 4, 15, 16, 5], []⟩)], [], []⟩
theorem rsame_calls (a0 : Option Addr) (n0 : Nat) (c0 : Nat) (a1 : Option Addr) (n1 : Nat) (c1 : Nat) (w : World) (K : Value → World → Prop) (h : rsame_vc a0 n0 c0 a1 n1 c1 w K) : Calls Try.prog 44 #[.slice a0 n0 c0, .slice a1 n1 c1] w fun e w' => ∃ v, e = .returned v ∧ K v w' :=
  calls_of_fvc envOk Try.func44 rsame_notes [] [.slice a0 n0 c0, .slice a1 n1 c1] w K (use_vc h (by as_aux_lemma => kernel_rfl))
/-- purser/purserref05.Join -/
def rjoin_vc (a0 : Option Addr) (n0 : Nat) (c0 : Nat) (w : World) (K : Value → World → Prop) : Prop :=
  ∃ (I : Option Addr → Nat → Nat → Int → World → Prop) (μ : Option Addr → Nat → Nat → Int → World → Nat),
  I none 0 0 0 w ∧
  ∀ (a3 : Option Addr) (n3 : Nat) (c3 : Nat) (x4 : Int) (w_2 : World), I a3 n3 c3 x4 w_2 →
  br (decide (x4 < ((n0 : Nat) : Int))) (
    withP a0 fun g14 o14 =>
    (0 : Int) ≤ x4 ∧ x4 < (((n0 : Nat) : Int) : Int) ∧
    ∃ (a15 : Option Addr) (n15 : Nat) (c15 : Nat), w_2.cell? ⟨g14, o14 + x4.toNat * 1, none⟩ = some (.slice a15 n15 c15) ∧
    appO Try.prog [] w_2 22 1 24 44 a3 n3 c3 (.slice a15 n15 c15) fun m16 a16 c16 w_3 =>
    I a16 (n3 + m16) c16 (IntKind.i64.wrap (x4 + 1)) w_3 ∧ μ a16 (n3 + m16) c16 (IntKind.i64.wrap (x4 + 1)) w_3 < μ a3 n3 c3 x4 w_2
  ) (
    K (.slice a3 n3 c3) w_2
  )
def rjoin_notes : Notes := ⟨[], [(3, ⟨[(3, .lf (.slice)), (4, .lf (.int .i64))], [], [5, 6, 7, 8, 11, 12, 13, 14, 15, 16, 3, 9, 10, 4], []⟩)], [], []⟩
theorem rjoin_calls (a0 : Option Addr) (n0 : Nat) (c0 : Nat) (w : World) (K : Value → World → Prop) (h : rjoin_vc a0 n0 c0 w K) : Calls Try.prog 46 #[.slice a0 n0 c0] w fun e w' => ∃ v, e = .returned v ∧ K v w' :=
  calls_of_fvc envOk Try.func46 rjoin_notes [] [.slice a0 n0 c0] w K (use_vc h (by as_aux_lemma => kernel_rfl))
/-- purser/purserlaw05.start -/
def start_vc (x0 : Int) (x1 : Int) (w : World) (K : Value → World → Prop) : Prop :=
  Calls Try.prog 13 #[.int .i64 (IntKind.i64.wrap (x0 + 5))] w fun e w_2 => KeepG [] w w_2 ∧
  ∃ (p15_0 : Option Addr) (x15_1 : Int),
  e = .returned (.tuple #[.pointer p15_0, .int .i64 x15_1]) ∧
  Calls Try.prog 22 #[.pointer p15_0, .int .i64 3, .int .i64 x0, .int .i64 x1] w_2 fun e_2 w_3 => KeepG [] w_2 w_3 ∧
  ∃ (p22_0 : Option Addr) (a22_1 : Option Addr) (n22_1 : Nat) (c22_1 : Nat) (x22_2 : Int),
  e_2 = .returned (.tuple #[.pointer p22_0, .slice a22_1 n22_1 c22_1, .int .i64 x22_2]) ∧
  br (decide (x15_1 = 0)) (
    br (decide (x22_2 = 0)) (
      K (.tuple #[.pointer p22_0, .pointer p15_0, .bool (decide (((n22_1 : Nat) : Int) = 0))]) w_3
    ) (
      K (.tuple #[.pointer p22_0, .pointer p15_0, .bool false]) w_3
    )
  ) (
    K (.tuple #[.pointer p22_0, .pointer p15_0, .bool false]) w_3
  )
def start_notes : Notes := ⟨[], [], [], []⟩
theorem start_calls (x0 : Int) (x1 : Int) (w : World) (K : Value → World → Prop) (h : start_vc x0 x1 w K) : Calls Try.prog 40 #[.int .i64 x0, .int .i64 x1] w fun e w' => ∃ v, e = .returned v ∧ K v w' :=
  calls_of_fvc envOk Try.func40 start_notes [] [.int .i64 x0, .int .i64 x1] w K (use_vc h (by as_aux_lemma => kernel_rfl))
/-- purser/purserlaw05.frames -/
def frames_vc  (w : World) (K : Value → World → Prop) : Prop :=
  Calls Try.prog 40 #[.int .i64 4, .int .i64 7] w fun e w_2 => KeepG [] w w_2 ∧
  ∃ (p11_0 : Option Addr) (p11_1 : Option Addr) (b11_2 : Bool),
  e = .returned (.tuple #[.pointer p11_0, .pointer p11_1, .bool b11_2]) ∧
  br (!b11_2) (
    K (.bool false) w_2
  ) (
    newO w_2 (.cells #[.int .u8 97, .int .u8 98] 5) fun g w_3 =>
    frzO [] w_3 g fun w_4 =>
    (0 : Int) ≤ (40 : Int) ∧ (40 : Int) ≤ (40 : Int) ∧ ((1 : Nat) : Int) * (40 : Int) ≤ 281474976710656 ∧ (40 : Int) ≤ 9223372036854775807 ∧
    newO w_4 (.cells (madeCells (Value.cells (.int .u8 0)) ((40 : Int).toNat * 1)) 5) fun g_2 w_5 =>
    newO w_5 (.cells #[.slice (some ⟨g, 0, none⟩) 2 2, .slice (some ⟨g_2, 0, none⟩) ((40 : Int).toNat) ((40 : Int).toNat)] 22) fun g_3 w_6 =>
    Calls Try.prog 26 #[.pointer p11_0, .slice (some ⟨g_3, 0, none⟩) 2 2] w_6 fun e_2 w_7 => KeepG [] w_6 w_7 ∧
    ∃ (x23 : Int),
    e_2 = .returned (.int .i64 x23) ∧
    br (decide (x23 ≠ 0)) (
      K (.bool false) w_7
    ) (
      Calls Try.prog 28 #[.pointer p11_0] w_7 fun e_3 w_8 => KeepG [] w_7 w_8 ∧
      ∃ (x28 : Int),
      e_3 = .returned (.int .i64 x28) ∧
      br (decide (x28 ≠ 2)) (
        K (.bool false) w_8
      ) (
        Calls Try.prog 27 #[.pointer p11_0] w_8 fun e_4 w_9 => KeepG [] w_8 w_9 ∧
        ∃ (x33 : Int),
        e_4 = .returned (.int .i64 x33) ∧
        br (decide (x33 ≠ 1)) (
          K (.bool false) w_9
        ) (
          Calls Try.prog 22 #[.pointer p11_1, .int .i64 3, .int .i64 4, .int .i64 7] w_9 fun e_5 w_10 => KeepG [] w_9 w_10 ∧
          ∃ (p38_0 : Option Addr) (a38_1 : Option Addr) (n38_1 : Nat) (c38_1 : Nat) (x38_2 : Int),
          e_5 = .returned (.tuple #[.pointer p38_0, .slice a38_1 n38_1 c38_1, .int .i64 x38_2]) ∧
          Calls Try.prog 22 #[.pointer p11_1, .int .i64 3, .int .i64 4, .int .i64 8] w_10 fun e_6 w_11 => KeepG [] w_10 w_11 ∧
          ∃ (p44_0 : Option Addr) (a44_1 : Option Addr) (n44_1 : Nat) (c44_1 : Nat) (x44_2 : Int),
          e_6 = .returned (.tuple #[.pointer p44_0, .slice a44_1 n44_1 c44_1, .int .i64 x44_2]) ∧
          br (decide (x38_2 = 0)) (
            br (decide (x44_2 = 0)) (
              br (decide (((n38_1 : Nat) : Int) = 2)) (
                withP a38_1 fun g61 o61 =>
                (0 : Int) ≤ 0 ∧ 0 < (((n38_1 : Nat) : Int) : Int) ∧
                ∃ (a62 : Option Addr) (n62 : Nat) (c62 : Nat), w_11.cell? ⟨g61, o61 + (0 : Int).toNat * 1, none⟩ = some (.slice a62 n62 c62) ∧
                ∃ bs63 : List UInt8, bs63.length = n62 ∧ RowAt w_11 a62 (bs63.map bV) ∧
                br (decide ((strOf bs63) = (⟨#[97, 98]⟩ : ByteArray))) (
                  K (.bool (decide (((n44_1 : Nat) : Int) = 0))) w_11
                ) (
                  K (.bool false) w_11
                )
              ) (
                K (.bool false) w_11
              )
            ) (
              K (.bool false) w_11
            )
          ) (
            K (.bool false) w_11
          )
        )
      )
    )
  )
def frames_notes : Notes := ⟨[], [], [], []⟩
theorem frames_calls  (w : World) (K : Value → World → Prop) (h : frames_vc  w K) : Calls Try.prog 24 #[] w fun e w' => ∃ v, e = .returned v ∧ K v w' :=
  calls_of_fvc envOk Try.func24 frames_notes [] [] w K (use_vc h (by as_aux_lemma => kernel_rfl))
/-- purser/purserlaw05.none -/
def none_vc  (w : World) (K : Value → World → Prop) : Prop :=
  K (.pointer none) w
def none_notes : Notes := ⟨[], [], [], []⟩
theorem none_calls  (w : World) (K : Value → World → Prop) (h : none_vc  w K) : Calls Try.prog 25 #[] w fun e w' => ∃ v, e = .returned v ∧ K v w' :=
  calls_of_fvc envOk Try.func25 none_notes [] [] w K (use_vc h (by as_aux_lemma => kernel_rfl))
/-- purser/purserlaw05.few -/
def few_vc (a0 : Option Addr) (n0 : Nat) (c0 : Nat) (w : World) (K : Value → World → Prop) : Prop :=
  ∃ (I : Option Addr → Nat → Nat → Int → World → Prop) (μ : Option Addr → Nat → Nat → Int → World → Nat),
  I none 0 0 0 w ∧
  ∀ (a3 : Option Addr) (n3 : Nat) (c3 : Nat) (x4 : Int) (w_2 : World), I a3 n3 c3 x4 w_2 →
  br (decide (x4 < ((n0 : Nat) : Int))) (
    br (decide (x4 < 8)) (
      withP a0 fun g18 o18 =>
      (0 : Int) ≤ x4 ∧ x4 < (((n0 : Nat) : Int) : Int) ∧
      ∃ (a19 : Option Addr) (n19 : Nat) (c19 : Nat), w_2.cell? ⟨g18, o18 + x4.toNat * 1, none⟩ = some (.slice a19 n19 c19) ∧
      Calls Try.prog 23 #[.slice a19 n19 c19, .int .i64 4, .int .i64 150] w_2 fun e w_3 => KeepG [] w_2 w_3 ∧
      ∃ (a20 : Option Addr) (n20 : Nat) (c20 : Nat),
      e = .returned (.slice a20 n20 c20) ∧
      newO w_3 (.cells #[.slice a20 n20 c20] 44) fun g w_4 =>
      appO Try.prog [] w_4 44 1 24 70 a3 n3 c3 (.slice (some ⟨g, 0, none⟩) 1 1) fun m22 a22 c22 w_5 =>
      I a22 (n3 + m22) c22 (IntKind.i64.wrap (x4 + 1)) w_5 ∧ μ a22 (n3 + m22) c22 (IntKind.i64.wrap (x4 + 1)) w_5 < μ a3 n3 c3 x4 w_2
    ) (
      K (.slice a3 n3 c3) w_2
    )
  ) (
    K (.slice a3 n3 c3) w_2
  )
def few_notes : Notes := ⟨[], [(3, ⟨[(3, .lf (.slice)), (4, .lf (.int .i64))], [], [5, 6, 7, 8, 9, 10, 11, 12, 15, 16, 17, 18, 19, 20, 21, 22, 3, 13, 14, 4], []⟩)], [], []⟩
theorem few_calls (a0 : Option Addr) (n0 : Nat) (c0 : Nat) (w : World) (K : Value → World → Prop) (h : few_vc a0 n0 c0 w K) : Calls Try.prog 41 #[.slice a0 n0 c0] w fun e w' => ∃ v, e = .returned v ∧ K v w' :=
  calls_of_fvc envOk Try.func41 few_notes [] [.slice a0 n0 c0] w K (use_vc h (by as_aux_lemma => kernel_rfl))
/-- purser/purserlaw05.fill -/
def fill_vc (p0 : Option Addr) (p1 : Option Addr) (a2 : Option Addr) (n2 : Nat) (c2 : Nat) (w : World) (K : Value → World → Prop) : Prop :=
  ∃ (I : Option Addr → Nat → Nat → Int → World → Prop) (μ : Option Addr → Nat → Nat → Int → World → Nat),
  I none 0 0 0 w ∧
  ∀ (a8 : Option Addr) (n8 : Nat) (c8 : Nat) (x9 : Int) (w_2 : World), I a8 n8 c8 x9 w_2 →
  br (decide (x9 < ((n2 : Nat) : Int))) (
    withP a2 fun g20 o20 =>
    (0 : Int) ≤ x9 ∧ x9 < (((n2 : Nat) : Int) : Int) ∧
    ∃ (a21 : Option Addr) (n21 : Nat) (c21 : Nat), w_2.cell? ⟨g20, o20 + x9.toNat * 1, none⟩ = some (.slice a21 n21 c21) ∧
    Calls Try.prog 26 #[.pointer p0, .slice a21 n21 c21] w_2 fun e w_3 => KeepG [] w_2 w_3 ∧
    ∃ (x22 : Int),
    e = .returned (.int .i64 x22) ∧
    Calls Try.prog 38 #[.pointer p1] w_3 fun e_2 w_4 => KeepG [] w_3 w_4 ∧
    ∃ (b24 : Bool),
    e_2 = .returned (.bool b24) ∧
    br b24 (
      drewO w_4 fun w_5 =>
      withP a2 fun g28 o28 =>
      (0 : Int) ≤ x9 ∧ x9 < (((n2 : Nat) : Int) : Int) ∧
      ∃ (a29 : Option Addr) (n29 : Nat) (c29 : Nat), w_5.cell? ⟨g28, o28 + x9.toNat * 1, none⟩ = some (.slice a29 n29 c29) ∧
      K (.tuple #[.slice a8 n8 c8, .slice a29 n29 c29]) w_5
    ) (
      br (decide (x22 = 0)) (
        withP a2 fun g35 o35 =>
        (0 : Int) ≤ x9 ∧ x9 < (((n2 : Nat) : Int) : Int) ∧
        ∃ (a36 : Option Addr) (n36 : Nat) (c36 : Nat), w_4.cell? ⟨g35, o35 + x9.toNat * 1, none⟩ = some (.slice a36 n36 c36) ∧
        newO w_4 (.cells #[.slice a36 n36 c36] 44) fun g w_6 =>
        appO Try.prog [] w_6 44 1 24 70 a8 n8 c8 (.slice (some ⟨g, 0, none⟩) 1 1) fun m38 a38 c38 w_7 =>
        I a38 (n8 + m38) c38 (IntKind.i64.wrap (x9 + 1)) w_7 ∧ μ a38 (n8 + m38) c38 (IntKind.i64.wrap (x9 + 1)) w_7 < μ a8 n8 c8 x9 w_2
      ) (
        I a8 n8 c8 (IntKind.i64.wrap (x9 + 1)) w_4 ∧ μ a8 n8 c8 (IntKind.i64.wrap (x9 + 1)) w_4 < μ a8 n8 c8 x9 w_2
      )
    )
  ) (
    K (.tuple #[.slice a8 n8 c8, .slice none 0 0]) w_2
  )
def fill_notes : Notes := ⟨[(7, ⟨[0, 0, 0, 6, 14, 1, 63], [], [0, 1, 2, 3, 4, 5, 6]⟩)], [(3, ⟨[(8, .lf (.slice)), (9, .lf (.int .i64))], [], [11, 12, 13, 14, 17, 18, 19, 20, 21, 22, 10, 23, 24, 25, 26, 27, 28, 29, 6, 7, 30, 31, 32, 33, 34, 35, 36, 37, 38, 8, 15, 16, 9], []⟩)], [], []⟩
theorem fill_calls (p0 : Option Addr) (p1 : Option Addr) (a2 : Option Addr) (n2 : Nat) (c2 : Nat) (w : World) (K : Value → World → Prop) (h : fill_vc p0 p1 a2 n2 c2 w K) : Calls Try.prog 45 #[.pointer p0, .pointer p1, .slice a2 n2 c2] w fun e w' => ∃ v, e = .returned v ∧ K v w' :=
  calls_of_fvc envOk Try.func45 fill_notes [] [.pointer p0, .pointer p1, .slice a2 n2 c2] w K (use_vc h (by as_aux_lemma => kernel_rfl))
/-- purser/purserlaw05.FrameOpens -/
def lopens_vc (x0 : Int) (x1_0 : Int) (x1_1 : Int) (x1_2 : Int) (a2 : Option Addr) (n2 : Nat) (c2 : Nat) (w : World) (K : Value → World → Prop) : Prop :=
  newO w (.cells #[.int .i64 x1_0, .int .i64 x1_1, .int .i64 x1_2] 47) fun g w_2 =>
  (20 : Int) ≠ 0 ∧
  Calls Try.prog 13 #[.int .i64 (IntKind.i64.wrap (1 + (IntKind.i64.wrap (Int.tmod (IntKind.u64.wrap x0) 20))))] w_2 fun e w_3 => KeepG [g] w_2 w_3 ∧
  ∃ (p25_0 : Option Addr) (x25_1 : Int),
  e = .returned (.tuple #[.pointer p25_0, .int .i64 x25_1]) ∧
  (20 : Int) ≠ 0 ∧
  drewO w_3 fun w_4 =>
  Calls Try.prog 22 #[.pointer p25_0, .int .i64 x1_0, .int .i64 x1_1, .int .i64 x1_2] w_4 fun e_2 w_5 => KeepG [g] w_4 w_5 ∧
  ∃ (p44_0 : Option Addr) (a44_1 : Option Addr) (n44_1 : Nat) (c44_1 : Nat) (x44_2 : Int),
  e_2 = .returned (.tuple #[.pointer p44_0, .slice a44_1 n44_1 c44_1, .int .i64 x44_2]) ∧
  Calls Try.prog 22 #[.pointer none, .int .i64 0, .int .i64 1, .int .i64 0] w_5 fun e_3 w_6 => KeepG [g] w_5 w_6 ∧
  ∃ (p49_0 : Option Addr) (a49_1 : Option Addr) (n49_1 : Nat) (c49_1 : Nat) (x49_2 : Int),
  e_3 = .returned (.tuple #[.pointer p49_0, .slice a49_1 n49_1 c49_1, .int .i64 x49_2]) ∧
  Calls Try.prog 23 #[.slice a2 n2 c2, .int .i64 6, .int .i64 200] w_6 fun e_4 w_7 => KeepG [g] w_6 w_7 ∧
  ∃ (a54 : Option Addr) (n54 : Nat) (c54 : Nat),
  e_4 = .returned (.slice a54 n54 c54) ∧
  Calls Try.prog 24 #[] w_7 fun e_5 w_8 => KeepG [g] w_7 w_8 ∧
  ∃ (b55 : Bool),
  e_5 = .returned (.bool b55) ∧
  br (!b55) (
    K (.bool false) w_8
  ) (
    br (decide (x25_1 ≠ 0)) (
      K (.bool false) w_8
    ) (
      br (decide (x49_2 ≠ 1)) (
        K (.bool false) w_8
      ) (
        Calls Try.prog 25 #[] w_8 fun e_6 w_9 => KeepG [g] w_8 w_9 ∧
        ∃ (p66 : Option Addr),
        e_6 = .returned (.pointer p66) ∧
        Calls Try.prog 26 #[.pointer p66, .slice none 0 0] w_9 fun e_7 w_10 => KeepG [g] w_9 w_10 ∧
        ∃ (x67 : Int),
        e_7 = .returned (.int .i64 x67) ∧
        br (decide (x67 ≠ 1)) (
          K (.bool false) w_10
        ) (
          Calls Try.prog 25 #[] w_10 fun e_8 w_11 => KeepG [g] w_10 w_11 ∧
          ∃ (p71 : Option Addr),
          e_8 = .returned (.pointer p71) ∧
          Calls Try.prog 27 #[.pointer p71] w_11 fun e_9 w_12 => KeepG [g] w_11 w_12 ∧
          ∃ (x72 : Int),
          e_9 = .returned (.int .i64 x72) ∧
          br (decide (x72 ≠ 0)) (
            K (.bool false) w_12
          ) (
            Calls Try.prog 25 #[] w_12 fun e_10 w_13 => KeepG [g] w_12 w_13 ∧
            ∃ (p76 : Option Addr),
            e_10 = .returned (.pointer p76) ∧
            Calls Try.prog 28 #[.pointer p76] w_13 fun e_11 w_14 => KeepG [g] w_13 w_14 ∧
            ∃ (x77 : Int),
            e_11 = .returned (.int .i64 x77) ∧
            br (decide (x77 ≠ 0)) (
              K (.bool false) w_14
            ) (
              Calls Try.prog 25 #[] w_14 fun e_12 w_15 => KeepG [g] w_14 w_15 ∧
              ∃ (p81 : Option Addr),
              e_12 = .returned (.pointer p81) ∧
              Calls Try.prog 29 #[.pointer p81] w_15 fun e_13 w_16 => KeepG [g] w_15 w_16 ∧
              ∃ (x82 : Int),
              e_13 = .returned (.int .i64 x82) ∧
              br (decide (x82 ≠ 0)) (
                K (.bool false) w_16
              ) (
                Calls Try.prog 30 #[.slice a54 n54 c54] w_16 fun e_14 w_17 => KeepG [g] w_16 w_17 ∧
                ∃ (x87 : Int),
                e_14 = .returned (.int .i64 x87) ∧
                Calls Try.prog 31 #[.slice a54 n54 c54] w_17 fun e_15 w_18 => KeepG [g] w_17 w_18 ∧
                ∃ (x89 : Int),
                e_15 = .returned (.int .i64 x89) ∧
                br (decide (x87 ≠ x89)) (
                  K (.bool false) w_18
                ) (
                  br (decide (x1_0 < 0)) (
                    br (decide (x44_2 = 1)) (
                      K (.bool (Option.isNone p44_0)) w_18
                    ) (
                      K (.bool false) w_18
                    )
                  ) (
                    br (decide (x1_2 < 0)) (
                      br (decide (x44_2 = 1)) (
                        K (.bool (Option.isNone p44_0)) w_18
                      ) (
                        K (.bool false) w_18
                      )
                    ) (
                      br (decide (x1_1 < 1)) (
                        br (decide (x44_2 = 1)) (
                          K (.bool (Option.isNone p44_0)) w_18
                        ) (
                          K (.bool false) w_18
                        )
                      ) (
                        br (decide (x1_1 > (IntKind.i64.wrap (1 + (IntKind.i64.wrap (Int.tmod (IntKind.u64.wrap x0) 20)))))) (
                          br (decide (x44_2 = 1)) (
                            K (.bool (Option.isNone p44_0)) w_18
                          ) (
                            K (.bool false) w_18
                          )
                        ) (
                          br (decide (x1_0 > (IntKind.i64.wrap ((IntKind.i64.wrap (1 + (IntKind.i64.wrap (Int.tmod (IntKind.u64.wrap x0) 20)))) - x1_1)))) (
                            br (decide (x44_2 = 1)) (
                              K (.bool (Option.isNone p44_0)) w_18
                            ) (
                              K (.bool false) w_18
                            )
                          ) (
                            br (decide (x44_2 = 0)) (
                              br (decide (((n44_1 : Nat) : Int) = 0)) (
                                Calls Try.prog 28 #[.pointer p44_0] w_18 fun e_16 w_19 => KeepG [g] w_18 w_19 ∧
                                ∃ (x129 : Int),
                                e_16 = .returned (.int .i64 x129) ∧
                                br (decide (x129 = x1_1)) (
                                  Calls Try.prog 29 #[.pointer p44_0] w_19 fun e_17 w_20 => KeepG [g] w_19 w_20 ∧
                                  ∃ (x135 : Int),
                                  e_17 = .returned (.int .i64 x135) ∧
                                  br (decide (x135 = x1_2)) (
                                    Calls Try.prog 27 #[.pointer p44_0] w_20 fun e_18 w_21 => KeepG [g] w_20 w_21 ∧
                                    ∃ (x141 : Int),
                                    e_18 = .returned (.int .i64 x141) ∧
                                    K (.bool (decide (x141 = 0))) w_21
                                  ) (
                                    K (.bool false) w_20
                                  )
                                ) (
                                  K (.bool false) w_19
                                )
                              ) (
                                K (.bool false) w_18
                              )
                            ) (
                              K (.bool false) w_18
                            )
                          )
                        )
                      )
                    )
                  )
                )
              )
            )
          )
        )
      )
    )
  )
def lopens_notes : Notes := ⟨[(3, ⟨[0, 1, 0, 4, 0, 16, 3, 79, 255], [], [0, 1, 2, 3, 4, 5, 6, 7, 8]⟩)], [], [], []⟩
theorem lopens_calls (x0 : Int) (x1_0 : Int) (x1_1 : Int) (x1_2 : Int) (a2 : Option Addr) (n2 : Nat) (c2 : Nat) (w : World) (K : Value → World → Prop) (h : lopens_vc x0 x1_0 x1_1 x1_2 a2 n2 c2 w K) : Calls Try.prog 5 #[.int .i64 x0, .agg #[.int .i64 x1_0, .int .i64 x1_1, .int .i64 x1_2], .slice a2 n2 c2] w fun e w' => ∃ v, e = .returned v ∧ K v w' :=
  calls_of_fvc envOk Try.func5 lopens_notes [4] [.int .i64 x0, .agg #[.int .i64 x1_0, .int .i64 x1_1, .int .i64 x1_2], .slice a2 n2 c2] w K (use_vc h (by as_aux_lemma => kernel_rfl))
/-- purser/purserlaw05.FrameLays -/
def llays_vc (x0 : Int) (x1 : Int) (a2 : Option Addr) (n2 : Nat) (c2 : Nat) (w : World) (K : Value → World → Prop) : Prop :=
  (12 : Int) ≠ 0 ∧
  (0 : Int) ≤ 1 ∧
  Calls Try.prog 40 #[.int .i64 (IntKind.i64.wrap (1 + (IntKind.i64.wrap (Int.tmod (IntKind.u64.wrap x0) 12)))), .int .i64 (IntKind.i64.wrap (Int.fdiv (IntKind.u64.wrap x1) (2 ^ (min (1 : Int).toNat (IntKind.bits .u64)))))] w fun e w_2 => KeepG [] w w_2 ∧
  ∃ (p36_0 : Option Addr) (p36_1 : Option Addr) (b36_2 : Bool),
  e = .returned (.tuple #[.pointer p36_0, .pointer p36_1, .bool b36_2]) ∧
  Calls Try.prog 24 #[] w_2 fun e_2 w_3 => KeepG [] w_2 w_3 ∧
  ∃ (b40 : Bool),
  e_2 = .returned (.bool b40) ∧
  br (!b40) (
    K (.bool false) w_3
  ) (
    br (!b36_2) (
      K (.bool false) w_3
    ) (
      Calls Try.prog 41 #[.slice a2 n2 c2] w_3 fun e_3 w_4 => KeepG [] w_3 w_4 ∧
      ∃ (a47 : Option Addr) (n47 : Nat) (c47 : Nat),
      e_3 = .returned (.slice a47 n47 c47) ∧
      ∃ (I : Option Addr → Nat → Nat → Int → Int → Int → World → Prop) (μ : Option Addr → Nat → Nat → Int → Int → Int → World → Nat),
      I none 0 0 0 0 0 w_4 ∧
      ∀ (a11 : Option Addr) (n11 : Nat) (c11 : Nat) (x12 : Int) (x13 : Int) (x14 : Int) (w_5 : World), I a11 n11 c11 x12 x13 x14 w_5 →
      br (decide (x14 < ((n47 : Nat) : Int))) (
        withP a47 fun g56 o56 =>
        (0 : Int) ≤ x14 ∧ x14 < (((n47 : Nat) : Int) : Int) ∧
        ∃ (a57 : Option Addr) (n57 : Nat) (c57 : Nat), w_5.cell? ⟨g56, o56 + x14.toNat * 1, none⟩ = some (.slice a57 n57 c57) ∧
        Calls Try.prog 42 #[.slice a57 n57 c57] w_5 fun e_4 w_6 => KeepG [] w_5 w_6 ∧
        ∃ (s58 : ByteArray),
        e_4 = .returned (.string s58) ∧
        withP a47 fun g62 o62 =>
        (0 : Int) ≤ x14 ∧ x14 < (((n47 : Nat) : Int) : Int) ∧
        ∃ (a63 : Option Addr) (n63 : Nat) (c63 : Nat), w_6.cell? ⟨g62, o62 + x14.toNat * 1, none⟩ = some (.slice a63 n63 c63) ∧
        Calls Try.prog 26 #[.pointer p36_0, .slice a63 n63 c63] w_6 fun e_5 w_7 => KeepG [] w_6 w_7 ∧
        ∃ (x64 : Int),
        e_5 = .returned (.int .i64 x64) ∧
        withP a47 fun g67 o67 =>
        (0 : Int) ≤ x14 ∧ x14 < (((n47 : Nat) : Int) : Int) ∧
        ∃ (a68 : Option Addr) (n68 : Nat) (c68 : Nat), w_7.cell? ⟨g67, o67 + x14.toNat * 1, none⟩ = some (.slice a68 n68 c68) ∧
        Calls Try.prog 42 #[.slice a68 n68 c68] w_7 fun e_6 w_8 => KeepG [] w_7 w_8 ∧
        ∃ (s69 : ByteArray),
        e_6 = .returned (.string s69) ∧
        br (decide (s69 ≠ s58)) (
          K (.bool false) w_8
        ) (
          withP a47 fun g74 o74 =>
          (0 : Int) ≤ x14 ∧ x14 < (((n47 : Nat) : Int) : Int) ∧
          ∃ (a75 : Option Addr) (n75 : Nat) (c75 : Nat), w_8.cell? ⟨g74, o74 + x14.toNat * 1, none⟩ = some (.slice a75 n75 c75) ∧
          br (decide (((n75 : Nat) : Int) = 0)) (
            br (decide (x64 ≠ 0)) (
              K (.bool false) w_8
            ) (
              I a11 n11 c11 x12 x13 (IntKind.i64.wrap (x14 + 1)) w_8 ∧ μ a11 n11 c11 x12 x13 (IntKind.i64.wrap (x14 + 1)) w_8 < μ a11 n11 c11 x12 x13 x14 w_5
            )
          ) (
            withP a47 fun g84 o84 =>
            (0 : Int) ≤ x14 ∧ x14 < (((n47 : Nat) : Int) : Int) ∧
            ∃ (a85 : Option Addr) (n85 : Nat) (c85 : Nat), w_8.cell? ⟨g84, o84 + x14.toNat * 1, none⟩ = some (.slice a85 n85 c85) ∧
            Calls Try.prog 43 #[.int .i64 (IntKind.i64.wrap (Int.fdiv (IntKind.u64.wrap x1) (2 ^ (min (1 : Int).toNat (IntKind.bits .u64))))), .int .i64 x13, .slice a85 n85 c85] w_8 fun e_7 w_10 => KeepG [] w_8 w_10 ∧
            ∃ (a86 : Option Addr) (n86 : Nat) (c86 : Nat),
            e_7 = .returned (.slice a86 n86 c86) ∧
            br (decide ((IntKind.i64.wrap (x12 + ((n86 : Nat) : Int))) > (IntKind.i64.wrap (1 + (IntKind.i64.wrap (Int.tmod (IntKind.u64.wrap x0) 12)))))) (
              br (decide (x64 ≠ 11)) (
                K (.bool false) w_10
              ) (
                I a11 n11 c11 x12 x13 (IntKind.i64.wrap (x14 + 1)) w_10 ∧ μ a11 n11 c11 x12 x13 (IntKind.i64.wrap (x14 + 1)) w_10 < μ a11 n11 c11 x12 x13 x14 w_5
              )
            ) (
              ∃ (I_2 : Int → World → Prop) (μ_2 : Int → World → Nat),
              I_2 0 w_10 ∧
              ∀ (x18 : Int) (w_11 : World), I_2 x18 w_11 →
              br (decide (x18 < ((n86 : Nat) : Int))) (
                Calls Try.prog 18 #[.pointer p36_1, .int .i64 (IntKind.i64.wrap ((IntKind.i64.wrap (3 + x12)) + x18)), .int .i64 1] w_11 fun e_8 w_12 => KeepG [] w_11 w_12 ∧
                ∃ (a107_0 : Option Addr) (n107_0 : Nat) (c107_0 : Nat) (x107_1 : Int),
                e_8 = .returned (.tuple #[.slice a107_0 n107_0 c107_0, .int .i64 x107_1]) ∧
                drewO w_12 fun w_13 =>
                br (decide (x64 ≠ 0)) (
                  K (.bool false) w_13
                ) (
                  br (decide (x107_1 ≠ 0)) (
                    K (.bool false) w_13
                  ) (
                    ∃ bs118 : List UInt8, bs118.length = n107_0 ∧ RowAt w_13 a107_0 (bs118.map bV) ∧
                    withP a86 fun g121 o121 =>
                    (0 : Int) ≤ x18 ∧ x18 < (((n86 : Nat) : Int) : Int) ∧
                    ∃ (s122 : ByteArray), w_13.cell? ⟨g121, o121 + x18.toNat * 1, none⟩ = some (.string s122) ∧
                    br (decide ((strOf bs118) ≠ s122)) (
                      K (.bool false) w_13
                    ) (
                      I_2 (IntKind.i64.wrap (x18 + 1)) w_13 ∧ μ_2 (IntKind.i64.wrap (x18 + 1)) w_13 < μ_2 x18 w_11
                    )
                  )
                )
              ) (
                withP a47 fun g134 o134 =>
                (0 : Int) ≤ x14 ∧ x14 < (((n47 : Nat) : Int) : Int) ∧
                ∃ (a135 : Option Addr) (n135 : Nat) (c135 : Nat), w_11.cell? ⟨g134, o134 + x14.toNat * 1, none⟩ = some (.slice a135 n135 c135) ∧
                appO Try.prog [] w_11 22 1 24 44 a11 n11 c11 (.slice a135 n135 c135) fun m136 a136 c136 w_15 =>
                I a136 (n11 + m136) c136 (IntKind.i64.wrap (x12 + ((n86 : Nat) : Int))) (IntKind.i64.wrap (x13 + 1)) (IntKind.i64.wrap (x14 + 1)) w_15 ∧ μ a136 (n11 + m136) c136 (IntKind.i64.wrap (x12 + ((n86 : Nat) : Int))) (IntKind.i64.wrap (x13 + 1)) (IntKind.i64.wrap (x14 + 1)) w_15 < μ a11 n11 c11 x12 x13 x14 w_5
              )
            )
          )
        )
      ) (
        Calls Try.prog 22 #[.pointer p36_1, .int .i64 3, .int .i64 (IntKind.i64.wrap (1 + (IntKind.i64.wrap (Int.tmod (IntKind.u64.wrap x0) 12)))), .int .i64 (IntKind.i64.wrap (Int.fdiv (IntKind.u64.wrap x1) (2 ^ (min (1 : Int).toNat (IntKind.bits .u64)))))] w_5 fun e_9 w_16 => KeepG [] w_5 w_16 ∧
        ∃ (p141_0 : Option Addr) (a141_1 : Option Addr) (n141_1 : Nat) (c141_1 : Nat) (x141_2 : Int),
        e_9 = .returned (.tuple #[.pointer p141_0, .slice a141_1 n141_1 c141_1, .int .i64 x141_2]) ∧
        br (decide (x141_2 = 0)) (
          Calls Try.prog 44 #[.slice a141_1 n141_1 c141_1, .slice a11 n11 c11] w_16 fun e_10 w_17 => KeepG [] w_16 w_17 ∧
          ∃ (b150 : Bool),
          e_10 = .returned (.bool b150) ∧
          br b150 (
            Calls Try.prog 28 #[.pointer p141_0] w_17 fun e_11 w_18 => KeepG [] w_17 w_18 ∧
            ∃ (x154 : Int),
            e_11 = .returned (.int .i64 x154) ∧
            br (decide (x154 = (IntKind.i64.wrap ((IntKind.i64.wrap (1 + (IntKind.i64.wrap (Int.tmod (IntKind.u64.wrap x0) 12)))) - x12)))) (
              Calls Try.prog 28 #[.pointer p36_0] w_18 fun e_12 w_19 => KeepG [] w_18 w_19 ∧
              ∃ (x162 : Int),
              e_12 = .returned (.int .i64 x162) ∧
              br (decide (x162 = (IntKind.i64.wrap ((IntKind.i64.wrap (1 + (IntKind.i64.wrap (Int.tmod (IntKind.u64.wrap x0) 12)))) - x12)))) (
                Calls Try.prog 27 #[.pointer p141_0] w_19 fun e_13 w_20 => KeepG [] w_19 w_20 ∧
                ∃ (x170 : Int),
                e_13 = .returned (.int .i64 x170) ∧
                br (decide (x170 = x13)) (
                  Calls Try.prog 36 #[.pointer p36_1] w_20 fun e_14 w_21 => KeepG [] w_20 w_21 ∧
                  ∃ (a176 : Option Addr) (n176 : Nat) (c176 : Nat),
                  e_14 = .returned (.slice a176 n176 c176) ∧
                  K (.bool (decide (((n176 : Nat) : Int) = 0))) w_21
                ) (
                  K (.bool false) w_20
                )
              ) (
                K (.bool false) w_19
              )
            ) (
              K (.bool false) w_18
            )
          ) (
            K (.bool false) w_17
          )
        ) (
          K (.bool false) w_16
        )
      )
    )
  )
def llays_notes : Notes := ⟨[(26, ⟨[0, 1, 3, 7, 15, 31, 63, 127, 255, 127, 127, 1663, 3711, 8191, 16383], [], [0, 1, 2, 3, 4, 5, 6, 7, 8, 9, 10, 11, 12, 13, 14]⟩)], [(9, ⟨[(11, .lf (.slice)), (12, .lf (.int .i64)), (13, .lf (.int .i64)), (14, .lf (.int .i64))], [], [48, 49, 50, 51, 54, 55, 56, 57, 58, 15, 59, 60, 61, 62, 63, 64, 16, 65, 66, 67, 68, 69, 70, 71, 6, 72, 73, 74, 75, 76, 77, 78, 79, 80, 81, 82, 83, 84, 85, 86, 17, 87, 88, 89, 90, 91, 92, 93, 94, 18, 95, 96, 97, 98, 102, 103, 104, 105, 106, 107, 101, 108, 109, 19, 20, 110, 111, 112, 113, 114, 115, 116, 117, 118, 119, 120, 121, 122, 123, 124, 99, 100, 125, 126, 127, 128, 129, 130, 12, 13, 131, 132, 133, 134, 135, 136, 11, 52, 53, 14], []⟩), (23, ⟨[(18, .lf (.int .i64))], [], [95, 96, 97, 98, 102, 103, 104, 105, 106, 107, 101, 108, 109, 19, 20, 110, 111, 112, 113, 114, 115, 116, 117, 118, 119, 120, 121, 122, 123, 124, 6, 99, 100, 18], []⟩)], [], []⟩
theorem llays_calls (x0 : Int) (x1 : Int) (a2 : Option Addr) (n2 : Nat) (c2 : Nat) (w : World) (K : Value → World → Prop) (h : llays_vc x0 x1 a2 n2 c2 w K) : Calls Try.prog 8 #[.int .i64 x0, .int .i64 x1, .slice a2 n2 c2] w fun e w' => ∃ v, e = .returned v ∧ K v w' :=
  calls_of_fvc envOk Try.func8 llays_notes [] [.int .i64 x0, .int .i64 x1, .slice a2 n2 c2] w K (use_vc h (by as_aux_lemma => kernel_rfl))
/-- purser/purserlaw05.FrameFalls -/
def lfalls_vc (a0 : Option Addr) (n0 : Nat) (c0 : Nat) (w : World) (K : Value → World → Prop) : Prop :=
  Calls Try.prog 40 #[.int .i64 24, .int .i64 3] w fun e w_2 => KeepG [] w w_2 ∧
  ∃ (p15_0 : Option Addr) (p15_1 : Option Addr) (b15_2 : Bool),
  e = .returned (.tuple #[.pointer p15_0, .pointer p15_1, .bool b15_2]) ∧
  Calls Try.prog 24 #[] w_2 fun e_2 w_3 => KeepG [] w_2 w_3 ∧
  ∃ (b19 : Bool),
  e_2 = .returned (.bool b19) ∧
  br (!b19) (
    K (.bool false) w_3
  ) (
    br (!b15_2) (
      K (.bool false) w_3
    ) (
      ∃ (I : Option Addr → Option Addr → Nat → Nat → Int → World → Prop) (μ : Option Addr → Option Addr → Nat → Nat → Int → World → Nat),
      I p15_0 none 0 0 0 w_3 ∧
      ∀ (p3 : Option Addr) (a6 : Option Addr) (n6 : Nat) (c6 : Nat) (x7 : Int) (w_4 : World), I p3 a6 n6 c6 x7 w_4 →
      br (decide (x7 < ((n0 : Nat) : Int))) (
        br (decide (x7 < 3)) (
          withP a0 fun g37 o37 =>
          (0 : Int) ≤ x7 ∧ x7 < (((n0 : Nat) : Int) : Int) ∧
          ∃ (a38_0 : Option Addr) (n38_0 : Nat) (c38_0 : Nat) (x38_1 : Int) (a38_2 : Option Addr) (n38_2 : Nat) (c38_2 : Nat),
          cellsAt w_4 g37 (o37 + x7.toNat * 3) [.slice a38_0 n38_0 c38_0, .int .i64 x38_1, .slice a38_2 n38_2 c38_2] ∧
          newO w_4 (.cells #[.slice none 0 0, .int .i64 0, .slice none 0 0] 86) fun g w_5 =>
          ∀ w_6 : World, BoxSt g w_5 w_6 →
          (12 : Int) ≠ 0 ∧
          Calls Try.prog 37 #[.pointer p15_1, .int .i64 (IntKind.i64.wrap (Int.tmod (IntKind.u64.wrap x38_1) 12))] w_6 fun e_3 w_7 => KeepG [g] w_6 w_7 ∧
          e_3 = .returned (.tuple #[]) ∧
          Calls Try.prog 41 #[.slice a38_0 n38_0 c38_0] w_7 fun e_4 w_8 => KeepG [g] w_7 w_8 ∧
          ∃ (a51 : Option Addr) (n51 : Nat) (c51 : Nat),
          e_4 = .returned (.slice a51 n51 c51) ∧
          Calls Try.prog 45 #[.pointer p3, .pointer p15_1, .slice a51 n51 c51] w_8 fun e_5 w_9 => KeepG [g] w_8 w_9 ∧
          ∃ (a52_0 : Option Addr) (n52_0 : Nat) (c52_0 : Nat) (a52_1 : Option Addr) (n52_1 : Nat) (c52_1 : Nat),
          e_5 = .returned (.tuple #[.slice a52_0 n52_0 c52_0, .slice a52_1 n52_1 c52_1]) ∧
          Calls Try.prog 46 #[.slice a52_0 n52_0 c52_0] w_9 fun e_6 w_10 => KeepG [g] w_9 w_10 ∧
          ∃ (a57 : Option Addr) (n57 : Nat) (c57 : Nat),
          e_6 = .returned (.slice a57 n57 c57) ∧
          appO Try.prog [g] w_10 22 1 24 44 a6 n6 c6 (.slice a57 n57 c57) fun m58 a58 c58 w_11 =>
          Calls Try.prog 39 #[.pointer p15_1, .slice a38_2 n38_2 c38_2] w_11 fun e_7 w_12 => KeepG [g] w_11 w_12 ∧
          e_7 = .returned (.tuple #[]) ∧
          Calls Try.prog 22 #[.pointer p15_1, .int .i64 3, .int .i64 24, .int .i64 3] w_12 fun e_8 w_13 => KeepG [g] w_12 w_13 ∧
          ∃ (p65_0 : Option Addr) (a65_1 : Option Addr) (n65_1 : Nat) (c65_1 : Nat) (x65_2 : Int),
          e_8 = .returned (.tuple #[.pointer p65_0, .slice a65_1 n65_1 c65_1, .int .i64 x65_2]) ∧
          br (decide (x65_2 ≠ 0)) (
            K (.bool false) w_13
          ) (
            Calls Try.prog 44 #[.slice a65_1 n65_1 c65_1, .slice a58 (n6 + m58) c58] w_13 fun e_9 w_14 => KeepG [g] w_13 w_14 ∧
            ∃ (b73 : Bool),
            e_9 = .returned (.bool b73) ∧
            br (!b73) (
              appO Try.prog [g] w_14 22 1 24 44 a58 (n6 + m58) c58 (.slice a52_1 n52_1 c52_1) fun m77 a77 c77 w_15 =>
              br (decide (((n52_1 : Nat) : Int) = 0)) (
                K (.bool false) w_15
              ) (
                Calls Try.prog 44 #[.slice a65_1 n65_1 c65_1, .slice a77 ((n6 + m58) + m77) c77] w_15 fun e_10 w_16 => KeepG [g] w_15 w_16 ∧
                ∃ (b84 : Bool),
                e_10 = .returned (.bool b84) ∧
                br (!b84) (
                  K (.bool false) w_16
                ) (
                  I p65_0 a77 ((n6 + m58) + m77) c77 (IntKind.i64.wrap (x7 + 1)) w_16 ∧ μ p65_0 a77 ((n6 + m58) + m77) c77 (IntKind.i64.wrap (x7 + 1)) w_16 < μ p3 a6 n6 c6 x7 w_4
                )
              )
            ) (
              I p65_0 a58 (n6 + m58) c58 (IntKind.i64.wrap (x7 + 1)) w_14 ∧ μ p65_0 a58 (n6 + m58) c58 (IntKind.i64.wrap (x7 + 1)) w_14 < μ p3 a6 n6 c6 x7 w_4
            )
          )
        ) (
          K (.bool true) w_4
        )
      ) (
        K (.bool true) w_4
      )
    )
  )
def lfalls_notes : Notes := ⟨[], [(6, ⟨[(3, .lf (.ptr)), (6, .lf (.slice)), (7, .lf (.int .i64))], [], [25, 26, 27, 28, 29, 30, 31, 32, 35, 36, 37, 38, 8, 39, 40, 41, 42, 43, 44, 45, 47, 48, 49, 50, 51, 52, 46, 53, 54, 9, 10, 55, 56, 57, 58, 6, 59, 60, 61, 62, 64, 65, 63, 66, 67, 68, 11, 12, 13, 69, 70, 2, 71, 72, 73, 74, 75, 76, 77, 78, 79, 80, 81, 82, 83, 84, 85, 86, 87, 3, 33, 34, 7], [8]⟩)], [], []⟩
theorem lfalls_calls (a0 : Option Addr) (n0 : Nat) (c0 : Nat) (w : World) (K : Value → World → Prop) (h : lfalls_vc a0 n0 c0 w K) : Calls Try.prog 10 #[.slice a0 n0 c0] w fun e w' => ∃ v, e = .returned v ∧ K v w' :=
  calls_of_fvc envOk Try.func10 lfalls_notes [8] [.slice a0 n0 c0] w K (use_vc h (by as_aux_lemma => kernel_rfl))
/-- purser/purserlaw05.FrameGens -/
def lgens_vc (a0 : Option Addr) (n0 : Nat) (c0 : Nat) (a1 : Option Addr) (n1 : Nat) (c1 : Nat) (a2 : Option Addr) (n2 : Nat) (c2 : Nat) (w : World) (K : Value → World → Prop) : Prop :=
  Calls Try.prog 40 #[.int .i64 20, .int .i64 1] w fun e w_2 => KeepG [] w w_2 ∧
  ∃ (p19_0 : Option Addr) (p19_1 : Option Addr) (b19_2 : Bool),
  e = .returned (.tuple #[.pointer p19_0, .pointer p19_1, .bool b19_2]) ∧
  Calls Try.prog 24 #[] w_2 fun e_2 w_3 => KeepG [] w_2 w_3 ∧
  ∃ (b23 : Bool),
  e_2 = .returned (.bool b23) ∧
  br (!b23) (
    K (.bool false) w_3
  ) (
    br (!b19_2) (
      K (.bool false) w_3
    ) (
      Calls Try.prog 41 #[.slice a0 n0 c0] w_3 fun e_3 w_4 => KeepG [] w_3 w_4 ∧
      ∃ (a32 : Option Addr) (n32 : Nat) (c32 : Nat),
      e_3 = .returned (.slice a32 n32 c32) ∧
      Calls Try.prog 45 #[.pointer p19_0, .pointer p19_1, .slice a32 n32 c32] w_4 fun e_4 w_5 => KeepG [] w_4 w_5 ∧
      ∃ (a33_0 : Option Addr) (n33_0 : Nat) (c33_0 : Nat) (a33_1 : Option Addr) (n33_1 : Nat) (c33_1 : Nat),
      e_4 = .returned (.tuple #[.slice a33_0 n33_0 c33_0, .slice a33_1 n33_1 c33_1]) ∧
      Calls Try.prog 22 #[.pointer p19_1, .int .i64 3, .int .i64 20, .int .i64 2] w_5 fun e_5 w_6 => KeepG [] w_5 w_6 ∧
      ∃ (p36_0 : Option Addr) (a36_1 : Option Addr) (n36_1 : Nat) (c36_1 : Nat) (x36_2 : Int),
      e_5 = .returned (.tuple #[.pointer p36_0, .slice a36_1 n36_1 c36_1, .int .i64 x36_2]) ∧
      br (decide (x36_2 ≠ 0)) (
        K (.bool false) w_6
      ) (
        br (decide (((n36_1 : Nat) : Int) ≠ 0)) (
          K (.bool false) w_6
        ) (
          Calls Try.prog 28 #[.pointer p36_0] w_6 fun e_6 w_7 => KeepG [] w_6 w_7 ∧
          ∃ (x49 : Int),
          e_6 = .returned (.int .i64 x49) ∧
          br (decide (x49 ≠ 20)) (
            K (.bool false) w_7
          ) (
            Calls Try.prog 41 #[.slice a1 n1 c1] w_7 fun e_7 w_8 => KeepG [] w_7 w_8 ∧
            ∃ (a56 : Option Addr) (n56 : Nat) (c56 : Nat),
            e_7 = .returned (.slice a56 n56 c56) ∧
            Calls Try.prog 45 #[.pointer p36_0, .pointer p19_1, .slice a56 n56 c56] w_8 fun e_8 w_9 => KeepG [] w_8 w_9 ∧
            ∃ (a57_0 : Option Addr) (n57_0 : Nat) (c57_0 : Nat) (a57_1 : Option Addr) (n57_1 : Nat) (c57_1 : Nat),
            e_8 = .returned (.tuple #[.slice a57_0 n57_0 c57_0, .slice a57_1 n57_1 c57_1]) ∧
            Calls Try.prog 39 #[.pointer p19_1, .slice a2 n2 c2] w_9 fun e_9 w_10 => KeepG [] w_9 w_10 ∧
            e_9 = .returned (.tuple #[]) ∧
            Calls Try.prog 22 #[.pointer p19_1, .int .i64 3, .int .i64 20, .int .i64 2] w_10 fun e_10 w_11 => KeepG [] w_10 w_11 ∧
            ∃ (p65_0 : Option Addr) (a65_1 : Option Addr) (n65_1 : Nat) (c65_1 : Nat) (x65_2 : Int),
            e_10 = .returned (.tuple #[.pointer p65_0, .slice a65_1 n65_1 c65_1, .int .i64 x65_2]) ∧
            Calls Try.prog 22 #[.pointer p19_1, .int .i64 3, .int .i64 20, .int .i64 3] w_11 fun e_11 w_12 => KeepG [] w_11 w_12 ∧
            ∃ (p71_0 : Option Addr) (a71_1 : Option Addr) (n71_1 : Nat) (c71_1 : Nat) (x71_2 : Int),
            e_11 = .returned (.tuple #[.pointer p71_0, .slice a71_1 n71_1 c71_1, .int .i64 x71_2]) ∧
            br (decide (x65_2 = 0)) (
              br (decide (x71_2 = 0)) (
                Calls Try.prog 46 #[.slice a57_0 n57_0 c57_0] w_12 fun e_12 w_13 => KeepG [] w_12 w_13 ∧
                ∃ (a84 : Option Addr) (n84 : Nat) (c84 : Nat),
                e_12 = .returned (.slice a84 n84 c84) ∧
                Calls Try.prog 44 #[.slice a65_1 n65_1 c65_1, .slice a84 n84 c84] w_13 fun e_13 w_14 => KeepG [] w_13 w_14 ∧
                ∃ (b85 : Bool),
                e_13 = .returned (.bool b85) ∧
                br b85 (
                  K (.bool (decide (((n71_1 : Nat) : Int) = 0))) w_14
                ) (
                  K (.bool false) w_14
                )
              ) (
                K (.bool false) w_12
              )
            ) (
              K (.bool false) w_12
            )
          )
        )
      )
    )
  )
def lgens_notes : Notes := ⟨[], [], [], []⟩
theorem lgens_calls (a0 : Option Addr) (n0 : Nat) (c0 : Nat) (a1 : Option Addr) (n1 : Nat) (c1 : Nat) (a2 : Option Addr) (n2 : Nat) (c2 : Nat) (w : World) (K : Value → World → Prop) (h : lgens_vc a0 n0 c0 a1 n1 c1 a2 n2 c2 w K) : Calls Try.prog 9 #[.slice a0 n0 c0, .slice a1 n1 c1, .slice a2 n2 c2] w fun e w' => ∃ v, e = .returned v ∧ K v w' :=
  calls_of_fvc envOk Try.func9 lgens_notes [] [.slice a0 n0 c0, .slice a1 n1 c1, .slice a2 n2 c2] w K (use_vc h (by as_aux_lemma => kernel_rfl))
/-- purser/purserlaw05.FrameForged -/
def lforged_k1 (K : Value → World → Prop) (p20_1 : Option Addr) (p71_0 : Option Addr) (n71_1 : Nat) (w_21 : World) : Prop :=
  newO w_21 (.cells #[.int .u8 121] 5) fun g_7 w_22 =>
  frzO [] w_22 g_7 fun w_23 =>
  newO w_23 (.cells #[.slice (some ⟨g_7, 0, none⟩) 1 1] 22) fun g_8 w_24 =>
  Calls Try.prog 26 #[.pointer p71_0, .slice (some ⟨g_8, 0, none⟩) 1 1] w_24 fun e_9 w_25 => KeepG [] w_24 w_25 ∧
  ∃ (x112 : Int),
  e_9 = .returned (.int .i64 x112) ∧
  br (decide (x112 ≠ 0)) (
    K (.bool false) w_25
  ) (
    Calls Try.prog 22 #[.pointer p20_1, .int .i64 3, .int .i64 24, .int .i64 5] w_25 fun e_10 w_26 => KeepG [] w_25 w_26 ∧
    ∃ (p116_0 : Option Addr) (a116_1 : Option Addr) (n116_1 : Nat) (c116_1 : Nat) (x116_2 : Int),
    e_10 = .returned (.tuple #[.pointer p116_0, .slice a116_1 n116_1 c116_1, .int .i64 x116_2]) ∧
    br (decide (x116_2 = 0)) (
      br (decide (((n116_1 : Nat) : Int) = (IntKind.i64.wrap (((n71_1 : Nat) : Int) + 1)))) (
        withP a116_1 fun g132 o132 =>
        (0 : Int) ≤ ((n71_1 : Nat) : Int) ∧ ((n71_1 : Nat) : Int) < (((n116_1 : Nat) : Int) : Int) ∧
        ∃ (a133 : Option Addr) (n133 : Nat) (c133 : Nat), w_26.cell? ⟨g132, o132 + ((n71_1 : Nat) : Int).toNat * 1, none⟩ = some (.slice a133 n133 c133) ∧
        ∃ bs134 : List UInt8, bs134.length = n133 ∧ RowAt w_26 a133 (bs134.map bV) ∧
        K (.bool (decide ((strOf bs134) = (⟨#[121]⟩ : ByteArray)))) w_26
      ) (
        K (.bool false) w_26
      )
    ) (
      K (.bool false) w_26
    )
  )
def lforged_vc (a0 : Option Addr) (n0 : Nat) (c0 : Nat) (x1 : Int) (x2 : Int) (w : World) (K : Value → World → Prop) : Prop :=
  Calls Try.prog 40 #[.int .i64 24, .int .i64 5] w fun e w_2 => KeepG [] w w_2 ∧
  ∃ (p20_0 : Option Addr) (p20_1 : Option Addr) (b20_2 : Bool),
  e = .returned (.tuple #[.pointer p20_0, .pointer p20_1, .bool b20_2]) ∧
  Calls Try.prog 24 #[] w_2 fun e_2 w_3 => KeepG [] w_2 w_3 ∧
  ∃ (b24 : Bool),
  e_2 = .returned (.bool b24) ∧
  br (!b24) (
    K (.bool false) w_3
  ) (
    br (!b20_2) (
      K (.bool false) w_3
    ) (
      (3 : Int) ≠ 0 ∧
      Calls Try.prog 23 #[.slice a0 n0 c0, .int .i64 2, .int .i64 30] w_3 fun e_3 w_4 => KeepG [] w_3 w_4 ∧
      ∃ (a35 : Option Addr) (n35 : Nat) (c35 : Nat),
      e_3 = .returned (.slice a35 n35 c35) ∧
      Calls Try.prog 43 #[.int .i64 5, .int .i64 (IntKind.i64.wrap (Int.tmod (IntKind.u64.wrap x1) 3)), .slice a35 n35 c35] w_4 fun e_4 w_5 => KeepG [] w_4 w_5 ∧
      ∃ (a36 : Option Addr) (n36 : Nat) (c36 : Nat),
      e_4 = .returned (.slice a36 n36 c36) ∧
      withP a36 fun g37 o37 =>
      (0 : Int) ≤ 0 ∧ 0 < (((n36 : Nat) : Int) : Int) ∧
      ∃ (s38 : ByteArray), w_5.cell? ⟨g37, o37 + (0 : Int).toNat * 1, none⟩ = some (.string s38) ∧
      (0 : Int) ≤ (38 : Int) ∧ (38 : Int) ≤ (38 : Int) ∧ ((1 : Nat) : Int) * (38 : Int) ≤ 281474976710656 ∧ (38 : Int) ≤ 9223372036854775807 ∧
      newO w_5 (.cells (madeCells (Value.cells (.int .u8 0)) ((38 : Int).toNat * 1)) 5) fun g w_6 =>
      ∃ (I : Option Addr → Nat → Nat → Int → World → Prop) (μ : Option Addr → Nat → Nat → Int → World → Nat),
      I (some ⟨g, 0, none⟩) ((38 : Int).toNat) ((38 : Int).toNat) 0 w_6 ∧
      ∀ (a11 : Option Addr) (n11 : Nat) (c11 : Nat) (x12 : Int) (w_7 : World), I a11 n11 c11 x12 w_7 →
      br (decide (x12 < 4)) (
        (0 : Int) ≤ (63 : Int) ∧ (63 : Int) ≤ (((s38.size : Nat) : Int) : Int) ∧
        appO Try.prog [] w_7 5 1 1 9 a11 n11 c11 (.string (s38.extract 0 ((63 : Int).toNat))) fun m47 a47 c47 w_8 =>
        I a47 (n11 + m47) c47 (IntKind.i64.wrap (x12 + 1)) w_8 ∧ μ a47 (n11 + m47) c47 (IntKind.i64.wrap (x12 + 1)) w_8 < μ a11 n11 c11 x12 w_7
      ) (
        (8 : Int) ≠ 0 ∧
        Calls Try.prog 37 #[.pointer p20_1, .int .i64 (IntKind.i64.wrap (Int.tmod (IntKind.u64.wrap x2) 8))] w_7 fun e_5 w_9 => KeepG [] w_7 w_9 ∧
        e_5 = .returned (.tuple #[]) ∧
        newO w_9 (.cells #[.slice a11 n11 c11] 22) fun g_2 w_10 =>
        newO w_10 (.cells #[.int .u8 120] 5) fun g_3 w_11 =>
        frzO [] w_11 g_3 fun w_12 =>
        newO w_12 (.cells #[.slice (some ⟨g_3, 0, none⟩) 1 1] 22) fun g_4 w_13 =>
        newO w_13 (.cells #[.slice (some ⟨g_2, 0, none⟩) 1 1, .slice (some ⟨g_4, 0, none⟩) 1 1] 44) fun g_5 w_14 =>
        Calls Try.prog 45 #[.pointer p20_0, .pointer p20_1, .slice (some ⟨g_5, 0, none⟩) 2 2] w_14 fun e_6 w_15 => KeepG [] w_14 w_15 ∧
        ∃ (a63_0 : Option Addr) (n63_0 : Nat) (c63_0 : Nat) (a63_1 : Option Addr) (n63_1 : Nat) (c63_1 : Nat),
        e_6 = .returned (.tuple #[.slice a63_0 n63_0 c63_0, .slice a63_1 n63_1 c63_1]) ∧
        newO w_15 (.cells #[.bool true, .bool true, .bool true, .bool false, .bool true, .bool true] 4) fun g_6 w_16 =>
        Calls Try.prog 39 #[.pointer p20_1, .slice (some ⟨g_6, 0, none⟩) 6 6] w_16 fun e_7 w_17 => KeepG [] w_16 w_17 ∧
        e_7 = .returned (.tuple #[]) ∧
        Calls Try.prog 22 #[.pointer p20_1, .int .i64 3, .int .i64 24, .int .i64 5] w_17 fun e_8 w_18 => KeepG [] w_17 w_18 ∧
        ∃ (p71_0 : Option Addr) (a71_1 : Option Addr) (n71_1 : Nat) (c71_1 : Nat) (x71_2 : Int),
        e_8 = .returned (.tuple #[.pointer p71_0, .slice a71_1 n71_1 c71_1, .int .i64 x71_2]) ∧
        drewO w_18 fun w_19 =>
        br (decide (x71_2 ≠ 0)) (
          K (.bool false) w_19
        ) (
          br (decide (((n71_1 : Nat) : Int) < ((n63_0 : Nat) : Int))) (
            K (.bool false) w_19
          ) (
            br (decide (((n71_1 : Nat) : Int) > (IntKind.i64.wrap (((n63_0 : Nat) : Int) + 1)))) (
              K (.bool false) w_19
            ) (
              br (decide (((n71_1 : Nat) : Int) > 0)) (
                withP a71_1 fun g98 o98 =>
                (0 : Int) ≤ 0 ∧ 0 < (((n71_1 : Nat) : Int) : Int) ∧
                ∃ (a99 : Option Addr) (n99 : Nat) (c99 : Nat), w_19.cell? ⟨g98, o98 + (0 : Int).toNat * 1, none⟩ = some (.slice a99 n99 c99) ∧
                ∃ bs100 : List UInt8, bs100.length = n99 ∧ RowAt w_19 a99 (bs100.map bV) ∧
                ∃ bs102 : List UInt8, bs102.length = n11 ∧ RowAt w_19 a11 (bs102.map bV) ∧
                br (decide ((strOf bs100) ≠ (strOf bs102))) (
                  K (.bool false) w_19
                ) (
                  lforged_k1 K p20_1 p71_0 n71_1 w_19
                )
              ) (
                lforged_k1 K p20_1 p71_0 n71_1 w_19
              )
            )
          )
        )
      )
    )
  )
def lforged_notes : Notes := ⟨[(14, ⟨[0, 1, 3, 7, 15, 7, 39, 127, 255, 511, 1023, 2047, 1023, 5119, 13311, 32767, 65535, 131071, 262143, 524287, 1048575, 2097151, 4194303, 8388607, 16777215, 33554431, 4194303, 71303167, 268435455, 536870911, 1073741823], [], [0, 1, 2, 3, 4, 5, 6, 7, 8, 9, 10, 11, 12, 13, 14, 15, 16, 17, 18, 19, 20, 21, 22, 23, 24, 25, 26, 27, 28, 29, 30]⟩)], [(7, ⟨[(11, .lf (.slice)), (12, .lf (.int .i64))], [], [40, 41, 44, 45, 46, 47, 11, 42, 43, 12], []⟩)], [], []⟩
theorem lforged_calls (a0 : Option Addr) (n0 : Nat) (c0 : Nat) (x1 : Int) (x2 : Int) (w : World) (K : Value → World → Prop) (h : lforged_vc a0 n0 c0 x1 x2 w K) : Calls Try.prog 11 #[.slice a0 n0 c0, .int .i64 x1, .int .i64 x2] w fun e w' => ∃ v, e = .returned v ∧ K v w' :=
  calls_of_fvc envOk Try.func11 lforged_notes [] [.slice a0 n0 c0, .int .i64 x1, .int .i64 x2] w K (use_vc h (by as_aux_lemma => kernel_rfl))
/-- (*purser/codec.Reader).Left -/
def rleft_vc (p0 : Option Addr) (w : World) (K : Value → World → Prop) : Prop :=
  br (Option.isNone p0) (
    K (.int .i64 0) w
  ) (
    withP p0 fun g6 o6 =>
    ∃ (a8 : Option Addr) (n8 : Nat) (c8 : Nat), w.cell? ⟨g6, o6, none⟩ = some (.slice a8 n8 c8) ∧
    K (.int .i64 ((n8 : Nat) : Int)) w
  )
def rleft_notes : Notes := ⟨[], [], [], []⟩
theorem rleft_calls (p0 : Option Addr) (w : World) (K : Value → World → Prop) (h : rleft_vc p0 w K) : Calls Try.prog 90 #[.pointer p0] w fun e w' => ∃ v, e = .returned v ∧ K v w' :=
  calls_of_fvc envOk Try.func90 rleft_notes [] [.pointer p0] w K (use_vc h (by as_aux_lemma => kernel_rfl))
/-- purser/purserref02.Few -/
def rfew_vc (a0 : Option Addr) (n0 : Nat) (c0 : Nat) (x1 : Int) (x2 : Int) (w : World) (K : Value → World → Prop) : Prop :=
  ∃ (I : Option Addr → Nat → Nat → Int → World → Prop) (μ : Option Addr → Nat → Nat → Int → World → Nat),
  I none 0 0 0 w ∧
  ∀ (a7 : Option Addr) (n7 : Nat) (c7 : Nat) (x8 : Int) (w_2 : World), I a7 n7 c7 x8 w_2 →
  br (decide (x8 < ((n0 : Nat) : Int))) (
    br (decide (x8 < x1)) (
      drewO w_2 fun w_3 =>
      withP a0 fun g24 o24 =>
      (0 : Int) ≤ x8 ∧ x8 < (((n0 : Nat) : Int) : Int) ∧
      ∃ (a25 : Option Addr) (n25 : Nat) (c25 : Nat), w_3.cell? ⟨g24, o24 + x8.toNat * 1, none⟩ = some (.slice a25 n25 c25) ∧
      withP a0 fun g28 o28 =>
      (0 : Int) ≤ x8 ∧ x8 < (((n0 : Nat) : Int) : Int) ∧
      ∃ (a29 : Option Addr) (n29 : Nat) (c29 : Nat), w_3.cell? ⟨g28, o28 + x8.toNat * 1, none⟩ = some (.slice a29 n29 c29) ∧
      (0 : Int) ≤ min ((n29 : Nat) : Int) x2 ∧ min ((n29 : Nat) : Int) x2 ≤ (((c25 : Nat) : Int) : Int) ∧
      newO w_3 (.cells #[] 5) fun g w_4 =>
      w_4.cell? ⟨g24, o24 + x8.toNat * 1, none⟩ = some (.slice a25 n25 c25) ∧
      w_4.cell? ⟨g28, o28 + x8.toNat * 1, none⟩ = some (.slice a29 n29 c29) ∧
      appO Try.prog [] w_4 5 1 1 22 (some ⟨g, 0, none⟩) 0 0 (.slice a25 ((min ((n29 : Nat) : Int) x2).toNat) c25) fun m34 a34 c34 w_5 =>
      newO w_5 (.cells #[.slice a34 (0 + m34) c34] 22) fun g_2 w_6 =>
      appO Try.prog [] w_6 22 1 24 44 a7 n7 c7 (.slice (some ⟨g_2, 0, none⟩) 1 1) fun m36 a36 c36 w_7 =>
      I a36 (n7 + m36) c36 (IntKind.i64.wrap (x8 + 1)) w_7 ∧ μ a36 (n7 + m36) c36 (IntKind.i64.wrap (x8 + 1)) w_7 < μ a7 n7 c7 x8 w_2
    ) (
      K (.slice a7 n7 c7) w_2
    )
  ) (
    K (.slice a7 n7 c7) w_2
  )
def rfew_notes : Notes := ⟨[(5, ⟨[0, 0, 0, 0, 12, 28, 0, 0, 192, 448, 960, 0, 4032, 8188, 16382, 32766, 65535, 131071], [1, 14, 15, 16], [0, 2, 3, 4, 5, 6, 7, 8, 9, 10, 11, 12, 13, 17]⟩)], [(3, ⟨[(7, .lf (.slice)), (8, .lf (.int .i64))], [], [9, 10, 11, 12, 13, 14, 15, 16, 17, 20, 21, 22, 23, 24, 25, 26, 27, 28, 29, 30, 31, 32, 33, 34, 35, 36, 7, 18, 19, 8], []⟩)], [], []⟩
theorem rfew_calls (a0 : Option Addr) (n0 : Nat) (c0 : Nat) (x1 : Int) (x2 : Int) (w : World) (K : Value → World → Prop) (h : rfew_vc a0 n0 c0 x1 x2 w K) : Calls Try.prog 23 #[.slice a0 n0 c0, .int .i64 x1, .int .i64 x2] w fun e w' => ∃ v, e = .returned v ∧ K v w' :=
  calls_of_fvc envOk Try.func23 rfew_notes [] [.slice a0 n0 c0, .int .i64 x1, .int .i64 x2] w K (use_vc h (by as_aux_lemma => kernel_rfl))
end GFr
end Go.Proofs.Ytpfmadinijofeaa
end
section
/- Arguments as the walks want them: bytes, rows of bytes. No program in sight. -/
namespace Go.Proofs.Ytpfmadinijofeaa
open Go.RowKit Go.ChangeShapes
variable {H : Type} {enc : TypeId × Value → H} {P : Program} {W : World}
theorem addr_plain {w : World} {a : Addr} {v : Value} (h : w.cell? (a.add 0) = some v) : a = ⟨a.block, a.off, none⟩ := by
  have h0 : a.add 0 = a := by unfold Addr.add; rfl
  rw [h0] at h
  unfold World.cell? at h
  split at h
  · split at h
    · cases h
    · rename_i hs
      obtain ⟨b, o, s⟩ := a
      cases s with
      | none => rfl
      | some x => simp at hs
  · cases h
def ofI (zs : List Int) : List UInt8 := zs.map fun z => UInt8.ofNat z.toNat
theorem bV_ofI {z : Int} (h : (Lit.int .u8 z).wf = true) : bV (UInt8.ofNat z.toNat) = .int .u8 z := by
  have hz : 0 ≤ z ∧ z < 256 := by
    have e1 : IntKind.u8.min = 0 := rfl
    have e2 : IntKind.u8.max = 255 := rfl
    simp [Lit.wf] at h
    omega
  unfold bV
  rw [UInt8.toNat_ofNat', Nat.mod_eq_of_lt (by omega)]
  congr 1
  omega
theorem row_of_cells {a : Addr} {zs : List Int} {len : Nat} (hl : len ≤ zs.length) (hc : ∀ i, i < zs.length → W.cell? (a.add i) = some (.int .u8 (zs.getD i 0))) (hw : ∀ n ∈ zs, (Lit.int .u8 n).wf = true) : (ofI (zs.take len)).length = len ∧ RowAt W (some a) ((ofI (zs.take len)).map bV) := by
  refine ⟨by simp [ofI]; omega, ?_⟩
  cases hz : zs with
  | nil => exact .inl (by simp [ofI])
  | cons z0 r =>
    rw [← hz]
    have h0 := hc 0 (by rw [hz]; simp)
    have ha := addr_plain h0
    refine .inr ⟨a.block, a.off, by rw [← ha], fun i v hv => ?_⟩
    rw [List.getElem?_map, ofI, List.getElem?_map, List.getElem?_take] at hv
    split at hv
    · rcases hq : zs[i]? with _ | z
      · rw [hq] at hv; cases hv
      · rw [hq] at hv
        simp only [Option.map_some, Option.some.injEq] at hv
        have hi : i < zs.length := (List.getElem?_eq_some_iff.1 hq).1
        have h1 := hc i hi
        rw [ha, Addr.add_lit, List.getD_eq_getElem?_getD, hq] at h1
        rw [← hv, bV_ofI (hw z (List.mem_of_getElem? hq))]
        exact h1
    · cases hv
theorem open_bytes {t e : TypeId} {v : Value} {d : DataW H} {p : List MemPlace} (ht : P.underlying t = some (.slice e)) (he : P.underlying e = some (.int .u8)) (hc : P.cellsOf e = 1)
    (hv : ∃ a l c, v = .slice a l c) (h : DataW.Trod enc P W 0 (fun _ => true) true t v d p) : ∃ (bs : List UInt8) (a : Option Addr) (c : Nat), v = .slice a bs.length c ∧ bs.length ≤ c ∧ c ≤ maxLen ∧ RowAt W a (bs.map bV) := by
  obtain ⟨a, l, c, rfl⟩ := hv
  obtain ⟨fuel, hf⟩ := h
  rcases open_ints ht he hc hf with ⟨hcs, _⟩ | ⟨x, l', c', zs, hcs, _, hl, hm, hz, _, hcell, hwz⟩
  · simp [Value.cells] at hcs
    obtain ⟨rfl, rfl, rfl⟩ := hcs
    exact ⟨[], none, 0, rfl, Nat.le_refl _, by decide, .inl rfl⟩
  · simp [Value.cells] at hcs
    obtain ⟨rfl, rfl, rfl⟩ := hcs
    simp only [if_true] at hz
    obtain ⟨h1, h2⟩ := row_of_cells (len := l) (by omega) hcell hwz
    exact ⟨ofI (zs.take l), some x, c, by rw [h1], by rw [h1]; exact hl, hm, h2⟩
theorem open_parts {t e q : TypeId} {v : Value} {d : DataW H} {p : List MemPlace} (ht : P.underlying t = some (.slice e)) (he : P.underlying e = some (.slice q)) (hq : P.underlying q = some (.int .u8)) (ce : P.cellsOf e = 1) (cq : P.cellsOf q = 1)
    (hv : ∃ a l c, v = .slice a l c) (h : DataW.Trod enc P W 0 (fun _ => true) true t v d p) : ∃ (ps : List (List UInt8)) (a : Option Addr) (c : Nat), v = .slice a ps.length c ∧ ps.length ≤ c ∧ c ≤ maxLen ∧ PartsAt W a ps := by
  obtain ⟨a, l, c, rfl⟩ := hv
  obtain ⟨fuel, hf⟩ := h
  rcases Deep.open_int_rows ht he hq ce cq hf with ⟨hcs, _⟩ | ⟨x, l', c', A, L, C, Z, hcs, _, hl, hm, _, hrow⟩
  · simp [Value.cells] at hcs
    obtain ⟨rfl, rfl, rfl⟩ := hcs
    exact ⟨[], none, 0, rfl, Nat.le_refl _, by decide, .nil⟩
  · simp [Value.cells] at hcs
    obtain ⟨rfl, rfl, rfl⟩ := hcs
    have each : ∀ r, r < c → (ofI ((Z r).take (L r))).length = L r ∧ RowAt W (A r) ((ofI ((Z r).take (L r))).map bV) := fun r hr => by
      obtain ⟨_, h2, _, h4, h5, h6, h7⟩ := hrow r hr
      cases hA : A r with
      | none =>
        have hC := h6 hA
        have hL : L r = 0 := by omega
        rw [hL]
        exact ⟨by simp [ofI], .inl (by simp [ofI])⟩
      | some a' => exact row_of_cells (by omega) (fun i hi => (h7 a' hA).2 i (by omega)) h5
    let ps : List (List UInt8) := (List.range l).map fun r => ofI ((Z r).take (L r))
    let vs : List (Option Addr × Nat) := (List.range l).map fun r => (A r, C r)
    have hps : ps.length = l := by simp [ps]
    refine ⟨ps, some x, c, by rw [hps], by rw [hps]; exact hl, hm, vs, ?_, by simp [ps, vs], ?_⟩
    · by_cases h0 : l = 0
      · exact .inl (by rw [List.map_eq_nil_iff]; simp [ps, vs, h0])
      · have ha := addr_plain (hrow 0 (by omega)).1
        refine .inr ⟨x.block, x.off, by rw [← ha], fun i v hv => ?_⟩
        rw [List.getElem?_map] at hv
        rcases hz : (vs.zip ps)[i]? with _ | ⟨v1, p1⟩
        · rw [hz] at hv; cases hv
        · rw [hz] at hv
          simp only [Option.map_some, Option.some.injEq] at hv
          rw [List.getElem?_zip_eq_some] at hz
          obtain ⟨z1, z2⟩ := hz
          have hi : i < l := by
            have := (List.getElem?_eq_some_iff.1 z2).1
            omega
          simp only [vs, ps, List.getElem?_map, List.getElem?_range hi, Option.map_some, Option.some.injEq] at z1 z2
          rw [← hv, ← z1, ← z2, (each i (by omega)).1]
          have h1 := (hrow i (by omega)).1
          rw [ha, Addr.add_lit] at h1
          exact h1
    · intro v1 p1 hm1
      obtain ⟨i, hi⟩ := List.getElem?_of_mem hm1
      rw [List.getElem?_zip_eq_some] at hi
      obtain ⟨z1, z2⟩ := hi
      have hi : i < l := by
        have := (List.getElem?_eq_some_iff.1 z2).1
        omega
      simp only [vs, ps, List.getElem?_map, List.getElem?_range hi, Option.map_some, Option.some.injEq] at z1 z2
      obtain ⟨_, h2, h3, _⟩ := hrow i (by omega)
      rw [← z1, ← z2, (each i (by omega)).1]
      exact ⟨(each i (by omega)).2, h2, Nat.le_trans h2 h3⟩
theorem int_nat {z : Int} (h : 0 ≤ z) : ∃ n : Nat, z = (n : Int) := ⟨z.toNat, by omega⟩
theorem u32_nat {z : Int} (h : (Lit.int .u32 z).wf = true) : ∃ n : Nat, z = (n : Int) ∧ n < 4294967296 := by
  have hz : 0 ≤ z ∧ z < 4294967296 := by
    have e1 : IntKind.u32.min = 0 := rfl
    have e2 : IntKind.u32.max = 4294967295 := rfl
    simp [Lit.wf] at h
    omega
  exact ⟨z.toNat, by omega, by omega⟩
theorem i64_range {z : Int} (h : (Lit.int .i64 z).wf = true) : -9223372036854775808 ≤ z ∧ z ≤ 9223372036854775807 := by
  have e1 : IntKind.i64.min = -9223372036854775808 := rfl
  have e2 : IntKind.i64.max = 9223372036854775807 := rfl
  simp [Lit.wf] at h
  omega
end Go.Proofs.Ytpfmadinijofeaa
end
section
/- Data that came in, opened by their shape. No program in sight. -/
namespace Go.Proofs.Ytpfmadinijofeaa
open Go.RowKit Go.WideShapes Go.ChangeShapes
/-- What a type looks like; a struct's fields one behind the other: offset, cells, shape. -/
inductive Sh where
  | int (k : IntKind)
  | bool
  | str
  | slice (e : Sh) (n : Nat)
  | arr (len : Nat) (e : Sh) (n : Nat)
  | agg (fs : Sh)
  | fnil
  | fcons (off n : Nat) (f r : Sh)
mutual
def fitsB (P : Program) : Sh → TypeId → Bool
  | .int k, t => match P.underlying t with | some (.int k') => k == k' | _ => false
  | .bool, t => match P.underlying t with | some .bool => true | _ => false
  | .str, t => match P.underlying t with | some .string => true | _ => false
  | .slice e n, t => match P.underlying t with | some (.slice et) => P.cellsOf et == n && fitsB P e et | _ => false
  | .arr len e n, t => match P.underlying t with | some (.array l et) => l == len && P.cellsOf et == n && fitsB P e et | _ => false
  | .agg fs, t => match P.underlying t with | some (.struct fl) => fitsF P fs fl 0 | _ => false
  | .fnil, _ => false
  | .fcons _ _ _ _, _ => false
def fitsF (P : Program) : Sh → Array Field → Nat → Bool
  | .fnil, _, _ => true
  | .fcons off n f r, fl, i => (match fl[i]? with | some fd => fd.offset == off && P.cellsOf fd.type == n && fitsB P f fd.type | none => false) && fitsF P r fl (i + 1)
  | _, _, _ => false
end
/-- What the cells of a shape hold, in a world. -/
def Sh.Has (w : World) : Sh → List Value → Prop
  | .int k, cs => ∃ z, cs = [.int k z] ∧ (Lit.int k z).wf = true
  | .bool, cs => ∃ b, cs = [.bool b]
  | .str, cs => ∃ s : ByteArray, cs = [.string s] ∧ s.size ≤ maxLen
  | .slice e n, cs => cs = [.slice none 0 0] ∨ ∃ a len cap, cs = [.slice (some a) len cap] ∧ len ≤ cap ∧ cap ≤ maxLen ∧ ∀ i, i < len → ∃ cs', (cs'.length = n ∧ ∀ j, j < n → w.cell? (a.add (i * n + j)) = cs'[j]?) ∧ e.Has w cs'
  | .arr len e n, cs => ∀ i, i < len → e.Has w ((cs.drop (i * n)).take n)
  | .agg fs, cs => fs.Has w cs
  | .fnil, _ => True
  | .fcons off n f r, cs => f.Has w ((cs.drop off).take n) ∧ r.Has w cs
section
variable {H : Type} {enc : TypeId × Value → H} {P : Program} {W : World}
mutual
theorem has_of (sh : Sh) : ∀ (t : TypeId) (fuel : Nat) (cs : List Value) (x : DataW H × List MemPlace), fitsB P sh t = true → DataW.trod enc P W 0 (fun _ => true) true fuel t cs = some x → sh.Has W cs := by
  intro t fuel cs x hf h
  cases sh with
  | int k =>
    simp only [fitsB] at hf
    split at hf
    · rename_i k' hu
      have : k = k' := eq_of_beq hf
      subst this
      obtain ⟨n, h1, _, h2⟩ := DataW.trod_int hu h
      exact ⟨n, h1, h2⟩
    · cases hf
  | bool =>
    simp only [fitsB] at hf
    split at hf
    · rename_i hu
      obtain ⟨b, h1, _⟩ := DataW.trod_bool hu h
      exact ⟨b, h1⟩
    · cases hf
  | str =>
    simp only [fitsB] at hf
    split at hf
    · rename_i hu
      obtain ⟨s, h1, _, h2⟩ := DataW.trod_string hu h
      exact ⟨s, h1, h2⟩
    · cases hf
  | slice e n =>
    simp only [fitsB] at hf
    split at hf
    · rename_i et hu
      rw [Bool.and_eq_true] at hf
      have hn : P.cellsOf et = n := eq_of_beq hf.1
      rcases Deep.open_slice hu h with ⟨h1, _⟩ | ⟨a, len, cap, m, nf, D, Pl, h1, _, hl, hm, hmm, _, hall⟩
      · exact .inl h1
      · refine .inr ⟨a, len, cap, h1, hl, hm, fun i hi => ?_⟩
        simp only [if_true] at hmm
        obtain ⟨cs', hc, ht⟩ := hall i (by omega)
        rw [hn] at hc
        obtain ⟨_, c1, c2⟩ := World.cells?_some hc
        refine ⟨cs', ⟨c1, fun j hj => ?_⟩, has_of e et _ _ _ hf.2 ht⟩
        rw [← c2 j hj, Addr.add_add]
    · cases hf
  | arr len e n =>
    simp only [fitsB] at hf
    split at hf
    · rename_i l et hu
      rw [Bool.and_eq_true, Bool.and_eq_true] at hf
      have hl : l = len := eq_of_beq hf.1.1
      have hn : P.cellsOf et = n := eq_of_beq hf.1.2
      subst hl
      obtain ⟨xs, m, _, _, _, hxl, hall⟩ := DataW.trod_array hu h
      intro i hi
      have := hall i hi
      rw [hn] at this
      rw [List.getElem?_eq_getElem (by omega)] at this
      exact has_of e et _ _ _ hf.2 this
    · cases hf
  | agg fs =>
    simp only [fitsB] at hf
    split at hf
    · rename_i fl hu
      obtain ⟨xs, n, _, _, _, hxl, hall⟩ := DataW.trod_struct hu h
      exact hasF_of fs fl 0 n cs xs hf hxl hall
    · cases hf
  | fnil => simp [fitsB] at hf
  | fcons off n f r => simp [fitsB] at hf
theorem hasF_of (sh : Sh) : ∀ (fl : Array Field) (i n : Nat) (cs : List Value) (xs : List (DataW H × List MemPlace)), fitsF P sh fl i = true → xs.length = fl.size →
    (∀ (i : Nat) (f : Field), fl[i]? = some f → DataW.trod enc P W 0 (fun _ => true) true n f.type ((cs.drop f.offset).take (P.cellsOf f.type)) = xs[i]?) → sh.Has W cs := by
  intro fl i n cs xs hf hl hall
  cases sh with
  | fnil => trivial
  | fcons off m f r =>
    simp only [fitsF, Bool.and_eq_true] at hf
    obtain ⟨h1, h2⟩ := hf
    refine ⟨?_, hasF_of r fl (i + 1) n cs xs h2 hl hall⟩
    split at h1
    · rename_i fd hfd
      rw [Bool.and_eq_true, Bool.and_eq_true] at h1
      have ho : fd.offset = off := eq_of_beq h1.1.1
      have hm : P.cellsOf fd.type = m := eq_of_beq h1.1.2
      have ht := hall i fd hfd
      have hi : i < xs.length := by rw [hl]; exact (Array.getElem?_eq_some_iff.1 hfd).1
      rw [List.getElem?_eq_getElem hi, ho, hm] at ht
      exact has_of f fd.type _ _ _ h1.2 ht
    · cases h1
  | int k => simp [fitsF] at hf
  | bool => simp [fitsF] at hf
  | str => simp [fitsF] at hf
  | slice e n => simp [fitsF] at hf
  | arr l e n => simp [fitsF] at hf
  | agg fs => simp [fitsF] at hf
end
theorem open_sh {sh : Sh} {t : TypeId} {v : Value} {d : DataW H} {p : List MemPlace} (hf : fitsB P sh t = true) (h : DataW.Trod enc P W 0 (fun _ => true) true t v d p) : sh.Has W v.cells.toList := by
  obtain ⟨fuel, hf'⟩ := h
  exact has_of sh t fuel _ _ hf hf'
end
theorem exists_list {α : Type} {p : Nat → α → Prop} : ∀ (n : Nat), (∀ i, i < n → ∃ x, p i x) → ∃ l : List α, l.length = n ∧ ∀ i x, l[i]? = some x → p i x := by
  intro n
  induction n with
  | zero => intro _; exact ⟨[], rfl, fun i x h => by cases h⟩
  | succ n ih =>
    intro h
    obtain ⟨l, hl, hp⟩ := ih fun i hi => h i (by omega)
    obtain ⟨x, hx⟩ := h n (by omega)
    refine ⟨l ++ [x], by simp [hl], fun i y hy => ?_⟩
    by_cases hi : i < l.length
    · rw [List.getElem?_append_left hi] at hy; exact hp i y hy
    · rw [List.getElem?_append_right (by omega)] at hy
      have h0 : i - l.length = 0 := by
        have := (List.getElem?_eq_some_iff.1 hy).1; simp at this; omega
      rw [h0] at hy
      simp at hy
      subst hy
      rw [show i = n by omega]; exact hx
/-- Where a slice's elements lie. -/
theorem slice_addr {w : World} {a : Addr} {v : Value} (h : w.cell? (a.add 0) = some v) : a = ⟨a.block, a.off, none⟩ := addr_plain h
def shBytes : Sh := .slice (.int .u8) 1
theorem has_bytes {w : World} {cs : List Value} (h : shBytes.Has w cs) : ∃ (bs : List UInt8) (a : Option Addr) (c : Nat), cs = [.slice a bs.length c] ∧ bs.length ≤ c ∧ c ≤ maxLen ∧ RowAt w a (bs.map bV) := by
  rcases h with rfl | ⟨a, len, cap, rfl, hl, hm, hall⟩
  · exact ⟨[], none, 0, rfl, Nat.le_refl _, by decide, .inl rfl⟩
  · obtain ⟨zs, hz, hp⟩ := exists_list (p := fun i z => w.cell? (a.add i) = some (.int .u8 z) ∧ (Lit.int .u8 z).wf = true) len (fun i hi => by
      obtain ⟨cs', ⟨h1, h2⟩, z, rfl, hw⟩ := hall i hi
      have := h2 0 (by omega)
      simp at this
      exact ⟨z, this, hw⟩)
    obtain ⟨h1, h2⟩ := row_of_cells (W := w) (a := a) (zs := zs) (len := len) (by omega) (fun i hi => by
      have := (hp i zs[i] (List.getElem?_eq_getElem hi)).1
      rw [this]; congr 2; simp [List.getD, List.getElem?_eq_getElem hi]) (fun n hn => by
      obtain ⟨i, hi⟩ := List.getElem?_of_mem hn
      exact (hp i n hi).2)
    exact ⟨ofI (zs.take len), some a, cap, by rw [h1], by rw [h1]; exact hl, hm, h2⟩
theorem has_int {w : World} {k : IntKind} {cs : List Value} (h : (Sh.int k).Has w cs) : ∃ z, cs = [.int k z] ∧ (Lit.int k z).wf = true := h
end Go.Proofs.Ytpfmadinijofeaa
end
section
/- Small words for using printed conditions. No program in sight. -/
namespace Go.Proofs.Ytpfmadinijofeaa
open Go.RowKit
theorem keepG_nil (w w1 : World) : KeepG [] w w1 := fun _ g hg => by cases hg
theorem keepG_below {gs : List Nat} {w w1 : World} (h : Below w.heap.size w w1) : KeepG gs w w1 := fun hu g hg => h.block g (hu g hg)
theorem keepG_fr {gs L : List Nat} {w w1 : World} (h : Fr L w w1) (ha : ∀ g ∈ gs, g ∉ L) : KeepG gs w w1 := fun hu g hg => h.block g (hu g hg) (ha g hg)
/-- A call whose contract tells one value. -/
theorem wr64 {z : Int} (h1 : -9223372036854775808 ≤ z) (h2 : z ≤ 9223372036854775807) : IntKind.i64.wrap z = z := IntWalk.i64_in z ⟨h1, h2⟩
theorem wru64 {z : Int} (h1 : 0 ≤ z) (h2 : z ≤ 18446744073709551615) : IntKind.u64.wrap z = z := by rw [IntKind.wrap_u64]; omega
theorem wru8 {z : Int} (h1 : 0 ≤ z) (h2 : z ≤ 255) : IntKind.u8.wrap z = z := by rw [IntKind.wrap_u8]; omega
theorem u64_mod (z : Int) (k : Nat) (hk : 0 < k) : ∃ m : Nat, m < k ∧ Int.tmod (IntKind.u64.wrap z) (k : Int) = (m : Int) := by
  have h0 : 0 ≤ IntKind.u64.wrap z := by rw [IntKind.wrap_u64]; omega
  have h1 := Int.emod_nonneg (IntKind.u64.wrap z) (show (k : Int) ≠ 0 by omega)
  have h2 := Int.emod_lt_of_pos (IntKind.u64.wrap z) (show (0 : Int) < (k : Int) by omega)
  exact ⟨(IntKind.u64.wrap z % (k : Int)).toNat, by omega, by rw [Int.tmod_eq_emod_of_nonneg h0]; omega⟩
theorem br_t {b : Bool} {A B : Prop} (hb : b = true) (h : A) : br b A B := by rw [br_true hb]; exact h
theorem br_f {b : Bool} {A B : Prop} (hb : b = false) (h : B) : br b A B := by rw [br_false hb]; exact h
theorem br_y {p : Prop} [Decidable p] {A B : Prop} (hp : p) (h : A) : br (decide p) A B := br_t (decide_eq_true hp) h
theorem br_n {p : Prop} [Decidable p] {A B : Prop} (hp : ¬ p) (h : B) : br (decide p) A B := br_f (decide_eq_false hp) h
theorem br_not {b : Bool} {A B : Prop} (h : br b B A) : br (!b) A B := by cases b <;> exact h
/-- A new block. -/
theorem newO_mk {w : World} {o : Obj} {K : Nat → World → Prop} (h : K w.heap.size (w.alloc o)) : newO w o K := by rintro g w1 rfl rfl; exact h
theorem newO_in {w : World} {o : Obj} {K : Nat → World → Prop} (h : ∀ w1, w1.heap[w.heap.size]? = some o → Below w.heap.size w w1 → w1.heap.size = w.heap.size + 1 → K w.heap.size w1) : newO w o K := by
  rintro g w1 rfl rfl; exact h _ (al_new rfl) (Below_one o) (by simp)
theorem drewO_in {w : World} {K : World → Prop} (h : ∀ w1, Below w.heap.size w w1 → w1.heap = w.heap → K w1) : drewO w K := fun w1 h1 h2 => h w1 h2 h1
theorem cellsAt_row {w : World} {g : Nat} {cs : Array Value} {t : TypeId} {fr : Nat × Nat} (h : w.heap[g]? = some (.cells cs t fr)) {off : Nat} {vs : List Value} (hv : (cs.toList.drop off).take vs.length = vs) : cellsAt w g off vs :=
  cellsAt_of fun j v hj => by
    rw [cell_of_row _ _ _ _ _ _ h]
    rw [← hv, List.getElem?_take] at hj
    split at hj
    · rw [List.getElem?_drop] at hj; simpa using hj
    · cases hj
theorem row_of_block {w : World} {g : Nat} {bs : List UInt8} {t : TypeId} {fr : Nat × Nat} (h : w.heap[g]? = some (.cells (bs.map bV).toArray t fr)) : RowAt w (some ⟨g, 0, none⟩) (bs.map bV) := RowAt.ofWhole h
/-- A block's cells, as what is appended. -/
theorem src_block {P : Program} {W : World} {tx e' : TypeId} (hk : P.underlying tx = some (.slice e')) {g n c size : Nat} {cs : List Value} {t : TypeId} {fr : Nat × Nat} (h : W.heap[g]? = some (.cells cs.toArray t fr)) (hl : cs.length = n * size) (h1 : allOne cs = true) :
    Src P size tx (.slice (some ⟨g, 0, none⟩) n c) n cs W :=
  Src.ofSlice _ hk _ n c _ hl (fun j u hj => by
    rw [Addr.add_lit, Nat.zero_add, cell_of_row _ _ _ _ _ _ h]
    simpa using hj) (allOne_spec h1)
theorem own_cell {w : World} {b : Nat} {e : TypeId} {a : Option Addr} {n c : Nat} {xs : List Value} (h : Own w b e 1 (.slice a n c) n xs) {i : Nat} {v : Value} (hi : xs[i]? = some v) : ∃ g off, a = some ⟨g, off, none⟩ ∧ w.cell? ⟨g, off + i * 1, none⟩ = some v := by
  have hlt : i < xs.length := (List.getElem?_eq_some_iff.1 hi).1
  have hl := h.1
  rcases h.2 with ⟨h0, h1⟩ | ⟨g, off, cap, cur, hv, _⟩
  · omega
  · injection hv with h1 h2 h3
    subst h1
    exact ⟨g, off, rfl, by rw [Nat.mul_one]; exact h.cells g off _ rfl i v hi⟩
theorem Bk.there {w : World} {g : Nat} {cs : Array Value} {t : TypeId} (h : Bk w g cs t) {i n : Nat} (hi : i + n ≤ cs.size) : w.there g i n := fun j hj => by
  refine ⟨?_, h.frozen _⟩
  rw [h.cell]
  rw [Array.getElem?_eq_getElem (by omega)]
  rfl
theorem stO_bk {gs : List Nat} {w : World} {g i : Nat} {cs : Array Value} {t : TypeId} {v : Value} {K : World → Prop} (h : Bk w g cs t) (hi : i < cs.size) (hg : ∀ x ∈ gs, x ≠ g) (hk : ∀ w1, Bk w1 g (cs.setIfInBounds i v) t → Fr [g] w w1 → w1.heap.size = w.heap.size → K w1) : stO gs w g i [v] K :=
  ⟨hg, h.there (by simp; omega), fun w1 e => by
    subst e
    exact hk _ (h.setCell i v) ((Fr.refl [g] w).setCell (p := ⟨g, i, none⟩) (.inl (by simp)) v) (by simp [World.setCells, World.setCell])⟩
theorem stO_set {gs : List Nat} {w : World} {g i : Nat} {cs : Array Value} {t : TypeId} {v : Value} {K : World → Prop} (h : Bk w g cs t) (hi : i < cs.size) (hg : ∀ x ∈ gs, x ≠ g) (hk : K (w.setCell ⟨g, i, none⟩ v)) : stO gs w g i [v] K :=
  ⟨hg, h.there (by simp; omega), fun w1 e => by subst e; exact hk⟩
theorem sliceBase_cell {w : World} {b off c l s j : Nat} {v : Value} (hlt : l ≠ c) (h : w.cell? ⟨b, off + l * s + j, none⟩ = some v) : ∃ b' off', sliceBase (some ⟨b, off, none⟩) c l s = some ⟨b', off', none⟩ ∧ w.cell? ⟨b', off' + j, none⟩ = some v := by
  refine ⟨b, off + l * s, ?_, h⟩
  unfold sliceBase
  rw [if_neg (fun e => hlt e.symm)]
  simp [Addr.add_lit]
theorem own_empty {w : World} {g : Nat} {e : TypeId} (s : Nat) (h : w.heap[g]? = some (.cells #[] e (0, 0))) : Own w 0 e s (.slice (some ⟨g, 0, none⟩) 0 0) 0 [] :=
  ⟨by simp, .inr ⟨g, 0, 0, #[], rfl, Nat.zero_le _, h, Nat.le_refl _, Nat.zero_le _, by simp, by simp⟩⟩
theorem Own.store {w : World} {b : Nat} {e : TypeId} {a : Option Addr} {n c : Nat} {xs : List Value} (h : Own w b e 1 (.slice a n c) n xs) {i : Nat} (hi : i < n) {gs : List Nat} {v : Value} {K : World → Prop} (hgs : ∀ k, (Value.slice a n c).ownBlock = some k → ∀ x ∈ gs, x ≠ k)
    (hk : ∀ w1, Own w1 b e 1 (.slice a n c) n (xs.set i v) → Fr (Value.slice a n c).ownBlock.toList w w1 → w1.heap.size = w.heap.size → K w1) : ∃ g off, a = some ⟨g, off, none⟩ ∧ stO gs w g (off + i * 1) [v] K := by
  rcases h.2 with ⟨h0, h1⟩ | ⟨g, off, cap, cur, hv, hb, hg, hn, hm, hs, ht⟩
  · omega
  · injection hv with h1 h2 h3
    subst h1; subst h3
    have hB : Bk w g cur e := hg
    refine ⟨g, off, rfl, ?_⟩
    rw [Nat.mul_one]
    refine stO_bk hB (by omega) (fun x hx => hgs g rfl x hx) fun w1 hb1 hf hsz => ?_
    refine hk w1 ⟨by rw [List.length_set]; exact h.1, .inr ⟨g, off, c, _, rfl, hb, hb1, hn, hm, by simpa using hs, ?_⟩⟩ hf hsz
    rw [← ht, Array.toList_setIfInBounds, List.drop_set]
    rw [if_neg (by omega), show off + i - off = i by omega, List.take_set]
theorem Own.storeAt {w : World} {b : Nat} {e : TypeId} {g off n c : Nat} {xs : List Value} (h : Own w b e 1 (.slice (some ⟨g, off, none⟩) n c) n xs) {i : Nat} (hi : i < n) {gs : List Nat} {v : Value} {K : World → Prop} (hgs : ∀ x ∈ gs, x ≠ g)
    (hk : ∀ w1, Own w1 b e 1 (.slice (some ⟨g, off, none⟩) n c) n (xs.set i v) → Fr [g] w w1 → w1.heap.size = w.heap.size → K w1) : stO gs w g (off + i * 1) [v] K := by
  obtain ⟨g', off', he, hst⟩ := Own.store (K := K) (v := v) h hi (fun k hk x hx => by injection hk with hk; subst hk; exact hgs x hx) hk
  injection he with he
  injection he with e1 e2
  subst e1; subst e2
  exact hst
/-- One byte more or other. -/
theorem bits_byte (op : BinOp) (x y : Int) : ∃ b : UInt8, bitsV op .u8 x y = (b.toNat : Int) := by
  have key : ∀ z : Int, ∃ b : UInt8, IntKind.u8.wrap z = (b.toNat : Int) := fun z => by
    have h : 0 ≤ IntKind.u8.wrap z ∧ IntKind.u8.wrap z < 256 := by rw [IntKind.wrap_u8]; omega
    refine ⟨UInt8.ofNat (IntKind.u8.wrap z).toNat, ?_⟩
    rw [show (UInt8.ofNat (IntKind.u8.wrap z).toNat).toNat = (IntKind.u8.wrap z).toNat % 256 from rfl, Nat.mod_eq_of_lt (by omega)]
    omega
  unfold bitsV
  cases op <;> exact key _
theorem strOf_cat (xs ys : List UInt8) : strOf xs ++ strOf ys = strOf (xs ++ ys) := by
  apply ByteArray.ext
  simp [strOf, ByteArray.data_append]
theorem strOf_extract (xs : List UInt8) (i j : Nat) : (strOf xs).extract i j = strOf ((xs.drop i).take (j - i)) := by
  apply ByteArray.ext
  simp [strOf, ByteArray.data_extract, List.take_drop]
theorem byteAt_strOf (xs : List UInt8) (i : Nat) : byteAt (strOf xs) (i : Int) = ((xs.getD i 0).toNat : Int) := by unfold byteAt; rw [strOf_list]; rfl
end Go.Proofs.Ytpfmadinijofeaa
end
section
/- Slices of structs that came in: their elements, one behind the other. No program in sight. -/
namespace Go.Proofs.Ytpfmadinijofeaa
open Go.RowKit Go.WideShapes Go.ChangeShapes
/-- Elements of n cells each, of which R tells where they lie. -/
def RowsAt {α : Type} (R : World → Nat → Nat → α → Prop) (n : Nat) (w : World) (a : Option Addr) (xs : List α) : Prop := xs = [] ∨ ∃ b off, a = some ⟨b, off, none⟩ ∧ ∀ i x, xs[i]? = some x → R w b (off + i * n) x
theorem RowsAt.mono {α : Type} {R : World → Nat → Nat → α → Prop} {n : Nat} {w w' : World} {a : Option Addr} {xs : List α} (h : RowsAt R n w a xs) (hm : ∀ b off x, R w b off x → R w' b off x) : RowsAt R n w' a xs := by
  rcases h with h | ⟨b, off, ha, h⟩
  · exact .inl h
  · exact .inr ⟨b, off, ha, fun i x hx => hm _ _ _ (h i x hx)⟩
theorem RowsAt.get {α : Type} {R : World → Nat → Nat → α → Prop} {n : Nat} {w : World} {a : Option Addr} {xs : List α} (h : RowsAt R n w a xs) {i : Nat} (hi : i < xs.length) : ∃ b off, a = some ⟨b, off, none⟩ ∧ R w b (off + i * n) xs[i] := by
  rcases h with rfl | ⟨b, off, ha, h⟩
  · simp at hi
  · exact ⟨b, off, ha, h i _ (List.getElem?_eq_getElem hi)⟩
theorem has_rows {α : Type} {e : Sh} {n : Nat} (hn : 0 < n) {R : World → Nat → Nat → α → Prop} {w : World} (elem : ∀ (cs' : List Value) (b off : Nat), cs'.length = n → cellsAt w b off cs' → e.Has w cs' → ∃ x, R w b off x) {cs : List Value} (h : (Sh.slice e n).Has w cs) :
    ∃ (xs : List α) (a : Option Addr) (c : Nat), cs = [.slice a xs.length c] ∧ xs.length ≤ c ∧ c ≤ maxLen ∧ RowsAt R n w a xs := by
  rcases h with rfl | ⟨a, len, cap, rfl, hl, hm, hall⟩
  · exact ⟨[], none, 0, rfl, Nat.le_refl _, by decide, .inl rfl⟩
  · obtain ⟨xs, hz, hp⟩ := exists_list (p := fun i (x : α) => R w a.block (a.off + i * n) x ∧ a = ⟨a.block, a.off, none⟩) len (fun i hi => by
      obtain ⟨cs0, ⟨h01, h02⟩, _⟩ := hall 0 (by omega)
      have ha : a = ⟨a.block, a.off, none⟩ := by
        have := h02 0 (by omega)
        rw [List.getElem?_eq_getElem (by omega)] at this
        simp only [Nat.zero_mul, Nat.zero_add] at this
        exact addr_plain this
      obtain ⟨cs', ⟨h1, h2⟩, h3⟩ := hall i hi
      obtain ⟨x, hx⟩ := elem cs' a.block (a.off + i * n) h1 (cellsAt_of fun j v hj => by
        have hjn : j < n := by have := (List.getElem?_eq_some_iff.1 hj).1; omega
        have := h2 j hjn
        rw [ha, Addr.add_lit, ← Nat.add_assoc, hj] at this
        exact this) h3
      exact ⟨x, hx, ha⟩)
    refine ⟨xs, some a, cap, by rw [hz], by omega, hm, ?_⟩
    by_cases h0 : xs = []
    · exact .inl h0
    · have h1 : 0 < xs.length := List.length_pos_iff.2 h0
      have ha := (hp 0 _ (List.getElem?_eq_getElem h1)).2
      exact .inr ⟨a.block, a.off, by rw [← ha], fun i p hi => (hp i p hi).1⟩
theorem cellsAt_below {w w' : World} {b off : Nat} {vs : List Value} (h : cellsAt w b off vs) {B : Nat} (hb : Below B w w') (hB : w.heap.size ≤ B) : cellsAt w' b off vs :=
  cellsAt_of fun j v hj => by
    have h1 := cellsAt_get h j v hj
    exact (hb.cell (p := ⟨b, off + j, none⟩) (Nat.lt_of_lt_of_le (block_lt_of_cell h1) hB)).trans h1
theorem open_rows {P : Program} {α : Type} {e : Sh} {n : Nat} {R : World → Nat → Nat → α → Prop} {H : Type} {enc : TypeId × Value → H} {W : World} {t : TypeId} {v : Value} {d : DataW H} {p : List MemPlace} (hn : 0 < n) (elem : ∀ (cs' : List Value) (b off : Nat), cs'.length = n → cellsAt W b off cs' → e.Has W cs' → ∃ x, R W b off x)
    (hf : fitsB P (.slice e n) t = true) (hv : ∃ a l c, v = .slice a l c) (h : DataW.Trod enc P W 0 (fun _ => true) true t v d p) : ∃ (xs : List α) (a : Option Addr) (c : Nat), v = .slice a xs.length c ∧ RowsAt R n W a xs ∧ xs.length ≤ c ∧ c ≤ maxLen := by
  obtain ⟨a, l, c, rfl⟩ := hv
  obtain ⟨xs, a', c', h1, h2, h3, h4⟩ := has_rows hn elem (open_sh hf h)
  simp [Value.cells] at h1
  obtain ⟨rfl, rfl, rfl⟩ := h1
  exact ⟨xs, a, c, rfl, h4, h2, h3⟩
end Go.Proofs.Ytpfmadinijofeaa
end
section
/- An object with a list of its own: each element so many cells, what an element refers to in blocks that the object owns. No program in sight. -/
namespace Go.Proofs.Ytpfmadinijofeaa
open Go.RowKit
theorem cell_keep {w w' : World} {b : Nat} (hk : w'.heap[b]? = w.heap[b]?) (o : Nat) : w'.cell? ⟨b, o, none⟩ = w.cell? ⟨b, o, none⟩ := by unfold World.cell?; simp only [hk]
theorem cellsAt_keep {w w' : World} {b : Nat} (hk : w'.heap[b]? = w.heap[b]?) : ∀ {vs : List Value} {off : Nat}, cellsAt w b off vs → cellsAt w' b off vs
  | [], _, _ => trivial
  | _ :: _, _, h => ⟨(cell_keep hk _).trans h.1, cellsAt_keep hk h.2⟩
theorem cellsAt_list {w : World} {b : Nat} : ∀ {vs : List Value} {off : Nat}, (∀ j v, vs[j]? = some v → w.cell? ⟨b, off + j, none⟩ = some v) → cellsAt w b off vs
  | [], _, _ => trivial
  | v :: r, off, h => ⟨by simpa using h 0 v rfl, cellsAt_list fun j u hu => by have := h (j + 1) u (by simpa using hu); rwa [show off + (j + 1) = off + 1 + j by omega] at this⟩
structure RStable {α : Type} (R : World → List Nat → α → List Value → Prop) (k : Nat) : Prop where
  len : ∀ {w : World} {M : List Nat} {e : α} {cs : List Value}, R w M e cs → cs.length = k
  keep : ∀ {w w' : World} {M : List Nat} {e : α} {cs : List Value}, R w M e cs → (∀ b ∈ M, w'.heap[b]? = w.heap[b]?) → R w' M e cs
  mono : ∀ {w : World} {M K : List Nat} {e : α} {cs : List Value}, R w M e cs → (∀ b ∈ M, b ∈ K) → R w K e cs
def ElsOk {α : Type} (R : World → List Nat → α → List Value → Prop) (k : Nat) (w : World) (M : List Nat) (es : List α) (xs : List Value) : Prop :=
  xs.length = es.length * k ∧ ∀ (i : Nat) (e : α), es[i]? = some e → R w M e ((xs.drop (i * k)).take k)
section
variable {α : Type} {R : World → List Nat → α → List Value → Prop} {k : Nat} {w w' : World} {M K : List Nat} {es : List α} {xs : List Value}
theorem ElsOk.nil : ElsOk R k w M [] [] := ⟨by simp, fun i e h => by cases h⟩
theorem ElsOk.keep (hR : RStable R k) (h : ElsOk R k w M es xs) (hk : ∀ b ∈ M, w'.heap[b]? = w.heap[b]?) : ElsOk R k w' M es xs := ⟨h.1, fun i e he => hR.keep (h.2 i e he) hk⟩
theorem ElsOk.mono (hR : RStable R k) (h : ElsOk R k w M es xs) (hs : ∀ b ∈ M, b ∈ K) : ElsOk R k w K es xs := ⟨h.1, fun i e he => hR.mono (h.2 i e he) hs⟩
theorem ElsOk.app (hR : RStable R k) (h : ElsOk R k w M es xs) {e : α} {cs : List Value} (he : R w M e cs) : ElsOk R k w M (es ++ [e]) (xs ++ cs) := by
  have hc := hR.len he
  refine ⟨by rw [List.length_append, List.length_append, h.1, hc, List.length_singleton, Nat.add_mul, Nat.one_mul], fun i x hx => ?_⟩
  by_cases hi : i < es.length
  · rw [List.getElem?_append_left hi] at hx
    have := h.2 i x hx
    have hm : i * k + k ≤ xs.length := by
      rw [h.1]
      have := Nat.mul_le_mul_right k (show i + 1 ≤ es.length from hi)
      rw [Nat.add_mul, Nat.one_mul] at this
      exact this
    rwa [List.drop_append_of_le_length (by omega), List.take_append_of_le_length (by rw [List.length_drop]; omega)]
  · have hlt := (List.getElem?_eq_some_iff.1 hx).1
    rw [List.length_append, List.length_singleton] at hlt
    obtain rfl : i = es.length := by omega
    rw [List.getElem?_append_right (Nat.le_refl _), Nat.sub_self] at hx
    injection hx with hx; subst hx
    rw [← h.1, List.drop_left, List.take_of_length_le (by omega)]
    exact he
theorem ElsOk.erase (h : ElsOk R k w M es xs) {i : Nat} (hi : i < es.length) : ElsOk R k w M (es.eraseIdx i) (xs.take (i * k) ++ xs.drop ((i + 1) * k)) := by
  have e1 : (i + 1) * k = i * k + k := by rw [Nat.add_mul, Nat.one_mul]
  have e2 : (es.length - 1) * k + k = es.length * k := by
    rw [← Nat.add_one_mul]; congr 1; omega
  have hm : i * k + k ≤ xs.length := by
    rw [h.1]
    have := Nat.mul_le_mul_right k (show i + 1 ≤ es.length from hi)
    omega
  have hxl := h.1
  refine ⟨by rw [List.length_append, List.length_take, List.length_drop, List.length_eraseIdx_of_lt hi]; omega, fun j x hx => ?_⟩
  rw [List.getElem?_eraseIdx] at hx
  split at hx
  · rename_i hj
    have := h.2 j x hx
    have hjk : j * k + k ≤ i * k := by
      have := Nat.mul_le_mul_right k (show j + 1 ≤ i from hj)
      rw [Nat.add_mul, Nat.one_mul] at this; exact this
    rw [List.drop_append_of_le_length (by rw [List.length_take]; omega), List.take_append_of_le_length (by rw [List.length_drop, List.length_take]; omega), List.drop_take, List.take_take]
    rwa [Nat.min_eq_left (by omega)]
  · rename_i hj
    have := h.2 (j + 1) x hx
    have hjk : i * k ≤ j * k := Nat.mul_le_mul_right k (by omega)
    have e3 : (j + 1) * k = j * k + k := by rw [Nat.add_mul, Nat.one_mul]
    have hlt : (xs.take (i * k)).length = i * k := by rw [List.length_take]; omega
    rw [List.drop_append, hlt, List.drop_eq_nil_of_le (by omega), List.nil_append, List.drop_drop]
    rwa [show (i + 1) * k + (j * k - i * k) = (j + 1) * k by omega]
theorem ElsOk.cells (hR : RStable R k) (h : ElsOk R k w M es xs) {te : TypeId} {b0 c : Nat} {a : Option Addr} (hO : Own w b0 te k (.slice a es.length c) es.length xs) {i : Nat} {e : α} (he : es[i]? = some e) :
    ∃ cs, R w M e cs ∧ ∃ b off, a = some ⟨b, off, none⟩ ∧ (b0 ≤ b ∧ b < w.heap.size) ∧ cellsAt w b (off + i * k) cs := by
  have hr := h.2 i e he
  refine ⟨_, hr, ?_⟩
  have hlt := (List.getElem?_eq_some_iff.1 he).1
  rcases hO.2 with ⟨_, h0⟩ | ⟨g, off, cap, cur, hv, hb, hg, _⟩
  · omega
  · injection hv with q1 q2 q3
    subst q1
    refine ⟨g, off, rfl, ⟨hb, heap_lt hg⟩, cellsAt_list fun j v hv => ?_⟩
    rw [List.getElem?_take] at hv
    split at hv
    · rw [List.getElem?_drop] at hv
      rw [Nat.add_assoc]
      exact hO.cells g off c rfl _ v hv
    · cases hv
/-- The object under way: what it owns lies in L, or is new. -/
structure LRaw (R : World → List Nat → α → List Value → Prop) (k : Nat) (te tp : TypeId) (w : World) (L : List Nat) (n0 p : Nat) (f : Value → Array Value) (es : List α) (kv : Value) (xs : List Value) (M : List Nat) : Prop where
  bk : Bk w p (f kv) tp
  own : Own w 0 te k kv es.length xs
  els : ElsOk R k w M es xs
  far : ∀ b ∈ M, (b ∈ L ∨ n0 ≤ b) ∧ b ≠ p ∧ kv.ownBlock ≠ some b
  mine : ∀ b, kv.ownBlock = some b → b ∈ L ∨ n0 ≤ b
  under : Under M w.heap.size
variable {te tp : TypeId} {L : List Nat} {n0 p : Nat} {f : Value → Array Value} {kv : Value}
theorem own_apart {g : Nat} {cs : Array Value} {t e : TypeId} {size n b0 : Nat} {v : Value} {xs : List Value} (h1 : Bk w g cs t) (h2 : Own w b0 e size v n xs) (hne : t ≠ e) : v.ownBlock ≠ some g := by
  intro h
  rcases h2.2 with ⟨rfl, _⟩ | ⟨g', off, cap, cur, rfl, hb, hg, _⟩
  · cases h
  · simp [Value.ownBlock] at h
    subst h
    unfold Bk at h1
    rw [h1] at hg
    injection hg with hg
    injection hg with h3 h4 h5
    exact hne h4
theorem LRaw.keep (hR : RStable R k) (h : LRaw R k te tp w L n0 p f es kv xs M) (hk : ∀ b, (b = p ∨ kv.ownBlock = some b ∨ b ∈ M) → w'.heap[b]? = w.heap[b]?) (hs : w.heap.size ≤ w'.heap.size) : LRaw R k te tp w' L n0 p f es kv xs M :=
  ⟨h.bk.keep (hk p (.inl rfl)), h.own.keep fun b hb => hk b (.inr (.inl hb)), h.els.keep hR fun b hb => hk b (.inr (.inr hb)), h.far, h.mine, h.under.mono hs⟩
theorem LRaw.lt (h : LRaw R k te tp w L n0 p f es kv xs M) {b : Nat} (hb : b = p ∨ kv.ownBlock = some b ∨ b ∈ M) : b < w.heap.size := by
  rcases hb with rfl | hb | hb
  · exact h.bk.lt
  · exact (h.own.lt b hb).2
  · exact h.under b hb
theorem LRaw.below (hR : RStable R k) (h : LRaw R k te tp w L n0 p f es kv xs M) (hb : Below w.heap.size w w') : LRaw R k te tp w' L n0 p f es kv xs M := h.keep hR (fun b hb' => hb.block b (h.lt hb')) hb.size
theorem LRaw.more (hR : RStable R k) (h : LRaw R k te tp w L n0 p f es kv xs M) (B : List Nat) (hB : ∀ b ∈ B, (b ∈ L ∨ n0 ≤ b) ∧ b < w.heap.size ∧ b ≠ p ∧ kv.ownBlock ≠ some b) : LRaw R k te tp w L n0 p f es kv xs (M ++ B) :=
  ⟨h.bk, h.own, h.els.mono hR fun _ hk => List.mem_append_left _ hk, fun b hb => (List.mem_append.1 hb).elim (h.far b) fun hb => ⟨(hB b hb).1, (hB b hb).2.2⟩, h.mine, fun b hb => (List.mem_append.1 hb).elim (h.under b) fun hb => (hB b hb).2.1⟩
theorem LRaw.wider (h : LRaw R k te tp w L n0 p f es kv xs M) (hs : ∀ b ∈ L, b ∈ K) : LRaw R k te tp w K n0 p f es kv xs M :=
  ⟨h.bk, h.own, h.els, fun b hb => ⟨(h.far b hb).1.imp (hs b) id, (h.far b hb).2⟩, fun b hb => (h.mine b hb).imp (hs b) id, h.under⟩
/-- The list has turned, and is stored: appended to, cut, or new. -/
theorem LRaw.turn (hR : RStable R k) (hne : tp ≠ te) (h : LRaw R k te tp w L n0 p f es kv xs M) (hn : n0 ≤ w.heap.size) {es' : List α} {xs' : List Value} (he : ElsOk R k w M es' xs') {v1 : Value} (ho : Own w' 0 te k v1 es'.length xs') (hp : w'.heap[p]? = w.heap[p]?) (hM : ∀ b ∈ M, w'.heap[b]? = w.heap[b]?) (hs : w.heap.size ≤ w'.heap.size)
    (hn1 : v1.ownBlock = kv.ownBlock ∨ ∃ g, v1.ownBlock = some g ∧ w.heap.size ≤ g) {j : Nat} (hj : (f kv).setIfInBounds j v1 = f v1) : LRaw R k te tp (w'.setCell ⟨p, j, none⟩ v1) L n0 p f es' v1 xs' M := by
  have b1 := h.bk.keep hp
  have hk1 : ∀ b, b ≠ p → (w'.setCell ⟨p, j, none⟩ v1).heap[b]? = w'.heap[b]? := fun b hb => Below.heap_setCell _ _ _ _ hb
  have hfar : ∀ b ∈ M, v1.ownBlock ≠ some b := fun b hb e => by
    rcases hn1 with h1 | ⟨g, h1, hg1⟩
    · exact (h.far b hb).2.2 (h1 ▸ e)
    · rw [h1] at e; injection e with e; have := h.under b hb; omega
  refine ⟨hj ▸ b1.setCell j v1, ho.keep fun b hb => hk1 b fun e2 => own_apart b1 ho hne (e2 ▸ hb), (he.keep hR hM).keep hR fun b hb => hk1 b (h.far b hb).2.1, fun b hb => ⟨(h.far b hb).1, (h.far b hb).2.1, hfar b hb⟩, fun b hb => ?_, (h.under.mono hs).mono (by simp)⟩
  rcases hn1 with h1 | ⟨g, h1, hg1⟩
  · exact h.mine b (h1 ▸ hb)
  · rw [h1] at hb; injection hb with hb; exact .inr (by omega)
/-- Another cell of the object is stored. -/
theorem LRaw.cell (hR : RStable R k) (hne : tp ≠ te) (h : LRaw R k te tp w L n0 p f es kv xs M) {j : Nat} {v : Value} {f' : Value → Array Value} (hj : (f kv).setIfInBounds j v = f' kv) : LRaw R k te tp (w.setCell ⟨p, j, none⟩ v) L n0 p f' es kv xs M := by
  have hk1 : ∀ b, b ≠ p → (w.setCell ⟨p, j, none⟩ v).heap[b]? = w.heap[b]? := fun b hb => Below.heap_setCell _ _ _ _ hb
  exact ⟨hj ▸ h.bk.setCell j v, h.own.keep fun b hb => hk1 b fun e2 => own_apart h.bk h.own hne (e2 ▸ hb), h.els.keep hR fun b hb => hk1 b (h.far b hb).2.1, h.far, h.mine, h.under.mono (by simp)⟩
/-- The object, with all that it owns. -/
structure LAt (R : World → List Nat → α → List Value → Prop) (k : Nat) (te tp : TypeId) (w : World) (L : List Nat) (p : Nat) (f : Value → Array Value) (es : List α) : Prop where
  ex : ∃ kv xs M, Bk w p (f kv) tp ∧ Own w 0 te k kv es.length xs ∧ ElsOk R k w M es xs ∧ (∀ b ∈ M, b ∈ L ∧ b ≠ p ∧ kv.ownBlock ≠ some b) ∧ ∀ b, kv.ownBlock = some b → b ∈ L
  mem : p ∈ L
  under : Under L w.heap.size
theorem LAt.raw (h : LAt R k te tp w L p f es) (n0 : Nat) : ∃ kv xs M, LRaw R k te tp w L n0 p f es kv xs M := by
  obtain ⟨⟨kv, xs, M, h1, h2, h3, h4, h5⟩, hm, hu⟩ := h
  exact ⟨kv, xs, M, h1, h2, h3, fun b hb => ⟨.inl (h4 b hb).1, (h4 b hb).2⟩, fun b hb => .inl (h5 b hb), fun b hb => hu b (h4 b hb).1⟩
theorem LRaw.at (h : LRaw R k te tp w L n0 p f es kv xs M) (hp : p ∈ L) : ∃ L', LAt R k te tp w L' p f es ∧ Gr L L' n0 := by
  refine ⟨p :: (kv.ownBlock.toList ++ M), ⟨⟨kv, xs, M, h.bk, h.own, h.els, fun b hb => ⟨by simp [hb], (h.far b hb).2⟩, fun b hb => by simp [hb]⟩, by simp, fun b hb => ?_⟩, fun b hb => ?_⟩
  · rcases List.mem_cons.1 hb with rfl | hb
    · exact h.bk.lt
    · rcases List.mem_append.1 hb with hb | hb
      · exact (h.own.lt b (by simpa using hb)).2
      · exact h.under b hb
  · rcases List.mem_cons.1 hb with rfl | hb
    · exact .inl hp
    · rcases List.mem_append.1 hb with hb | hb
      · exact h.mine b (by simpa using hb)
      · exact (h.far b hb).1
theorem LAt.keep (hR : RStable R k) (h : LAt R k te tp w L p f es) (hk : ∀ b ∈ L, w'.heap[b]? = w.heap[b]?) (hs : w.heap.size ≤ w'.heap.size) : LAt R k te tp w' L p f es := by
  obtain ⟨⟨kv, xs, M, h1, h2, h3, h4, h5⟩, hm, hu⟩ := h
  exact ⟨⟨kv, xs, M, h1.keep (hk p hm), h2.keep (fun b e => hk b (h5 b e)), h3.keep hR (fun b e => hk b (h4 b e).1), h4, h5⟩, hm, hu.mono hs⟩
theorem LAt.fr (hR : RStable R k) (h : LAt R k te tp w L p f es) (hf : Fr K w w') (ha : Apart L K) : LAt R k te tp w' L p f es := h.keep hR (hf.keep ha h.under) hf.size
theorem LAt.below (hR : RStable R k) (h : LAt R k te tp w L p f es) (hb : Below w.heap.size w w') : LAt R k te tp w' L p f es := h.keep hR (fun b hk => hb.block b (h.under b hk)) hb.size
end
end Go.Proofs.Ytpfmadinijofeaa
end
section
/- One element less: what 'slices.Delete' does to a list that is owned. No program in sight. -/
namespace Go.Proofs.Ytpfmadinijofeaa
open Go.RowKit
variable {P : Program} {w : World} {b : Nat} {e : TypeId} {k : Nat} {xs : List Value}
theorem Own.pre {a : Option Addr} {n c i : Nat} (h : Own w b e k (.slice a n c) n xs) (hi : i ≤ n) : Own w b e k (.slice a i c) i (xs.take (i * k)) := by
  obtain ⟨hl, h⟩ := h
  have hm : i * k ≤ n * k := Nat.mul_le_mul_right k hi
  refine ⟨by rw [List.length_take]; omega, ?_⟩
  rcases h with ⟨h0, h1⟩ | ⟨g, off, cap, cur, hv, hb, hg, hn, hm2, hs, ht⟩
  · injection h0 with q1 q2 q3
    subst q1; subst q3
    obtain rfl : i = 0 := by omega
    exact .inl ⟨rfl, rfl⟩
  · injection hv with q1 q2 q3
    subst q1; subst q3
    refine .inr ⟨g, off, c, cur, rfl, hb, hg, by omega, hm2, hs, ?_⟩
    rw [← ht, List.take_take, Nat.min_eq_left hm]
theorem own_somewhere {a : Option Addr} {n c : Nat} (h : Own w b e k (.slice a n c) n xs) (hn : 0 < n) : ∃ g off, a = some ⟨g, off, none⟩ ∧ n ≤ c := by
  rcases h.2 with ⟨_, h0⟩ | ⟨g, off, cap, cur, hv, _, _, hc, _⟩
  · omega
  · injection hv with q1 q2 q3
    subst q1; subst q3
    exact ⟨g, off, rfl, hc⟩
theorem Own.tail {a : Option Addr} {n c i : Nat} (h : Own w b e k (.slice a n c) n xs) (hi : i < n) {tx e' : TypeId} (hk : P.underlying tx = some (.slice e')) (h1 : ∀ v ∈ xs, v.oneCell' = true) :
    Src P k tx (.slice (sliceBase a c (i + 1) k) (n - (i + 1)) (c - (i + 1))) (n - (i + 1)) (xs.drop ((i + 1) * k)) w := by
  obtain ⟨g, off, rfl, hc⟩ := own_somewhere h (by omega)
  have hx := h.1
  have e1 : (n - (i + 1)) * k + (i + 1) * k = n * k := by rw [← Nat.add_mul]; congr 1; omega
  have hl : (xs.drop ((i + 1) * k)).length = (n - (i + 1)) * k := by rw [List.length_drop]; omega
  have h1' : ∀ v ∈ xs.drop ((i + 1) * k), v.oneCell' = true := fun v hv => h1 v (List.mem_of_mem_drop hv)
  unfold sliceBase
  split
  · rename_i hce
    have h0 : n - (i + 1) = 0 := by omega
    have hd : xs.drop ((i + 1) * k) = [] := List.eq_nil_of_length_eq_zero (by rw [hl, h0, Nat.zero_mul])
    rw [hd] at hl h1' ⊢
    exact Src.ofSlice w hk _ _ _ _ hl (fun j u hu => by cases hu) h1'
  · refine Src.ofSlice w hk _ _ _ _ hl (fun j u hu => ?_) h1'
    rw [List.getElem?_drop] at hu
    have := h.cells g off c rfl _ u hu
    show w.cell? (((⟨g, off, none⟩ : Addr).add ((i + 1) * k)).add j) = some u
    rw [Addr.add_lit, Addr.add_lit, Nat.add_assoc]
    exact this
theorem own_beyond1 {g off n c j : Nat} (h : Own w b e k (.slice (some ⟨g, off, none⟩) n c) n xs) (hj : n * k ≤ j) (hc : j < c * k) (v : Value) :
    (w.cell? ⟨g, off + j, none⟩).isSome = true ∧ w.frozen? ⟨g, off + j, none⟩ = false ∧ Own (w.setCell ⟨g, off + j, none⟩ v) b e k (.slice (some ⟨g, off, none⟩) n c) n xs := by
  obtain ⟨hl, h⟩ := h
  rcases h with ⟨h0, h1⟩ | ⟨g', off', cap, cur, hv, hb, hg, hn, hm2, hs, ht⟩
  · cases h0
  · injection hv with q1 q2 q3
    injection q1 with q1
    injection q1 with q1 q4
    subst q1; subst q3; subst q4
    have hB : Bk w g cur e := hg
    refine ⟨?_, hB.frozen _, hl, .inr ⟨g, off, c, _, rfl, hb, hB.setCell (off + j) v, hn, hm2, by simpa using hs, ?_⟩⟩
    · rw [hB.cell, Array.getElem?_eq_getElem (by omega)]; rfl
    · rw [← ht, Array.toList_setIfInBounds, List.drop_set]
      rw [if_neg (by omega), show off + j - off = j by omega, List.take_set, List.set_eq_of_length_le (by rw [List.length_take]; omega)]
theorem own_beyond {g off n c : Nat} : ∀ (vs : List Value) (j : Nat) (w : World), Own w b e k (.slice (some ⟨g, off, none⟩) n c) n xs → n * k ≤ j → j + vs.length ≤ c * k →
    w.there g (off + j) vs.length ∧ Own (w.setCells g (off + j) vs) b e k (.slice (some ⟨g, off, none⟩) n c) n xs ∧ Fr [g] w (w.setCells g (off + j) vs) ∧ (w.setCells g (off + j) vs).heap.size = w.heap.size
  | [], j, w, h, _, _ => ⟨fun i hi => by simp at hi, h, Fr.refl _ _, rfl⟩
  | v :: r, j, w, h, hj, hc => by
    rw [List.length_cons] at hc
    obtain ⟨h1, h2, h3⟩ := own_beyond1 h hj (by omega) v
    obtain ⟨k1, k2, k3, k4⟩ := own_beyond r (j + 1) _ h3 (by omega) (by omega)
    rw [← Nat.add_assoc] at k1 k2 k3 k4
    refine ⟨fun i hi => ?_, k2, ((Fr.refl [g] w).setCell (p := ⟨g, off + j, none⟩) (.inl (by simp)) v).trans k3 (Gr.refl _ _), k4.trans (by simp)⟩
    rw [List.length_cons] at hi
    refine ⟨?_, ?_⟩
    · obtain ⟨a1, a2, _⟩ := own_beyond1 h (j := j + i) (by omega) (by omega) v
      rw [Nat.add_assoc]; exact a1
    · obtain ⟨a1, a2, _⟩ := own_beyond1 h (j := j + i) (by omega) (by omega) v
      rw [Nat.add_assoc]; exact a2
theorem els_one {α : Type} {R : World → List Nat → α → List Value → Prop} {M : List Nat} {es : List α} (h : ElsOk R k w M es xs) (hR : ∀ w M e cs, R w M e cs → ∀ v ∈ cs, v.oneCell' = true) : ∀ v ∈ xs, v.oneCell' = true := by
  intro v hv
  obtain ⟨j, hj⟩ := List.getElem?_of_mem hv
  have hlt := (List.getElem?_eq_some_iff.1 hj).1
  have hl := h.1
  have hk : 0 < k := by
    rcases Nat.eq_zero_or_pos k with h0 | h0
    · subst h0; omega
    · exact h0
  have hi : j / k < es.length := Nat.div_lt_of_lt_mul (by rw [Nat.mul_comm]; omega)
  have := h.2 _ _ (List.getElem?_eq_getElem hi)
  refine hR _ _ _ _ this v ?_
  have hm : j = j / k * k + j % k := by rw [Nat.mul_comm]; exact (Nat.div_add_mod j k).symm
  have hmod := Nat.mod_lt j hk
  refine List.mem_iff_getElem?.2 ⟨j % k, ?_⟩
  rw [List.getElem?_take, if_pos hmod, List.getElem?_drop, ← hm]
  exact hj
end Go.Proofs.Ytpfmadinijofeaa
end
section
/- One element of an owned list is written over. No program in sight. -/
namespace Go.Proofs.Ytpfmadinijofeaa
open Go.RowKit
variable {w : World} {b : Nat} {e : TypeId} {k : Nat} {xs : List Value}
def setL : List Value → Nat → List Value → List Value
  | xs, _, [] => xs
  | xs, j, v :: r => setL (xs.set j v) (j + 1) r
theorem setL_len : ∀ (vs : List Value) (xs : List Value) (j : Nat), (setL xs j vs).length = xs.length
  | [], _, _ => rfl
  | v :: r, xs, j => by rw [setL, setL_len r, List.length_set]
theorem setL_get : ∀ (vs : List Value) (xs : List Value) (j i : Nat), j + vs.length ≤ xs.length → (setL xs j vs)[i]? = if j ≤ i ∧ i < j + vs.length then vs[i - j]? else xs[i]?
  | [], xs, j, i, _ => by rw [setL, if_neg (by simp only [List.length_nil]; omega)]
  | v :: r, xs, j, i, h => by
    rw [List.length_cons] at h
    rw [setL, setL_get r (xs.set j v) (j + 1) i (by rw [List.length_set]; omega), List.length_cons]
    by_cases h1 : i = j
    · subst h1
      rw [if_neg (by omega), if_pos (by omega), Nat.sub_self, List.getElem?_set_self (by omega)]
      rfl
    · by_cases h2 : j + 1 ≤ i ∧ i < j + 1 + r.length
      · rw [if_pos h2, if_pos (by omega), show i - j = (i - (j + 1)) + 1 by omega, List.getElem?_cons_succ]
      · rw [if_neg h2, if_neg (by omega), List.getElem?_set_ne (by omega)]
theorem own_in1 {g off n c j : Nat} (h : Own w b e k (.slice (some ⟨g, off, none⟩) n c) n xs) (hj : j < n * k) (v : Value) :
    (w.cell? ⟨g, off + j, none⟩).isSome = true ∧ w.frozen? ⟨g, off + j, none⟩ = false ∧ Own (w.setCell ⟨g, off + j, none⟩ v) b e k (.slice (some ⟨g, off, none⟩) n c) n (xs.set j v) := by
  obtain ⟨hl, h⟩ := h
  rcases h with ⟨h0, h1⟩ | ⟨g', off', cap, cur, hv, hb, hg, hn, hm2, hs, ht⟩
  · cases h0
  · injection hv with q1 q2 q3
    injection q1 with q1
    injection q1 with q1 q4
    subst q1; subst q3; subst q4
    have hB : Bk w g cur e := hg
    have hm : n * k ≤ c * k := Nat.mul_le_mul_right k hn
    refine ⟨?_, hB.frozen _, by rw [List.length_set]; exact hl, .inr ⟨g, off, c, _, rfl, hb, hB.setCell (off + j) v, hn, hm2, by simpa using hs, ?_⟩⟩
    · rw [hB.cell, Array.getElem?_eq_getElem (by omega)]; rfl
    · rw [← ht, Array.toList_setIfInBounds, List.drop_set]
      rw [if_neg (by omega), show off + j - off = j by omega, List.take_set]
theorem own_setL {g off n c : Nat} : ∀ (vs : List Value) (j : Nat) (w : World) (xs : List Value), Own w b e k (.slice (some ⟨g, off, none⟩) n c) n xs → j + vs.length ≤ n * k →
    w.there g (off + j) vs.length ∧ Own (w.setCells g (off + j) vs) b e k (.slice (some ⟨g, off, none⟩) n c) n (setL xs j vs) ∧ Fr [g] w (w.setCells g (off + j) vs) ∧ (w.setCells g (off + j) vs).heap.size = w.heap.size
  | [], j, w, xs, h, _ => ⟨fun i hi => by simp at hi, h, Fr.refl _ _, rfl⟩
  | v :: r, j, w, xs, h, hc => by
    rw [List.length_cons] at hc
    obtain ⟨h1, h2, h3⟩ := own_in1 h (j := j) (by omega) v
    obtain ⟨k1, k2, k3, k4⟩ := own_setL r (j + 1) _ _ h3 (by omega)
    rw [← Nat.add_assoc] at k1 k2 k3 k4
    refine ⟨fun i hi => ?_, k2, ((Fr.refl [g] w).setCell (p := ⟨g, off + j, none⟩) (.inl (by simp)) v).trans k3 (Gr.refl _ _), k4.trans (by simp)⟩
    rw [List.length_cons] at hi
    obtain ⟨a1, a2, _⟩ := own_in1 h (j := j + i) (by omega) v
    rw [Nat.add_assoc]
    exact ⟨a1, a2⟩
/-- An element of so many cells is stored. -/
theorem Own.storeK {g off n c i : Nat} (h : Own w b e k (.slice (some ⟨g, off, none⟩) n c) n xs) (hi : i < n) {vs : List Value} (hv : vs.length = k) {gs : List Nat} (hgs : ∀ x ∈ gs, x ≠ g) {K : World → Prop}
    (hk : ∀ w1, Own w1 b e k (.slice (some ⟨g, off, none⟩) n c) n (setL xs (i * k) vs) → Fr [g] w w1 → w1.heap.size = w.heap.size → K w1) : stO gs w g (off + i * k) vs K := by
  have hm : i * k + k ≤ n * k := by
    have := Nat.mul_le_mul_right k (show i + 1 ≤ n from hi)
    rw [Nat.add_mul, Nat.one_mul] at this; exact this
  obtain ⟨k1, k2, k3, k4⟩ := own_setL vs (i * k) w xs h (by omega)
  exact ⟨hgs, k1, fun w1 e1 => by subst e1; exact hk _ k2 k3 k4⟩
theorem ElsOk.set {α : Type} {R : World → List Nat → α → List Value → Prop} {M : List Nat} {es : List α} (hR : RStable R k) (h : ElsOk R k w M es xs) {i : Nat} (hi : i < es.length) {x : α} {cs : List Value} (hx : R w M x cs) : ElsOk R k w M (es.set i x) (setL xs (i * k) cs) := by
  have hl := h.1
  have hc := hR.len hx
  have hm : ∀ j, j < es.length → j * k + k ≤ xs.length := fun j hj => by
    rw [hl]
    have := Nat.mul_le_mul_right k (show j + 1 ≤ es.length from hj)
    rw [Nat.add_mul, Nat.one_mul] at this; exact this
  refine ⟨by rw [setL_len, List.length_set, hl], fun j y hy => ?_⟩
  have hj : j < es.length := by have := (List.getElem?_eq_some_iff.1 hy).1; rwa [List.length_set] at this
  have key : ((setL xs (i * k) cs).drop (j * k)).take k = if i = j then cs else (xs.drop (j * k)).take k := by
    apply List.ext_getElem?
    intro q
    rw [List.getElem?_take]
    by_cases hq : q < k
    · rw [if_pos hq, List.getElem?_drop, setL_get _ _ _ _ (by have := hm i hi; omega)]
      by_cases hij : i = j
      · subst hij
        rw [if_pos rfl, if_pos (by omega)]
        congr 1; omega
      · rw [if_neg hij]
        have hne : ¬ (i * k ≤ j * k + q ∧ j * k + q < i * k + cs.length) := by
          rintro ⟨h1, h2⟩
          rcases Nat.lt_or_gt_of_ne hij with h3 | h3
          · have := Nat.mul_le_mul_right k (show i + 1 ≤ j from h3)
            rw [Nat.add_mul, Nat.one_mul] at this; omega
          · have := Nat.mul_le_mul_right k (show j + 1 ≤ i from h3)
            rw [Nat.add_mul, Nat.one_mul] at this; omega
        rw [if_neg hne, List.getElem?_take, if_pos hq, List.getElem?_drop]
    · rw [if_neg hq]
      symm
      split
      · rw [List.getElem?_eq_none (by omega)]
      · rw [List.getElem?_take, if_neg hq]
  rw [key]
  by_cases hij : i = j
  · subst hij
    rw [List.getElem?_set_self hi] at hy
    injection hy with hy; subst hy
    rw [if_pos rfl]; exact hx
  · rw [List.getElem?_set_ne hij] at hy
    rw [if_neg hij]
    exact h.2 j y hy
end Go.Proofs.Ytpfmadinijofeaa
end
section
/- Functions that write nothing but blocks of their own: their steps, seen from the world that they began in. No program in sight. -/
namespace Go.Proofs.Ytpfmadinijofeaa
open Go.RowKit
theorem box_below {w w1 w2 : World} {g : Nat} (h : Below w.heap.size w w1) (hg : w.heap.size ≤ g) (hb : BoxSt g w1 w2) : Below w.heap.size w w2 := h.trans (hb.1.below (fun k hk => by rw [List.mem_singleton] at hk; omega) h.size)
/-- One value comes back, and what was there is as it was. -/
def Ret (v : Value) (w : World) : Ending → World → Prop := fun e w' => e = .returned v ∧ Below w.heap.size w w'
theorem ret_in {P : Program} {f : FuncId} {av : Array Value} {w : World} {v : Value} (h : Calls P f av w fun e w' => ∃ u, e = .returned u ∧ (u = v ∧ Below w.heap.size w w')) : Calls P f av w (Ret v w) :=
  h.mono (by rintro e w' ⟨u, rfl, rfl, b⟩; exact ⟨rfl, b⟩)
theorem ret_same {P : Program} {f : FuncId} {av : Array Value} {w : World} {v : Value} (h : Calls P f av w fun e w' => e = .returned v ∧ w' = w) : Calls P f av w (Ret v w) :=
  h.mono (by rintro e w' ⟨rfl, rfl⟩; exact ⟨rfl, Below.refl _ _⟩)
section
variable {w0 w : World}
abbrev Bs (w0 w : World) : Prop := Below w0.heap.size w0 w
theorem Bs.refl (w : World) : Bs w w := Below.refl _ _
theorem Bs.to {w1 : World} (B : Bs w0 w) (b : Below w.heap.size w w1) : Bs w0 w1 := Below.trans B (b.mono B.size)
theorem Bs.box {g : Nat} {w1 : World} (B : Bs w0 w) (hg : w0.heap.size ≤ g) (h : BoxSt g w w1) : Bs w0 w1 := box_below B hg h
theorem newB (B : Bs w0 w) {o : Obj} {K : Nat → World → Prop} (h : ∀ g w1, w0.heap.size ≤ g → w.heap.size = g → w1.heap[g]? = some o → w1.heap.size = g + 1 → Below w.heap.size w w1 → Bs w0 w1 → K g w1) : newO w o K := by
  rintro g w1 rfl rfl
  exact h _ _ B.size rfl (al_new rfl) (by simp) (Below_one o) (B.to (Below_one o))
theorem drewB (B : Bs w0 w) {K : World → Prop} (h : ∀ w1, Below w.heap.size w w1 → Bs w0 w1 → w1.heap = w.heap → K w1) : drewO w K := fun w1 h1 h2 => h w1 h2 (B.to h2) h1
theorem boxB {g : Nat} (B : Bs w0 w) (hg : w0.heap.size ≤ g) {K : World → Prop} (h : ∀ w1, BoxSt g w w1 → Bs w0 w1 → w1.heap.size = w.heap.size → K w1) : ∀ w1, BoxSt g w w1 → K w1 := fun w1 h1 => h w1 h1 (B.box hg h1) h1.2
theorem callB {P : Program} {f : FuncId} {av : Array Value} {v : Value} {gs : List Nat} {R : Ending → World → Prop} (B : Bs w0 w) (h : Calls P f av w (Ret v w)) (k : ∀ w1, Below w.heap.size w w1 → Bs w0 w1 → R (.returned v) w1) :
    Calls P f av w (fun e w1 => KeepG gs w w1 ∧ R e w1) := h.mono (by rintro e w1 ⟨rfl, b⟩; exact ⟨keepG_below b, k w1 b (B.to b)⟩)
theorem callQ {P : Program} {f : FuncId} {av : Array Value} {gs : List Nat} {Q R : Ending → World → Prop} (B : Bs w0 w) (h : Calls P f av w (fun e w1 => Q e w1 ∧ Below w.heap.size w w1)) (k : ∀ e w1, Q e w1 → Below w.heap.size w w1 → Bs w0 w1 → R e w1) :
    Calls P f av w (fun e w1 => KeepG gs w w1 ∧ R e w1) := h.mono (by rintro e w1 ⟨q, b⟩; exact ⟨keepG_below b, k e w1 q b (B.to b)⟩)
end
/-- Elements of k cells each, one behind the other, in a block from n0 on. -/
def Rws {α : Type} (enc : α → List Value) (k n0 : Nat) (w : World) (a : Option Addr) (xs : List α) : Prop := xs = [] ∨ ∃ b off, a = some ⟨b, off, none⟩ ∧ n0 ≤ b ∧ ∀ i x, xs[i]? = some x → cellsAt w b (off + i * k) (enc x)
section
variable {α : Type} {enc : α → List Value} {k n0 : Nat} {w w' : World} {a : Option Addr} {xs : List α}
theorem Rws.nil : Rws enc k n0 w a [] := .inl rfl
theorem Rws.ofRows (h : RowsAt (fun w b off x => cellsAt w b off (enc x)) k w a xs) : Rws enc k 0 w a xs := h.elim .inl fun ⟨b, off, h1, h2⟩ => .inr ⟨b, off, h1, Nat.zero_le _, h2⟩
theorem Rws.low {n1 : Nat} (h : Rws enc k n0 w a xs) (hn : n1 ≤ n0) : Rws enc k n1 w a xs := h.elim .inl fun ⟨b, off, h1, h2, h3⟩ => .inr ⟨b, off, h1, Nat.le_trans hn h2, h3⟩
theorem Rws.keep (h : Rws enc k n0 w a xs) (hk : ∀ b, n0 ≤ b → b < w.heap.size → w'.heap[b]? = w.heap[b]?) : Rws enc k n0 w' a xs := by
  rcases h with h | ⟨b, off, ha, hb, h⟩
  · exact .inl h
  · refine .inr ⟨b, off, ha, hb, fun i x hx => cellsAt_of fun j v hj => ?_⟩
    have h1 := cellsAt_get (h i x hx) j v hj
    have h2 := block_lt_of_cell h1
    rw [cell_keep (hk b hb h2)]
    exact h1
theorem Rws.below (h : Rws enc k n0 w a xs) (hb : Below w.heap.size w w') : Rws enc k n0 w' a xs := h.keep fun b _ h2 => hb.block b h2
theorem Rws.box {g : Nat} (h : Rws enc k n0 w a xs) (hb : BoxSt g w w') (hg : g < n0) : Rws enc k n0 w' a xs := h.keep fun b h1 h2 => hb.1.block b h2 (by rw [List.mem_singleton]; omega)
theorem Rws.newbox {g : Nat} {w1 w2 : World} (h : Rws enc k n0 w a xs) (hb : Below w.heap.size w w1) (sg : w.heap.size = g) (hx : BoxSt g w1 w2) : Rws enc k n0 w2 a xs := h.keep fun b _ h2 => (hx.1.block b (by have := hb.size; omega) (by rw [List.mem_singleton]; omega)).trans (hb.block b h2)
theorem Rws.grown {r : Option Nat} (h : Rws enc k n0 w a xs) (hg : w.grownBy w' r) (hr : ∀ b, r = some b → b < n0) : Rws enc k n0 w' a xs := h.keep fun b h1 h2 => hg.block b h2 fun e => by have := hr b e.symm; omega
theorem Rws.get (h : Rws enc k n0 w a xs) {i : Nat} (hi : i < xs.length) : ∃ b off, a = some ⟨b, off, none⟩ ∧ cellsAt w b (off + i * k) (enc xs[i]) := by
  rcases h with rfl | ⟨b, off, ha, _, h⟩
  · simp at hi
  · exact ⟨b, off, ha, h i _ (List.getElem?_eq_getElem hi)⟩
theorem Rws.take (h : Rws enc k n0 w a xs) (n : Nat) : Rws enc k n0 w a (xs.take n) := by
  rcases h with rfl | ⟨b, off, ha, h0, h⟩
  · exact .inl (by simp)
  · refine .inr ⟨b, off, ha, h0, fun i x hx => h i x ?_⟩
    rw [List.getElem?_take] at hx
    split at hx
    · exact hx
    · cases hx
theorem flatK_len (hk : ∀ x, (enc x).length = k) : ∀ es : List α, (es.flatMap enc).length = es.length * k
  | [] => by simp
  | e :: r => by rw [List.flatMap_cons, List.length_append, flatK_len hk r, hk, List.length_cons, Nat.add_mul]; omega
theorem flatK_get (hk : ∀ x, (enc x).length = k) : ∀ (es : List α) (i : Nat) (e : α) (j : Nat), es[i]? = some e → j < k → (es.flatMap enc)[i * k + j]? = (enc e)[j]?
  | x :: r, 0, e, j, h, hj => by
    cases h
    rw [List.flatMap_cons, List.getElem?_append_left (by rw [hk]; omega)]
    congr 1; omega
  | x :: r, i + 1, e, j, h, hj => by
    have e1 : (i + 1) * k = i * k + k := by rw [Nat.add_mul, Nat.one_mul]
    rw [List.flatMap_cons, List.getElem?_append_right (by rw [hk]; omega), hk, show (i + 1) * k + j - k = i * k + j by omega]
    exact flatK_get hk r i e j (by simpa using h) hj
theorem Rws.ofOwn {t : TypeId} {n c : Nat} (hkp : 0 < k) (hk : ∀ x, (enc x).length = k) (h : Own w n0 t k (.slice a n c) n (xs.flatMap enc)) : Rws enc k n0 w a xs := by
  by_cases h0 : xs = []
  · exact .inl h0
  rcases h.2 with ⟨h1, h2⟩ | ⟨g, off, cap, cur, hv, hb, hg, hn, hm, hs, ht⟩
  · have h3 := h.1
    rw [flatK_len hk, h2, Nat.zero_mul] at h3
    exact absurd (List.length_eq_zero_iff.1 ((Nat.mul_eq_zero.1 h3).resolve_right (by omega))) h0
  · injection hv with h1 h2 h3
    subst h1; subst h3
    refine .inr ⟨g, off, rfl, hb, fun i x hx => cellsAt_list fun j v hv => ?_⟩
    have hj : j < k := by have := (List.getElem?_eq_some_iff.1 hv).1; rw [hk] at this; exact this
    have := flatK_get hk xs i x j hx hj
    rw [Nat.add_assoc]
    exact h.cells g off c rfl _ v (by rw [this]; exact hv)
theorem Rws.src {P : Program} {tx e' : TypeId} {c : Nat} (hT : P.underlying tx = some (.slice e')) (hkp : 0 < k) (hk : ∀ x, (enc x).length = k) (h1 : ∀ x, ∀ v ∈ enc x, v.oneCell' = true) (h : Rws enc k n0 w a xs) : Src P k tx (.slice a xs.length c) xs.length (xs.flatMap enc) w := by
  have hone : ∀ v ∈ xs.flatMap enc, v.oneCell' = true := fun v hv => by
    obtain ⟨x, _, hx⟩ := List.mem_flatMap.1 hv
    exact h1 x v hx
  cases a with
  | none =>
    rcases h with rfl | ⟨b, off, ha, _⟩
    · exact Src.ofNil w hT c
    · cases ha
  | some ad =>
    refine Src.ofSlice w hT ad _ _ _ (flatK_len hk xs) (fun j u hu => ?_) hone
    rcases h with rfl | ⟨b, off, ha, _, h⟩
    · cases hu
    · injection ha with ha; subst ha
      have hlt := (List.getElem?_eq_some_iff.1 hu).1
      rw [flatK_len hk] at hlt
      have hi : j / k < xs.length := (Nat.div_lt_iff_lt_mul hkp).2 hlt
      have hm : j % k < k := Nat.mod_lt _ hkp
      have hx := List.getElem?_eq_getElem hi
      have h1 := flatK_get hk xs (j / k) _ (j % k) hx hm
      have hd : j / k * k + j % k = j := by rw [Nat.mul_comm]; exact Nat.div_add_mod j k
      rw [hd, hu] at h1
      have := cellsAt_get (h _ _ hx) (j % k) u h1.symm
      rw [Addr.add_lit]
      rwa [Nat.add_assoc, hd] at this
end
theorem Rws.one {α : Type} {enc : α → List Value} {k n0 g : Nat} {w : World} {x : α} {t : TypeId} {fr : Nat × Nat} (h : w.heap[g]? = some (.cells (enc x).toArray t fr)) (hg : n0 ≤ g) : Rws enc k n0 w (some ⟨g, 0, none⟩) [x] := by
  refine .inr ⟨g, 0, rfl, hg, fun i y hy => ?_⟩
  have hi : i = 0 := by have := (List.getElem?_eq_some_iff.1 hy).1; simp at this; omega
  subst hi
  simp at hy
  subst hy
  rw [Nat.zero_mul]
  exact cellsAt_row h (by simp)
theorem Own.box {w w1 : World} {n1 size n g : Nat} {e : TypeId} {v : Value} {xs : List Value} (h : Own w n1 e size v n xs) (hb : BoxSt g w w1) (hg : ∀ k, v.ownBlock = some k → k ≠ g) : Own w1 n1 e size v n xs := h.keep fun k hk => hb.1.block k (h.lt k hk).2 (by rw [List.mem_singleton]; exact hg k hk)
/-- A new box was made and filled. -/
theorem Own.newbox {w w1 w2 : World} {n1 size n g : Nat} {e : TypeId} {v : Value} {xs : List Value} (h : Own w n1 e size v n xs) (hb : Below w.heap.size w w1) (sg : w.heap.size = g) (hx : BoxSt g w1 w2) : Own w2 n1 e size v n xs := (h.below hb (Nat.le_refl _)).box hx fun k hk => by have := (h.lt k hk).2; omega
/-- What is appended to, is one's own. -/
theorem appB {P : Program} {gs : List Nat} {w0 w : World} {e : TypeId} {size bytes n1 n c m : Nat} {tx : TypeId} {a : Option Addr} {x : Value} {xs news : List Value} {K : Nat → Option Addr → Nat → World → Prop}
    (B : Bs w0 w) (o : Own w n1 e size (.slice a n c) n xs) (hn1 : w0.heap.size ≤ n1) (hn2 : n1 ≤ w.heap.size) (s : Src P size tx x m news w) (h1 : n + m ≤ maxLen) (h2 : (n + m) * bytes ≤ 140737488355328)
    (hg : ∀ g ∈ gs, (Value.slice a n c).ownBlock ≠ some g)
    (k : ∀ a' c' w1, Own w1 n1 e size (.slice a' (n + m) c') (n + m) (xs ++ news) → w.grownBy w1 (Value.slice a n c).ownBlock → Bs w0 w1 → w.heap.size ≤ w1.heap.size → K m a' c' w1) :
    appO P gs w e size bytes tx a n c x K := by
  refine ⟨m, xs, news, o.base_le fun _ _ => Nat.zero_le _, s, h1, h2, hg, fun a' c' w1 o1 g1 or1 _ => k a' c' w1 (o1.base_le fun q hq => ?_) g1 ?_ g1.size⟩
  · rcases or1 with h | ⟨g, h, h3⟩
    · exact (o.lt q (h ▸ hq)).1
    · rw [h] at hq; injection hq with hq; omega
  · exact ⟨g1.os.trans B.os, g1.tape.trans B.tape, g1.output.trans B.output, Nat.le_trans B.size g1.size, fun q hq => (g1.block q (by have := B.size; omega) fun e => by have := (o.lt q e.symm).1; omega).trans (B.block q hq)⟩
end Go.Proofs.Ytpfmadinijofeaa
end
section
/- More steps of functions seen from the world that they began in: blocks that are written over. No program in sight. -/
namespace Go.Proofs.Ytpfmadinijofeaa
open Go.RowKit
/-- Cells of a block that are written over. -/
theorem stO_part {w : World} {g off : Nat} {t : TypeId} {cs : Array Value} {vs : List Value} {gs : List Nat} {K : World → Prop} (h : Bk w g cs t) (hl : off + vs.length ≤ cs.size) (hg : ∀ x ∈ gs, x ≠ g)
    (k : ∀ w1, Bk w1 g (setL cs.toList off vs).toArray t → Fr [g] w w1 → w1.heap.size = w.heap.size → K w1) : stO gs w g off vs K := by
  have key : ∀ (vs : List Value) (w : World) (cs : Array Value) (off : Nat), Bk w g cs t → off + vs.length ≤ cs.size → Bk (w.setCells g off vs) g (setL cs.toList off vs).toArray t ∧ Fr [g] w (w.setCells g off vs) ∧ (w.setCells g off vs).heap.size = w.heap.size := by
    intro vs
    induction vs with
    | nil => intro w cs off h _; exact ⟨by simpa [World.setCells, setL] using h, Fr.refl _ _, rfl⟩
    | cons v r ih =>
      intro w cs off h hl
      rw [List.length_cons] at hl
      obtain ⟨k1, k2, k3⟩ := ih (w.setCell ⟨g, off, none⟩ v) (cs.setIfInBounds off v) (off + 1) (h.setCell off v) (by simp; omega)
      refine ⟨?_, ((Fr.refl [g] w).setCell (p := ⟨g, off, none⟩) (.inl (by simp)) v).trans k2 (Gr.refl _ _), by rw [show w.setCells g off (v :: r) = (w.setCell ⟨g, off, none⟩ v).setCells g (off + 1) r from rfl, k3]; simp [World.setCell]⟩
      rw [Array.toList_setIfInBounds] at k1
      exact k1
  obtain ⟨k1, k2, k3⟩ := key vs w cs off h hl
  exact ⟨hg, h.there hl, fun w1 e => by subst e; exact k _ k1 k2 k3⟩
theorem setL_whole {vs xs : List Value} (h : vs.length = xs.length) : setL xs 0 vs = vs := by
  apply List.ext_getElem?
  intro i
  rw [setL_get vs xs 0 i (by omega)]
  by_cases hi : i < vs.length
  · rw [if_pos ⟨Nat.zero_le _, by omega⟩]; rfl
  · rw [if_neg (by omega), List.getElem?_eq_none (by omega), List.getElem?_eq_none (by omega)]
theorem Bs.fr {w0 w w1 : World} {L : List Nat} (B : Bs w0 w) (h : Fr L w w1) (hL : ∀ k ∈ L, w0.heap.size ≤ k) : Bs w0 w1 := Below.trans B (h.below hL B.size)
theorem Bs.fr1 {w0 w w1 : World} {g : Nat} (B : Bs w0 w) (h : Fr [g] w w1) (hg : w0.heap.size ≤ g) : Bs w0 w1 := B.fr h fun k hk => by rw [List.mem_singleton] at hk; omega
/-- A block of one's own is written over, wholly. -/
theorem stB {w0 w : World} {g : Nat} {t : TypeId} {cs : Array Value} {vs : List Value} {gs : List Nat} {K : World → Prop} (B : Bs w0 w) (hg0 : w0.heap.size ≤ g) (h : Bk w g cs t) (hl : vs.length = cs.size) (hg : ∀ x ∈ gs, x ≠ g)
    (k : ∀ w1, Bk w1 g vs.toArray t → Fr [g] w w1 → Bs w0 w1 → w1.heap.size = w.heap.size → K w1) : stO gs w g 0 vs K :=
  stO_part h (by omega) hg fun w1 h1 f1 z1 => k w1 (by rw [setL_whole (by simpa using hl)] at h1; exact h1) f1 (B.fr1 f1 hg0) z1
/-- One cell of it. -/
theorem stB1 {w0 w : World} {g i : Nat} {t : TypeId} {cs : Array Value} {v : Value} {gs : List Nat} {K : World → Prop} (B : Bs w0 w) (hg0 : w0.heap.size ≤ g) (h : Bk w g cs t) (hi : i < cs.size) (hg : ∀ x ∈ gs, x ≠ g)
    (k : ∀ w1, Bk w1 g (cs.setIfInBounds i v) t → Fr [g] w w1 → Bs w0 w1 → w1.heap.size = w.heap.size → K w1) : stO gs w g i [v] K :=
  stO_bk h hi hg fun w1 h1 f1 z1 => k w1 h1 f1 (B.fr1 f1 hg0) z1
theorem Bk.below {w w1 : World} {g : Nat} {cs : Array Value} {t : TypeId} (h : Bk w g cs t) (hb : Below w.heap.size w w1) : Bk w1 g cs t := h.keep (hb.block g h.lt)
theorem Bk.box {w w1 : World} {g k : Nat} {cs : Array Value} {t : TypeId} (h : Bk w g cs t) (hb : BoxSt k w w1) (hk : g ≠ k) : Bk w1 g cs t := h.keep (hb.1.block g h.lt (by rw [List.mem_singleton]; exact hk))
theorem Bk.fr {w w1 : World} {g : Nat} {L : List Nat} {cs : Array Value} {t : TypeId} (h : Bk w g cs t) (hb : Fr L w w1) (hk : g ∉ L) : Bk w1 g cs t := h.keep (hb.block g h.lt hk)
theorem Bk.fr1 {w w1 : World} {g k : Nat} {cs : Array Value} {t : TypeId} (h : Bk w g cs t) (hb : Fr [k] w w1) (hk : g ≠ k) : Bk w1 g cs t := h.fr hb (by rw [List.mem_singleton]; exact hk)
end Go.Proofs.Ytpfmadinijofeaa
end
section
/- Arrays of structs in a block, told by a function of the place. No program in sight. -/
namespace Go.Proofs.Ytpfmadinijofeaa
open Go.RowKit
def fArr (n : Nat) (f : Nat → Value) : Array Value := ((List.range n).map f).toArray
theorem fArr_size (n : Nat) (f : Nat → Value) : (fArr n f).size = n := by simp [fArr]
theorem fArr_get {n j : Nat} (f : Nat → Value) (h : j < n) : (fArr n f)[j]? = some (f j) := by simp [fArr, h]
theorem fArr_congr {n : Nat} {f f' : Nat → Value} (h : ∀ j, j < n → f j = f' j) : fArr n f = fArr n f' := by
  unfold fArr
  congr 1
  exact List.map_congr_left fun j hj => h j (List.mem_range.1 hj)
theorem fArr_of {n : Nat} {f : Nat → Value} {cs : Array Value} (hs : cs.size = n) (h : ∀ j, j < n → cs[j]? = some (f j)) : cs = fArr n f := by
  apply Array.ext_getElem?
  intro j
  by_cases hj : j < n
  · rw [h j hj, fArr_get f hj]
  · rw [Array.getElem?_eq_none (by omega), Array.getElem?_eq_none (by rw [fArr_size]; omega)]
/-- n structs of k cells each, one behind the other. -/
def sArr (n k : Nat) (enc : Nat → List Value) : Array Value := fArr (n * k) fun j => (enc (j / k)).getD (j % k) (.bool false)
section
variable {n k : Nat} {enc enc' : Nat → List Value}
theorem sArr_size (n k : Nat) (enc : Nat → List Value) : (sArr n k enc).size = n * k := fArr_size _ _
theorem div_lt_of {j n k : Nat} (h : j < n * k) : j / k < n ∧ j % k < k ∧ 0 < k := by
  have hk : 0 < k := by
    rcases Nat.eq_zero_or_pos k with rfl | h'
    · simp at h
    · exact h'
  exact ⟨(Nat.div_lt_iff_lt_mul hk).2 h, Nat.mod_lt _ hk, hk⟩
theorem place_div {i c k : Nat} (hc : c < k) : (i * k + c) / k = i ∧ (i * k + c) % k = c := by
  have hk : 0 < k := by omega
  refine ⟨?_, ?_⟩
  · rw [Nat.mul_comm, Nat.mul_add_div hk, Nat.div_eq_of_lt hc, Nat.add_zero]
  · rw [Nat.mul_comm, Nat.mul_add_mod, Nat.mod_eq_of_lt hc]
theorem place_lt {i c n k : Nat} (hi : i < n) (hc : c < k) : i * k + c < n * k := by
  have : (i + 1) * k ≤ n * k := Nat.mul_le_mul_right k hi
  rw [Nat.add_mul, Nat.one_mul] at this
  omega
theorem sArr_get {i c : Nat} {v : Value} (hi : i < n) (hc : c < k) (hv : (enc i)[c]? = some v) : (sArr n k enc)[i * k + c]? = some v := by
  unfold sArr
  rw [fArr_get _ (place_lt hi hc), (place_div hc).1, (place_div hc).2, List.getD_eq_getElem?_getD, hv]
  rfl
theorem sArr_congr (h : ∀ i, i < n → enc i = enc' i) : sArr n k enc = sArr n k enc' := fArr_congr fun j hj => by rw [h _ (div_lt_of hj).1]
theorem sArr_of {cs : Array Value} (hk : ∀ i, i < n → (enc i).length = k) (hs : cs.size = n * k) (h : ∀ i c, i < n → c < k → cs[i * k + c]? = (enc i)[c]?) : cs = sArr n k enc := by
  refine fArr_of hs fun j hj => ?_
  obtain ⟨h1, h2, h3⟩ := div_lt_of hj
  have hjk : j / k * k + j % k = j := by rw [Nat.mul_comm]; exact Nat.div_add_mod j k
  have := h (j / k) (j % k) h1 h2
  rw [hjk] at this
  have hl : j % k < (enc (j / k)).length := by rw [hk _ h1]; exact h2
  rw [this, List.getD_eq_getElem?_getD, List.getElem?_eq_getElem hl]
  rfl
theorem sArr_cells {w : World} {g : Nat} {t : TypeId} (h : Bk w g (sArr n k enc) t) {i : Nat} (hi : i < n) (hk : (enc i).length = k) : cellsAt w g (i * k) (enc i) := cellsAt_of fun c v hv => by
  have hc : c < k := by rw [← hk]; exact (List.getElem?_eq_some_iff.1 hv).1
  rw [h.cell]; exact sArr_get hi hc hv
theorem sArr_cell {w : World} {g : Nat} {t : TypeId} (h : Bk w g (sArr n k enc) t) {i c : Nat} {v : Value} (hi : i < n) (hc : c < k) (hv : (enc i)[c]? = some v) : w.cell? ⟨g, i * k + c, none⟩ = some v := by
  rw [h.cell]; exact sArr_get hi hc hv
/-- One struct is written over. -/
theorem sArr_setL {i : Nat} {vs : List Value} (hi : i < n) (hv : vs.length = k) (hk : ∀ i, i < n → (enc i).length = k) : (setL (sArr n k enc).toList (i * k) vs).toArray = sArr n k (fun j => if j = i then vs else enc j) := by
  refine sArr_of (fun j hj => ?_) (by simp [setL_len, sArr_size]) fun j c hj hc => ?_
  · split
    · exact hv
    · exact hk j hj
  · have hle : i * k + vs.length ≤ (sArr n k enc).toList.length := by
      simp [sArr_size, hv]
      have : (i + 1) * k ≤ n * k := Nat.mul_le_mul_right k hi
      rw [Nat.add_mul, Nat.one_mul] at this
      omega
    rw [List.getElem?_toArray, setL_get _ _ _ _ hle]
    by_cases he : j = i
    · subst he
      rw [if_pos ⟨by omega, by omega⟩, if_pos rfl, show j * k + c - j * k = c by omega]
    · have hne : ¬ (i * k ≤ j * k + c ∧ j * k + c < i * k + vs.length) := by
        rintro ⟨h1, h2⟩
        rw [hv] at h2
        have h3 := (place_div (i := j) hc).1
        have h4 := (place_div (i := i) (c := j * k + c - i * k) (k := k) (by omega)).1
        rw [show i * k + (j * k + c - i * k) = j * k + c by omega, h3] at h4
        exact he h4
      have hl : c < (enc j).length := by rw [hk j hj]; exact hc
      rw [if_neg he, if_neg hne, Array.getElem?_toList, sArr_get hj hc (List.getElem?_eq_getElem hl), List.getElem?_eq_getElem hl]
/-- One cell of one struct is written over. -/
theorem sArr_set {i c : Nat} {v : Value} (hi : i < n) (hc : c < k) (hk : ∀ i, i < n → (enc i).length = k) : (sArr n k enc).setIfInBounds (i * k + c) v = sArr n k (fun j => if j = i then (enc j).set c v else enc j) := by
  refine sArr_of (fun j hj => ?_) (by simp [sArr_size]) fun j d hj hd => ?_
  · split
    · rw [List.length_set]; exact hk j hj
    · exact hk j hj
  · have hl : d < (enc j).length := by rw [hk j hj]; exact hd
    have hg := sArr_get hj hd (List.getElem?_eq_getElem hl)
    by_cases he : i * k + c = j * k + d
    · have h1 := place_div (i := i) hc
      have h2 := place_div (i := j) hd
      rw [he] at h1
      obtain rfl : j = i := h2.1.symm.trans h1.1
      obtain rfl : d = c := h2.2.symm.trans h1.2
      rw [if_pos rfl, Array.getElem?_setIfInBounds_self_of_lt (by rw [sArr_size]; exact place_lt hi hc), List.getElem?_set_self hl]
    · rw [Array.getElem?_setIfInBounds_ne he, hg]
      by_cases hji : j = i
      · subst hji
        rw [if_pos rfl, List.getElem?_set_ne (by omega), List.getElem?_eq_getElem hl]
      · rw [if_neg hji, List.getElem?_eq_getElem hl]
end
end Go.Proofs.Ytpfmadinijofeaa
end
section
/- 'slices.Sorted(maps.Keys(m))' of a map with int keys, out of the library's contracts. No program in sight. -/
namespace Go.Proofs.Ytpfmadinijofeaa
open Go.RowKit Go.Maps Go.Sort Go.Shelf Go.MapKept
variable {P : Program}
abbrev R0 : Value → Option (DataW Unit × List MemPlace) := fun _ => some (.nil, [])
def litOf (p : Int × Value) : Lit × DataW Unit := (.int .i64 p.1, .nil)
theorem in64_wf {x : Int} (h : -9223372036854775808 ≤ x ∧ x ≤ 9223372036854775807) : (Lit.int .i64 x).wf = true := by
  have h1 : IntKind.i64.min = -9223372036854775808 := by decide
  have h2 : IntKind.i64.max = 9223372036854775807 := by decide
  simp [Lit.wf, h1, h2]
  omega
theorem MapAt.owns {k : TypeId} (hk : P.underlying k = some (.int .i64)) {w : World} {b : Nat} {m : List (Int × Value)} (h : MapAt w b m) (hr : ∀ p ∈ m, -9223372036854775808 ≤ p.1 ∧ p.1 ≤ 9223372036854775807) (hl : m.length ≤ maxLen) :
    w.ownsMap P k R0 b m.length (.map ((m.map litOf).foldr DataW.insert [])) := by
  obtain ⟨es, clock, hb, hs, hm⟩ := h
  have hlen : es.size = m.length := by have := congrArg List.length hm; simpa using this
  have hrd : ∀ x ∈ es.toList, ∃ p ∈ m, x.key = .int .i64 p.1 ∧ WideElems.rd P k R0 x = some (litOf p) := by
    intro x hx
    have : (x.key, x.val) ∈ m.map kvOf := hm ▸ List.mem_map.2 ⟨x, hx, rfl⟩
    obtain ⟨p, hp, hpe⟩ := List.mem_map.1 this
    have hkey : x.key = .int .i64 p.1 := (congrArg Prod.fst hpe).symm
    refine ⟨p, hp, hkey, ?_⟩
    have := keyOf_int_mk hk (in64_wf (hr p hp))
    unfold WideElems.rd
    rw [hkey, this]
    rfl
  refine ⟨es, clock, hb, ⟨by omega, hs, fun x hx => ?_⟩, by omega, ?_⟩
  · obtain ⟨p, _, _, h⟩ := hrd x hx
    exact ⟨_, h⟩
  · have : es.toList.map (WideElems.rg P k R0) = m.map litOf := by
      have key : ∀ (l : List MapEntry) (m : List (Int × Value)), l.map (fun e => (e.key, e.val)) = m.map kvOf → (∀ x ∈ l, ∃ p : Int × Value, x.key = .int .i64 p.1 ∧ WideElems.rd P k R0 x = some (litOf p)) → l.map (WideElems.rg P k R0) = m.map litOf := by
        intro l
        induction l with
        | nil => intro m h _; cases m with | nil => rfl | cons _ _ => cases h
        | cons x l ih =>
          intro m h hx
          cases m with
          | nil => cases h
          | cons q m =>
            injection h with h1 h2
            obtain ⟨p, e1, e2⟩ := hx x (List.mem_cons_self ..)
            have e3 : x.key = .int .i64 q.1 := congrArg Prod.fst h1
            have e4 : p.1 = q.1 := kv_inj (e1.symm.trans e3)
            rw [List.map_cons, List.map_cons, ih m h2 fun y hy => hx y (List.mem_cons_of_mem _ hy)]
            congr 1
            unfold WideElems.rg
            rw [e2]
            show litOf p = litOf q
            unfold litOf
            rw [e4]
      exact key _ _ hm fun x hx => by obtain ⟨p, _, h1, h2⟩ := hrd x hx; exact ⟨p, h1, h2⟩
    rw [this]
theorem intKeys_perm (m : List (Int × Value)) : (intKeys (.map ((m.map litOf).foldr DataW.insert []) : DataW Unit)).Perm (m.map (·.1)) := by
  show (((m.map litOf).foldr DataW.insert []).map fun p : Lit × DataW Unit => Go.intOf p.1).Perm _
  refine ((WideShapes.sorted_perm (m.map litOf)).map _).trans ?_
  rw [List.map_map]
  exact List.Perm.refl _
/-- The keys, sorted. -/
def sortK (m : List (Int × Value)) : List Int := (m.map (·.1)).mergeSort leI
theorem Own.ofRow {w : World} {base : Nat} {e : TypeId} {size : Nat} {v : Value} {n : Nat} {xs : List Value} (h : w.ownsRow base e size v n xs) : Own w base e size v n xs := by
  refine ⟨h.1, h.2.elim .inl fun ⟨g, cap, cur, h1, h2, h3, h4, h5, h6, h7⟩ => .inr ⟨g, 0, cap, cur, h1, h2, h3, h4, h5, by omega, by rw [List.drop_zero]; exact h7⟩⟩
section
variable {ρK ρS ρQ : Ren}
theorem sortK_calls (LK : SlLaysZI.n10 P ρK) (LS : SlLaysZI.n6 P ρS) (hk : P.underlying (ρK.t 26) = some (.int .i64)) (hsort : AnyZI.SortsIn P ρS Fence.wide 4)
    (e9 : ∀ args w, (callFunc (ρS.f 9) args).run P w = .ok (.enter (ρS.f 9) args) w) (eg : ∀ args w, (callFunc (ρK.f 10) args).run P w = .ok (.enter (ρK.f 10) args) w)
    (w : World) (Bm b : Nat) (m : List (Int × Value)) (hBm : Bm < w.heap.size) (hc : w.cell? ⟨Bm, 0, none⟩ = some (.map (some b))) (h : MapAt w b m)
    (hr : ∀ p ∈ m, -9223372036854775808 ≤ p.1 ∧ p.1 ≤ 9223372036854775807) (hl : m.length ≤ 1000000) :
    Calls P (ρS.f 6) #[.func (.func (ρK.f 10)) #[] #[.pointer (some ⟨Bm, 0, none⟩)]] w fun e w' => ∃ a c, e = .returned (.slice a (sortK m).length c) ∧
      Own w' w.heap.size (ρS.t 26) 1 (.slice a (sortK m).length c) (sortK m).length ((sortK m).map (Value.int .i64)) ∧ (a = none ↔ sortK m = []) ∧ Below w.heap.size w w' := by
  have hlm : m.length ≤ maxLen := by unfold maxLen; omega
  have hown := h.owns hk hr hlm
  have hsz : Maps.size (.map ((m.map litOf).foldr DataW.insert []) : DataW Unit) = m.length := by
    show ((m.map litOf).foldr DataW.insert []).length = _
    rw [length_sorted]; simp
  have hseq : SeqGives Fence.wide 2 P (ρK.f 10) #[.pointer (some ⟨Bm, 0, none⟩)] encZ (fun ss => ss.Perm (intKeys (.map ((m.map litOf).foldr DataW.insert []) : DataW Unit))) m.length w := by
    have := AnyZI.keys_gives (ρ := ρK) LK Fence.wide 2 trivial rfl (by omega) Bm b m.length (.map ((m.map litOf).foldr DataW.insert []) : DataW Unit) w hBm hc hown
    rw [hsz] at this
    exact this
  have cS := AnyZI.sorted_in LS Fence.wide 5 trivial trivial trivial trivial rfl (by omega) (by exact hsort) e9 (ρK.f 10) #[.pointer (some ⟨Bm, 0, none⟩)] trivial eg _ m.length hlm (by omega) w hseq
  refine ((callsIn_wide (n := 5)).1 cS).mono ?_
  rintro e w' ⟨v, ss, rfl, hS, hrow, hnil, hb⟩
  have hp : ss.Perm (m.map (·.1)) := hS.trans (intKeys_perm m)
  have hms : ss.mergeSort (fun x y => decide (x ≤ y)) = sortK m := mergeSort_of_perm_i hp
  rw [hms] at hrow
  have hlen : ss.length = (sortK m).length := by rw [← hms]; exact (List.mergeSort_perm ss _).length_eq.symm
  rw [hlen] at hrow
  have ho := Own.ofRow hrow
  obtain ⟨a, c, rfl⟩ := ho.isSlice
  refine ⟨a, c, rfl, ho, ?_, hb⟩
  have hss : ss = [] ↔ sortK m = [] := by
    rw [← List.length_eq_zero_iff, ← List.length_eq_zero_iff, hlen]
  rw [← hss, ← hnil]
  constructor
  · rintro rfl
    rcases ho.2 with ⟨h1, h2⟩ | ⟨g, off, cap, cur, h1, _⟩
    · rw [h1]
    · cases h1
  · intro e; injection e
end
end Go.Proofs.Ytpfmadinijofeaa
end
