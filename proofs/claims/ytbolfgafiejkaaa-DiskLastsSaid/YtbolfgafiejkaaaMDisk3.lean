import Derived.Test.YtbolfgafiejkaaaProg
import Derived.Test.YtbolfgafiejkaaaMDisk2
import Derived.Test.YtbolfgafiejkaaaMDisk1
import Derived.ProofKit
import Derived.Deep.Matrix
import Derived.Deep.Slices
import Derived.OpenShut
import Derived.Shelf.SlIterI.Nil
import Derived.Shelf.SortM.Plain
import Derived.Shelf.SortM.SortNone
import Derived.Ground.GgzProg
import Derived.Ground.SlgmProg
import Derived.WideShapes
import Derived.RangeFuncBox
import Derived.RangeFuncLeaves
import Derived.Shelf.Abstract
import Derived.WalkKit
import Derived.OwnWalkIn
import Derived.TacticsInMore
import Derived.LoopNIn
import Derived.LoopIn
import Derived.RegionIn
import Derived.Maps.AppendAt
set_option linter.unusedVariables false
section
/- Conditions of functions, printed by a program of this claim's own (vcgen.py) out of the loaded code; each is proved to be enough. -/
set_option maxRecDepth 100000
namespace Go.Proofs.Ytbolfgafiejkaaa
open Go.RowKit
namespace GDkR
def env : Env := ⟨[(3, ⟨.int .i64, 1, .int .i64 0, 8, [.int .i64]⟩), (4, ⟨.bool, 1, .bool false, 1, [.bool]⟩), (5, ⟨.int .u8, 1, .int .u8 0, 1, [.int .u8]⟩), (9, ⟨.str, 1, .string ByteArray.empty, 16, [.str]⟩), (22, ⟨.slice 33, 1, .slice none 0 0, 24, [.slice]⟩), (23, ⟨.int .u64, 1, .int .u64 0, 8, [.int .u64]⟩), (24, ⟨.ptr, 1, .pointer none, 8, [.ptr]⟩), (31, ⟨.slice 4, 1, .slice none 0 0, 24, [.slice]⟩), (33, ⟨.struct [(0, 3), (1, 3), (2, 3), (3, 5), (4, 4), (5, 31)], 6, .agg #[.int .i64 0, .int .i64 0, .int .i64 0, .int .u8 0, .bool false, .slice none 0 0], 56, [.int .i64, .int .i64, .int .i64, .int .u8, .bool, .slice]⟩), (34, ⟨.slice 5, 1, .slice none 0 0, 24, [.slice]⟩), (44, ⟨.slice 9, 1, .slice none 0 0, 24, [.slice]⟩), (46, ⟨.struct [(0, 44), (1, 44), (2, 31), (3, 3), (4, 4)], 5, .agg #[.slice none 0 0, .slice none 0 0, .slice none 0 0, .int .i64 0, .bool false], 88, [.slice, .slice, .slice, .int .i64, .bool]⟩), (49, ⟨.slice 3, 1, .slice none 0 0, 24, [.slice]⟩), (52, ⟨.arr 8 5, 8, .agg #[.int .u8 0, .int .u8 0, .int .u8 0, .int .u8 0, .int .u8 0, .int .u8 0, .int .u8 0, .int .u8 0], 8, [.int .u8, .int .u8, .int .u8, .int .u8, .int .u8, .int .u8, .int .u8, .int .u8]⟩), (53, ⟨.arr 8 4, 8, .agg #[.bool false, .bool false, .bool false, .bool false, .bool false, .bool false, .bool false, .bool false], 8, [.bool, .bool, .bool, .bool, .bool, .bool, .bool, .bool]⟩)], [(6, [.lf (.ptr), .lf (.int .i64)]), (7, [.lf (.ptr)]), (8, [.lf (.bool)]), (9, [.lf (.slice), .lf (.int .i64)]), (10, [.lf (.str), .lf (.int .i64)]), (11, [.lf (.slice)]), (12, [.lf (.int .i64)]), (13, [.lf (.int .i64)]), (14, [.lf (.int .i64)]), (15, [.lf (.int .i64)]), (16, []), (17, []), (18, []), (19, [.lf (.bool)]), (20, [.lf (.bool)]), (21, [.lf (.slice)]), (22, [.lf (.slice)]), (23, [.lf (.ptr)]), (24, [.lf (.int .i64)]), (26, [.lf (.bool)]), (30, [])], []⟩
theorem ty3 : TyOk Try.prog 3 ⟨.int .i64, 1, .int .i64 0, 8, [.int .i64]⟩ := tyok (by kernel_rfl) (by kernel_rfl)
theorem ty4 : TyOk Try.prog 4 ⟨.bool, 1, .bool false, 1, [.bool]⟩ := tyok (by kernel_rfl) (by kernel_rfl)
theorem ty5 : TyOk Try.prog 5 ⟨.int .u8, 1, .int .u8 0, 1, [.int .u8]⟩ := tyok (by kernel_rfl) (by kernel_rfl)
theorem ty9 : TyOk Try.prog 9 ⟨.str, 1, .string ByteArray.empty, 16, [.str]⟩ := tyok (by kernel_rfl) (by kernel_rfl)
theorem ty22 : TyOk Try.prog 22 ⟨.slice 33, 1, .slice none 0 0, 24, [.slice]⟩ := tyok (by kernel_rfl) (by kernel_rfl)
theorem ty23 : TyOk Try.prog 23 ⟨.int .u64, 1, .int .u64 0, 8, [.int .u64]⟩ := tyok (by kernel_rfl) (by kernel_rfl)
theorem ty24 : TyOk Try.prog 24 ⟨.ptr, 1, .pointer none, 8, [.ptr]⟩ := tyok (by kernel_rfl) (by kernel_rfl)
theorem ty31 : TyOk Try.prog 31 ⟨.slice 4, 1, .slice none 0 0, 24, [.slice]⟩ := tyok (by kernel_rfl) (by kernel_rfl)
theorem ty33 : TyOk Try.prog 33 ⟨.struct [(0, 3), (1, 3), (2, 3), (3, 5), (4, 4), (5, 31)], 6, .agg #[.int .i64 0, .int .i64 0, .int .i64 0, .int .u8 0, .bool false, .slice none 0 0], 56, [.int .i64, .int .i64, .int .i64, .int .u8, .bool, .slice]⟩ := tyok (by kernel_rfl) (by kernel_rfl)
theorem ty34 : TyOk Try.prog 34 ⟨.slice 5, 1, .slice none 0 0, 24, [.slice]⟩ := tyok (by kernel_rfl) (by kernel_rfl)
theorem ty44 : TyOk Try.prog 44 ⟨.slice 9, 1, .slice none 0 0, 24, [.slice]⟩ := tyok (by kernel_rfl) (by kernel_rfl)
theorem ty46 : TyOk Try.prog 46 ⟨.struct [(0, 44), (1, 44), (2, 31), (3, 3), (4, 4)], 5, .agg #[.slice none 0 0, .slice none 0 0, .slice none 0 0, .int .i64 0, .bool false], 88, [.slice, .slice, .slice, .int .i64, .bool]⟩ := tyok (by kernel_rfl) (by kernel_rfl)
theorem ty49 : TyOk Try.prog 49 ⟨.slice 3, 1, .slice none 0 0, 24, [.slice]⟩ := tyok (by kernel_rfl) (by kernel_rfl)
theorem ty52 : TyOk Try.prog 52 ⟨.arr 8 5, 8, .agg #[.int .u8 0, .int .u8 0, .int .u8 0, .int .u8 0, .int .u8 0, .int .u8 0, .int .u8 0, .int .u8 0], 8, [.int .u8, .int .u8, .int .u8, .int .u8, .int .u8, .int .u8, .int .u8, .int .u8]⟩ := tyok (by kernel_rfl) (by kernel_rfl)
theorem ty53 : TyOk Try.prog 53 ⟨.arr 8 4, 8, .agg #[.bool false, .bool false, .bool false, .bool false, .bool false, .bool false, .bool false, .bool false], 8, [.bool, .bool, .bool, .bool, .bool, .bool, .bool, .bool]⟩ := tyok (by kernel_rfl) (by kernel_rfl)
theorem fn6 : FnOk Try.prog 6 := fnok Try.func6 (by kernel_rfl) (by kernel_rfl)
theorem fn7 : FnOk Try.prog 7 := fnok Try.func7 (by kernel_rfl) (by kernel_rfl)
theorem fn8 : FnOk Try.prog 8 := fnok Try.func8 (by kernel_rfl) (by kernel_rfl)
theorem fn9 : FnOk Try.prog 9 := fnok Try.func9 (by kernel_rfl) (by kernel_rfl)
theorem fn10 : FnOk Try.prog 10 := fnok Try.func10 (by kernel_rfl) (by kernel_rfl)
theorem fn11 : FnOk Try.prog 11 := fnok Try.func11 (by kernel_rfl) (by kernel_rfl)
theorem fn12 : FnOk Try.prog 12 := fnok Try.func12 (by kernel_rfl) (by kernel_rfl)
theorem fn13 : FnOk Try.prog 13 := fnok Try.func13 (by kernel_rfl) (by kernel_rfl)
theorem fn14 : FnOk Try.prog 14 := fnok Try.func14 (by kernel_rfl) (by kernel_rfl)
theorem fn15 : FnOk Try.prog 15 := fnok Try.func15 (by kernel_rfl) (by kernel_rfl)
theorem fn16 : FnOk Try.prog 16 := fnok Try.func16 (by kernel_rfl) (by kernel_rfl)
theorem fn17 : FnOk Try.prog 17 := fnok Try.func17 (by kernel_rfl) (by kernel_rfl)
theorem fn18 : FnOk Try.prog 18 := fnok Try.func18 (by kernel_rfl) (by kernel_rfl)
theorem fn19 : FnOk Try.prog 19 := fnok Try.func19 (by kernel_rfl) (by kernel_rfl)
theorem fn20 : FnOk Try.prog 20 := fnok Try.func20 (by kernel_rfl) (by kernel_rfl)
theorem fn21 : FnOk Try.prog 21 := fnok Try.func21 (by kernel_rfl) (by kernel_rfl)
theorem fn22 : FnOk Try.prog 22 := fnok Try.func22 (by kernel_rfl) (by kernel_rfl)
theorem fn23 : FnOk Try.prog 23 := fnok Try.func23 (by kernel_rfl) (by kernel_rfl)
theorem fn24 : FnOk Try.prog 24 := fnok Try.func24 (by kernel_rfl) (by kernel_rfl)
theorem fn26 : FnOk Try.prog 26 := fnok Try.func26 (by kernel_rfl) (by kernel_rfl)
theorem fn30 : FnOk Try.prog 30 := fnok Try.func30 (by kernel_rfl) (by kernel_rfl)
theorem envOk : EOk Try.prog env := ⟨(by simp only [env, List.forall_mem_cons, List.not_mem_nil, false_implies, implies_true, and_true]; exact ⟨ty3, ty4, ty5, ty9, ty22, ty23, ty24, ty31, ty33, ty34, ty44, ty46, ty49, ty52, ty53⟩), (by simp only [env, List.forall_mem_cons, List.not_mem_nil, false_implies, implies_true, and_true]; exact ⟨fn6, fn7, fn8, fn9, fn10, fn11, fn12, fn13, fn14, fn15, fn16, fn17, fn18, fn19, fn20, fn21, fn22, fn23, fn24, fn26, fn30⟩), by kernel_rfl, (fun _ h => by cases h)⟩
/-- purser/purserref04.New -/
def rnew_vc (x0 : Int) (w : World) (K : Value → World → Prop) : Prop :=
  newO w (.cells #[.slice none 0 0, .slice none 0 0, .slice none 0 0, .int .i64 0, .bool false] 46) fun g w_2 =>
  ∃ (I : Int → World → Prop) (μ : Int → World → Nat),
  I 0 w_2 ∧
  ∀ (x4 : Int) (w_3 : World), I x4 w_3 →
  br (decide (x4 < x0)) (
    drewO w_3 fun w_4 =>
    ∃ (a16 : Option Addr) (n16 : Nat) (c16 : Nat), w_4.cell? ⟨g, 0, none⟩ = some (.slice a16 n16 c16) ∧
    (0 : Int) ≤ (64 : Int) ∧ (64 : Int) ≤ (64 : Int) ∧ ((1 : Nat) : Int) * (64 : Int) ≤ 281474976710656 ∧ (64 : Int) ≤ 9223372036854775807 ∧
    newO w_4 (.cells (madeCells (Value.cells (.int .u8 0)) ((64 : Int).toNat * 1)) 5) fun g_2 w_5 =>
    w_5.cell? ⟨g, 0, none⟩ = some (.slice a16 n16 c16) ∧
    ∃ bs18 : List UInt8, bs18.length = (64 : Int).toNat ∧ RowAt w_5 (some ⟨g_2, 0, none⟩) (bs18.map bV) ∧
    newO w_5 (.cells #[.string (strOf bs18)] 9) fun g_3 w_6 =>
    w_6.cell? ⟨g, 0, none⟩ = some (.slice a16 n16 c16) ∧
    appO Try.prog [] w_6 9 1 16 44 a16 n16 c16 (.slice (some ⟨g_3, 0, none⟩) 1 1) fun m20 a20 c20 w_7 =>
    stO [] w_7 g 0 [.slice a20 (n16 + m20) c20] fun w_8 =>
    drewO w_8 fun w_9 =>
    ∃ (a27 : Option Addr) (n27 : Nat) (c27 : Nat), w_9.cell? ⟨g, 1, none⟩ = some (.slice a27 n27 c27) ∧
    (0 : Int) ≤ (64 : Int) ∧ (64 : Int) ≤ (64 : Int) ∧ ((1 : Nat) : Int) * (64 : Int) ≤ 281474976710656 ∧ (64 : Int) ≤ 9223372036854775807 ∧
    newO w_9 (.cells (madeCells (Value.cells (.int .u8 0)) ((64 : Int).toNat * 1)) 5) fun g_4 w_10 =>
    w_10.cell? ⟨g, 1, none⟩ = some (.slice a27 n27 c27) ∧
    ∃ bs29 : List UInt8, bs29.length = (64 : Int).toNat ∧ RowAt w_10 (some ⟨g_4, 0, none⟩) (bs29.map bV) ∧
    newO w_10 (.cells #[.string (strOf bs29)] 9) fun g_5 w_11 =>
    w_11.cell? ⟨g, 1, none⟩ = some (.slice a27 n27 c27) ∧
    appO Try.prog [] w_11 9 1 16 44 a27 n27 c27 (.slice (some ⟨g_5, 0, none⟩) 1 1) fun m31 a31 c31 w_12 =>
    stO [] w_12 g 1 [.slice a31 (n27 + m31) c31] fun w_13 =>
    ∃ (a38 : Option Addr) (n38 : Nat) (c38 : Nat), w_13.cell? ⟨g, 2, none⟩ = some (.slice a38 n38 c38) ∧
    newO w_13 (.cells #[.bool false] 4) fun g_6 w_14 =>
    appO Try.prog [] w_14 4 1 1 31 a38 n38 c38 (.slice (some ⟨g_6, 0, none⟩) 1 1) fun m40 a40 c40 w_15 =>
    stO [] w_15 g 2 [.slice a40 (n38 + m40) c40] fun w_16 =>
    I (IntKind.i64.wrap (x4 + 1)) w_16 ∧ μ (IntKind.i64.wrap (x4 + 1)) w_16 < μ x4 w_3
  ) (
    K (.pointer (some ⟨g, 0, none⟩)) w_3
  )
def rnew_notes : Notes := ⟨[(5, ⟨[0, 0, 2, 6, 14, 0, 32, 96, 254, 511, 1023, 2047], [5, 7, 8, 11], [0, 1, 2, 3, 4, 6, 9, 10]⟩), (6, ⟨[0, 0, 2, 6, 14, 0, 32, 96, 254, 511, 1023, 2047], [5, 7, 8, 11], [0, 1, 2, 3, 4, 6, 9, 10]⟩)], [(3, ⟨[(4, .lf (.int .i64))], [], [7, 8, 9, 12, 13, 14, 15, 16, 17, 18, 19, 20, 21, 22, 23, 24, 25, 26, 27, 28, 29, 30, 31, 32, 33, 34, 35, 36, 37, 38, 39, 40, 41, 42, 10, 11, 4], []⟩)], []⟩
theorem rnew_calls (x0 : Int) (w : World) (K : Value → World → Prop) (h : rnew_vc x0 w K) : Calls Try.prog 7 #[.int .i64 x0] w fun e w' => ∃ v, e = .returned v ∧ K v w' :=
  calls_of_fvc envOk Try.func7 rnew_notes [] [.int .i64 x0] w K (use_vc h (by as_aux_lemma => kernel_rfl))
/-- (*purser/purserref04.Disk).there -/
def rthere_vc (p0 : Option Addr) (x1 : Int) (x2 : Int) (w : World) (K : Value → World → Prop) : Prop :=
  br (decide (x1 ≥ 0)) (
    br (decide (x2 ≥ 0)) (
      withP p0 fun g16 o16 =>
      ∃ (a18 : Option Addr) (n18 : Nat) (c18 : Nat), w.cell? ⟨g16, o16 + 1, none⟩ = some (.slice a18 n18 c18) ∧
      br (decide (x1 ≤ ((n18 : Nat) : Int))) (
        withP p0 fun g25 o25 =>
        ∃ (a27 : Option Addr) (n27 : Nat) (c27 : Nat), w.cell? ⟨g25, o25 + 1, none⟩ = some (.slice a27 n27 c27) ∧
        K (.bool (decide (x2 ≤ (IntKind.i64.wrap (((n27 : Nat) : Int) - x1))))) w
      ) (
        K (.bool false) w
      )
    ) (
      K (.bool false) w
    )
  ) (
    K (.bool false) w
  )
def rthere_notes : Notes := ⟨[], [], []⟩
theorem rthere_calls (p0 : Option Addr) (x1 : Int) (x2 : Int) (w : World) (K : Value → World → Prop) (h : rthere_vc p0 x1 x2 w K) : Calls Try.prog 26 #[.pointer p0, .int .i64 x1, .int .i64 x2] w fun e w' => ∃ v, e = .returned v ∧ K v w' :=
  calls_of_fvc envOk Try.func26 rthere_notes [] [.pointer p0, .int .i64 x1, .int .i64 x2] w K (use_vc h (by as_aux_lemma => kernel_rfl))
/-- (*purser/purserref04.Disk).DocRead -/
def rread_vc (p0 : Option Addr) (x1 : Int) (x2 : Int) (w : World) (K : Value → World → Prop) : Prop :=
  withP p0 fun g11 o11 =>
  ∃ (b13 : Bool), w.cell? ⟨g11, o11 + 4, none⟩ = some (.bool b13) ∧
  br b13 (
    K (.tuple #[.string (⟨#[]⟩), .int .i64 12]) w
  ) (
    Calls Try.prog 26 #[.pointer p0, .int .i64 x1, .int .i64 x2] w fun e w_2 => KeepG [] w w_2 ∧
    ∃ (b17 : Bool),
    e = .returned (.bool b17) ∧
    br (!b17) (
      K (.tuple #[.string (⟨#[]⟩), .int .i64 1]) w_2
    ) (
      ∃ (I : ByteArray → Int → World → Prop) (μ : ByteArray → Int → World → Nat),
      I (⟨#[]⟩) 0 w_2 ∧
      ∀ (s8 : ByteArray) (x9 : Int) (w_3 : World), I s8 x9 w_3 →
      br (decide (x9 < x2)) (
        withP p0 fun g26 o26 =>
        ∃ (a28 : Option Addr) (n28 : Nat) (c28 : Nat), w_3.cell? ⟨g26, o26 + 1, none⟩ = some (.slice a28 n28 c28) ∧
        withP a28 fun g32 o32 =>
        (0 : Int) ≤ IntKind.i64.wrap (x1 + x9) ∧ IntKind.i64.wrap (x1 + x9) < (((n28 : Nat) : Int) : Int) ∧
        ∃ (s33 : ByteArray), w_3.cell? ⟨g32, o32 + (IntKind.i64.wrap (x1 + x9)).toNat * 1, none⟩ = some (.string s33) ∧
        s8.size + s33.size ≤ 9223372036854775807 ∧
        I (s8 ++ s33) (IntKind.i64.wrap (x9 + 1)) w_3 ∧ μ (s8 ++ s33) (IntKind.i64.wrap (x9 + 1)) w_3 < μ s8 x9 w_3
      ) (
        K (.tuple #[.string s8, .int .i64 0]) w_3
      )
    )
  )
def rread_notes : Notes := ⟨[], [(7, ⟨[(8, .lf (.str)), (9, .lf (.int .i64))], [], [19, 20, 21, 24, 25, 26, 27, 28, 29, 30, 31, 32, 33, 34, 8, 22, 23, 9], []⟩)], []⟩
theorem rread_calls (p0 : Option Addr) (x1 : Int) (x2 : Int) (w : World) (K : Value → World → Prop) (h : rread_vc p0 x1 x2 w K) : Calls Try.prog 10 #[.pointer p0, .int .i64 x1, .int .i64 x2] w fun e w' => ∃ v, e = .returned v ∧ K v w' :=
  calls_of_fvc envOk Try.func10 rread_notes [] [.pointer p0, .int .i64 x1, .int .i64 x2] w K (use_vc h (by as_aux_lemma => kernel_rfl))
/-- (*purser/purserref04.Disk).DocWrite -/
def rwrite_vc (p0 : Option Addr) (x1 : Int) (s2 : ByteArray) (w : World) (K : Value → World → Prop) : Prop :=
  withP p0 fun g9 o9 =>
  ∃ (b11 : Bool), w.cell? ⟨g9, o9 + 4, none⟩ = some (.bool b11) ∧
  br b11 (
    K (.int .i64 12) w
  ) (
    (64 : Int) ≠ 0 ∧
    br (decide ((Int.tmod ((s2.size : Nat) : Int) 64) ≠ 0)) (
      K (.int .i64 1) w
    ) (
      (64 : Int) ≠ 0 ∧
      Calls Try.prog 26 #[.pointer p0, .int .i64 x1, .int .i64 (IntKind.i64.wrap (Int.tdiv ((s2.size : Nat) : Int) 64))] w fun e w_2 => KeepG [] w w_2 ∧
      ∃ (b22 : Bool),
      e = .returned (.bool b22) ∧
      br (!b22) (
        K (.int .i64 1) w_2
      ) (
        ∃ (I : Int → World → Prop) (μ : Int → World → Nat),
        I 0 w_2 ∧
        ∀ (x7 : Int) (w_3 : World), I x7 w_3 →
        (64 : Int) ≠ 0 ∧
        br (decide (x7 < (IntKind.i64.wrap (Int.tdiv ((s2.size : Nat) : Int) 64)))) (
          drewO w_3 fun w_4 =>
          withP p0 fun g33 o33 =>
          ∃ (a35 : Option Addr) (n35 : Nat) (c35 : Nat), w_4.cell? ⟨g33, o33 + 1, none⟩ = some (.slice a35 n35 c35) ∧
          withP p0 fun g40 o40 =>
          ∃ (a42 : Option Addr) (n42 : Nat) (c42 : Nat), w_4.cell? ⟨g40, o40 + 2, none⟩ = some (.slice a42 n42 c42) ∧
          (0 : Int) ≤ IntKind.i64.wrap (64 * x7) ∧ IntKind.i64.wrap (64 * x7) ≤ IntKind.i64.wrap ((IntKind.i64.wrap (64 * x7)) + 64) ∧ IntKind.i64.wrap ((IntKind.i64.wrap (64 * x7)) + 64) ≤ (((s2.size : Nat) : Int) : Int) ∧
          withP a35 fun g53 o53 =>
          (0 : Int) ≤ IntKind.i64.wrap (x1 + x7) ∧ IntKind.i64.wrap (x1 + x7) < (((n35 : Nat) : Int) : Int) ∧
          stO [] w_4 g53 (o53 + (IntKind.i64.wrap (x1 + x7)).toNat * 1) [.string (s2.extract ((IntKind.i64.wrap (64 * x7)).toNat) ((IntKind.i64.wrap ((IntKind.i64.wrap (64 * x7)) + 64)).toNat))] fun w_5 =>
          withP a42 fun g54 o54 =>
          (0 : Int) ≤ IntKind.i64.wrap (x1 + x7) ∧ IntKind.i64.wrap (x1 + x7) < (((n42 : Nat) : Int) : Int) ∧
          stO [] w_5 g54 (o54 + (IntKind.i64.wrap (x1 + x7)).toNat * 1) [.bool true] fun w_6 =>
          withP p0 fun g56 o56 =>
          ∃ (x58 : Int), w_6.cell? ⟨g56, o56 + 3, none⟩ = some (.int .i64 x58) ∧
          br (decide (x58 > 0)) (
            withP p0 fun g61 o61 =>
            ∃ (x63 : Int), w_6.cell? ⟨g61, o61 + 3, none⟩ = some (.int .i64 x63) ∧
            withP p0 fun g65 o65 =>
            stO [] w_6 g65 (o65 + 3) [.int .i64 (IntKind.i64.wrap (x63 - 1))] fun w_7 =>
            withP p0 fun g68 o68 =>
            ∃ (x70 : Int), w_7.cell? ⟨g68, o68 + 3, none⟩ = some (.int .i64 x70) ∧
            br (decide (x70 = 0)) (
              withP p0 fun g73 o73 =>
              stO [] w_7 g73 (o73 + 4) [.bool true] fun w_8 =>
              K (.int .i64 12) w_8
            ) (
              I (IntKind.i64.wrap (x7 + 1)) w_7 ∧ μ (IntKind.i64.wrap (x7 + 1)) w_7 < μ x7 w_3
            )
          ) (
            I (IntKind.i64.wrap (x7 + 1)) w_6 ∧ μ (IntKind.i64.wrap (x7 + 1)) w_6 < μ x7 w_3
          )
        ) (
          K (.int .i64 0) w_3
        )
      )
    )
  )
def rwrite_notes : Notes := ⟨[(8, ⟨[0, 1, 3, 7, 0, 0, 48, 0, 128, 384, 896, 0, 0, 6144, 0, 0, 32768, 0, 131072, 393216, 1032192, 2082815, 4179967, 8388607, 16777215], [22, 24], [0, 1, 2, 3, 4, 5, 6, 7, 8, 9, 10, 11, 12, 13, 14, 15, 16, 17, 18, 19, 20, 21, 23]⟩)], [(6, ⟨[(7, .lf (.int .i64))], [], [25, 26, 27, 28, 29, 32, 33, 34, 35, 36, 37, 38, 39, 40, 41, 42, 43, 44, 45, 46, 47, 48, 49, 50, 51, 52, 53, 54, 55, 56, 57, 58, 59, 60, 61, 62, 63, 64, 65, 66, 67, 68, 69, 70, 71, 72, 73, 74, 6, 30, 31, 7], []⟩)], []⟩
theorem rwrite_calls (p0 : Option Addr) (x1 : Int) (s2 : ByteArray) (w : World) (K : Value → World → Prop) (h : rwrite_vc p0 x1 s2 w K) : Calls Try.prog 13 #[.pointer p0, .int .i64 x1, .string s2] w fun e w' => ∃ v, e = .returned v ∧ K v w' :=
  calls_of_fvc envOk Try.func13 rwrite_notes [] [.pointer p0, .int .i64 x1, .string s2] w K (use_vc h (by as_aux_lemma => kernel_rfl))
/-- (*purser/purserref04.Disk).settle -/
def rsettle_k1 (I : Int → Int → World → Prop) (μ : Int → Int → World → Nat) (p0 : Option Addr) (x6 : Int) (x7 : Int) (w_2 : World) (x6_2 : Int) (w_6 : World) : Prop :=
  drewO w_6 fun w_7 =>
  withP p0 fun g53 o53 =>
  ∃ (a55 : Option Addr) (n55 : Nat) (c55 : Nat), w_7.cell? ⟨g53, o53 + 1, none⟩ = some (.slice a55 n55 c55) ∧
  withP p0 fun g58 o58 =>
  ∃ (a60 : Option Addr) (n60 : Nat) (c60 : Nat), w_7.cell? ⟨g58, o58 + 2, none⟩ = some (.slice a60 n60 c60) ∧
  withP p0 fun g63 o63 =>
  ∃ (a65 : Option Addr) (n65 : Nat) (c65 : Nat), w_7.cell? ⟨g63, o63, none⟩ = some (.slice a65 n65 c65) ∧
  withP a65 fun g67 o67 =>
  (0 : Int) ≤ x7 ∧ x7 < (((n65 : Nat) : Int) : Int) ∧
  ∃ (s68 : ByteArray), w_7.cell? ⟨g67, o67 + x7.toNat * 1, none⟩ = some (.string s68) ∧
  withP a55 fun g69 o69 =>
  (0 : Int) ≤ x7 ∧ x7 < (((n55 : Nat) : Int) : Int) ∧
  stO [] w_7 g69 (o69 + x7.toNat * 1) [.string s68] fun w_8 =>
  withP a60 fun g70 o70 =>
  (0 : Int) ≤ x7 ∧ x7 < (((n60 : Nat) : Int) : Int) ∧
  stO [] w_8 g70 (o70 + x7.toNat * 1) [.bool false] fun w_9 =>
  I x6_2 (IntKind.i64.wrap (x7 + 1)) w_9 ∧ μ x6_2 (IntKind.i64.wrap (x7 + 1)) w_9 < μ x6 x7 w_2
def rsettle_vc (p0 : Option Addr) (b1 : Bool) (a2 : Option Addr) (n2 : Nat) (c2 : Nat) (w : World) (K : Value → World → Prop) : Prop :=
  ∃ (I : Int → Int → World → Prop) (μ : Int → Int → World → Nat),
  I 0 0 w ∧
  ∀ (x6 : Int) (x7 : Int) (w_2 : World), I x6 x7 w_2 →
  withP p0 fun g10 o10 =>
  ∃ (a12 : Option Addr) (n12 : Nat) (c12 : Nat), w_2.cell? ⟨g10, o10 + 1, none⟩ = some (.slice a12 n12 c12) ∧
  br (decide (x7 < ((n12 : Nat) : Int))) (
    withP p0 fun g18 o18 =>
    ∃ (a20 : Option Addr) (n20 : Nat) (c20 : Nat), w_2.cell? ⟨g18, o18 + 2, none⟩ = some (.slice a20 n20 c20) ∧
    withP a20 fun g22 o22 =>
    (0 : Int) ≤ x7 ∧ x7 < (((n20 : Nat) : Int) : Int) ∧
    ∃ (b23 : Bool), w_2.cell? ⟨g22, o22 + x7.toNat * 1, none⟩ = some (.bool b23) ∧
    br b23 (
      br b1 (
        drewO w_2 fun w_3 =>
        withP p0 fun g38 o38 =>
        ∃ (a40 : Option Addr) (n40 : Nat) (c40 : Nat), w_3.cell? ⟨g38, o38, none⟩ = some (.slice a40 n40 c40) ∧
        withP p0 fun g43 o43 =>
        ∃ (a45 : Option Addr) (n45 : Nat) (c45 : Nat), w_3.cell? ⟨g43, o43 + 1, none⟩ = some (.slice a45 n45 c45) ∧
        withP a45 fun g47 o47 =>
        (0 : Int) ≤ x7 ∧ x7 < (((n45 : Nat) : Int) : Int) ∧
        ∃ (s48 : ByteArray), w_3.cell? ⟨g47, o47 + x7.toNat * 1, none⟩ = some (.string s48) ∧
        withP a40 fun g49 o49 =>
        (0 : Int) ≤ x7 ∧ x7 < (((n40 : Nat) : Int) : Int) ∧
        stO [] w_3 g49 (o49 + x7.toNat * 1) [.string s48] fun w_4 =>
        rsettle_k1 I μ p0 x6 x7 w_2 (IntKind.i64.wrap (x6 + 1)) w_4
      ) (
        br (decide (x6 < ((n2 : Nat) : Int))) (
          withP a2 fun g33 o33 =>
          (0 : Int) ≤ x6 ∧ x6 < (((n2 : Nat) : Int) : Int) ∧
          ∃ (b34 : Bool), w_2.cell? ⟨g33, o33 + x6.toNat * 1, none⟩ = some (.bool b34) ∧
          br b34 (
            drewO w_2 fun w_10 =>
            withP p0 fun g38_2 o38_2 =>
            ∃ (a40_2 : Option Addr) (n40_2 : Nat) (c40_2 : Nat), w_10.cell? ⟨g38_2, o38_2, none⟩ = some (.slice a40_2 n40_2 c40_2) ∧
            withP p0 fun g43_2 o43_2 =>
            ∃ (a45_2 : Option Addr) (n45_2 : Nat) (c45_2 : Nat), w_10.cell? ⟨g43_2, o43_2 + 1, none⟩ = some (.slice a45_2 n45_2 c45_2) ∧
            withP a45_2 fun g47_2 o47_2 =>
            (0 : Int) ≤ x7 ∧ x7 < (((n45_2 : Nat) : Int) : Int) ∧
            ∃ (s48_2 : ByteArray), w_10.cell? ⟨g47_2, o47_2 + x7.toNat * 1, none⟩ = some (.string s48_2) ∧
            withP a40_2 fun g49_2 o49_2 =>
            (0 : Int) ≤ x7 ∧ x7 < (((n40_2 : Nat) : Int) : Int) ∧
            stO [] w_10 g49_2 (o49_2 + x7.toNat * 1) [.string s48_2] fun w_11 =>
            rsettle_k1 I μ p0 x6 x7 w_2 (IntKind.i64.wrap (x6 + 1)) w_11
          ) (
            rsettle_k1 I μ p0 x6 x7 w_2 (IntKind.i64.wrap (x6 + 1)) w_2
          )
        ) (
          rsettle_k1 I μ p0 x6 x7 w_2 (IntKind.i64.wrap (x6 + 1)) w_2
        )
      )
    ) (
      rsettle_k1 I μ p0 x6 x7 w_2 x6 w_2
    )
  ) (
    K (.tuple #[]) w_2
  )
def rsettle_notes : Notes := ⟨[(6, ⟨[0, 1, 3, 7, 0, 0, 32, 96, 224, 0, 992, 2016, 4095, 8191], [13], [0, 1, 2, 3, 4, 5, 6, 7, 8, 9, 10, 11, 12]⟩), (8, ⟨[0, 1, 3, 7, 0, 0, 32, 96, 224, 0, 0, 1024, 3072, 7168, 0, 31744, 64512, 130559, 261631, 524287, 1048575], [18, 20], [0, 1, 2, 3, 4, 5, 6, 7, 8, 9, 10, 11, 12, 13, 14, 15, 16, 17, 19]⟩)], [(2, ⟨[(6, .lf (.int .i64)), (7, .lf (.int .i64))], [], [8, 9, 10, 11, 12, 13, 14, 17, 18, 19, 20, 21, 22, 23, 24, 25, 26, 27, 28, 29, 30, 31, 32, 33, 34, 35, 36, 37, 38, 39, 40, 41, 42, 43, 44, 45, 46, 47, 48, 49, 50, 51, 6, 52, 53, 54, 55, 56, 57, 58, 59, 60, 61, 62, 63, 64, 65, 66, 67, 68, 69, 70, 15, 16, 7], []⟩)], []⟩
theorem rsettle_calls (p0 : Option Addr) (b1 : Bool) (a2 : Option Addr) (n2 : Nat) (c2 : Nat) (w : World) (K : Value → World → Prop) (h : rsettle_vc p0 b1 a2 n2 c2 w K) : Calls Try.prog 30 #[.pointer p0, .bool b1, .slice a2 n2 c2] w fun e w' => ∃ v, e = .returned v ∧ K v w' :=
  calls_of_fvc envOk Try.func30 rsettle_notes [] [.pointer p0, .bool b1, .slice a2 n2 c2] w K (use_vc h (by as_aux_lemma => kernel_rfl))
/-- (*purser/purserref04.Disk).DocSync -/
def rsync_vc (p0 : Option Addr) (w : World) (K : Value → World → Prop) : Prop :=
  withP p0 fun g4 o4 =>
  ∃ (b6 : Bool), w.cell? ⟨g4, o4 + 4, none⟩ = some (.bool b6) ∧
  br b6 (
    K (.int .i64 12) w
  ) (
    Calls Try.prog 30 #[.pointer p0, .bool true, .slice none 0 0] w fun e w_2 => KeepG [] w w_2 ∧
    e = .returned (.tuple #[]) ∧
    K (.int .i64 0) w_2
  )
def rsync_notes : Notes := ⟨[], [], []⟩
theorem rsync_calls (p0 : Option Addr) (w : World) (K : Value → World → Prop) (h : rsync_vc p0 w K) : Calls Try.prog 15 #[.pointer p0] w fun e w' => ∃ v, e = .returned v ∧ K v w' :=
  calls_of_fvc envOk Try.func15 rsync_notes [] [.pointer p0] w K (use_vc h (by as_aux_lemma => kernel_rfl))
/-- (*purser/purserref04.Disk).DocCrash -/
def rcrash_vc (p0 : Option Addr) (a1 : Option Addr) (n1 : Nat) (c1 : Nat) (w : World) (K : Value → World → Prop) : Prop :=
  Calls Try.prog 30 #[.pointer p0, .bool false, .slice a1 n1 c1] w fun e w_2 => KeepG [] w w_2 ∧
  e = .returned (.tuple #[]) ∧
  withP p0 fun g9 o9 =>
  stO [] w_2 g9 (o9 + 4) [.bool false] fun w_3 =>
  withP p0 fun g11 o11 =>
  stO [] w_3 g11 (o11 + 3) [.int .i64 0] fun w_4 =>
  K (.tuple #[]) w_4
def rcrash_notes : Notes := ⟨[], [], []⟩
theorem rcrash_calls (p0 : Option Addr) (a1 : Option Addr) (n1 : Nat) (c1 : Nat) (w : World) (K : Value → World → Prop) (h : rcrash_vc p0 a1 n1 c1 w K) : Calls Try.prog 18 #[.pointer p0, .slice a1 n1 c1] w fun e w' => ∃ v, e = .returned v ∧ K v w' :=
  calls_of_fvc envOk Try.func18 rcrash_notes [] [.pointer p0, .slice a1 n1 c1] w K (use_vc h (by as_aux_lemma => kernel_rfl))
/-- (*purser/purserref04.Disk).List -/
def rlist_vc (p0 : Option Addr) (w : World) (K : Value → World → Prop) : Prop :=
  ∃ (I : Option Addr → Nat → Nat → Int → World → Prop) (μ : Option Addr → Nat → Nat → Int → World → Nat),
  I none 0 0 0 w ∧
  ∀ (a3 : Option Addr) (n3 : Nat) (c3 : Nat) (x4 : Int) (w_2 : World), I a3 n3 c3 x4 w_2 →
  withP p0 fun g7 o7 =>
  ∃ (a9 : Option Addr) (n9 : Nat) (c9 : Nat), w_2.cell? ⟨g7, o7 + 2, none⟩ = some (.slice a9 n9 c9) ∧
  br (decide (x4 < ((n9 : Nat) : Int))) (
    withP p0 fun g15 o15 =>
    ∃ (a17 : Option Addr) (n17 : Nat) (c17 : Nat), w_2.cell? ⟨g15, o15 + 2, none⟩ = some (.slice a17 n17 c17) ∧
    withP a17 fun g19 o19 =>
    (0 : Int) ≤ x4 ∧ x4 < (((n17 : Nat) : Int) : Int) ∧
    ∃ (b20 : Bool), w_2.cell? ⟨g19, o19 + x4.toNat * 1, none⟩ = some (.bool b20) ∧
    br b20 (
      newO w_2 (.cells #[.int .i64 x4] 3) fun g w_3 =>
      appO Try.prog [] w_3 3 1 8 49 a3 n3 c3 (.slice (some ⟨g, 0, none⟩) 1 1) fun m24 a24 c24 w_4 =>
      I a24 (n3 + m24) c24 (IntKind.i64.wrap (x4 + 1)) w_4 ∧ μ a24 (n3 + m24) c24 (IntKind.i64.wrap (x4 + 1)) w_4 < μ a3 n3 c3 x4 w_2
    ) (
      I a3 n3 c3 (IntKind.i64.wrap (x4 + 1)) w_2 ∧ μ a3 n3 c3 (IntKind.i64.wrap (x4 + 1)) w_2 < μ a3 n3 c3 x4 w_2
    )
  ) (
    K (.slice a3 n3 c3) w_2
  )
def rlist_notes : Notes := ⟨[], [(3, ⟨[(3, .lf (.slice)), (4, .lf (.int .i64))], [], [5, 6, 7, 8, 9, 10, 11, 14, 15, 16, 17, 18, 19, 20, 21, 22, 23, 24, 3, 12, 13, 4], []⟩)], []⟩
theorem rlist_calls (p0 : Option Addr) (w : World) (K : Value → World → Prop) (h : rlist_vc p0 w K) : Calls Try.prog 22 #[.pointer p0] w fun e w' => ∃ v, e = .returned v ∧ K v w' :=
  calls_of_fvc envOk Try.func22 rlist_notes [] [.pointer p0] w K (use_vc h (by as_aux_lemma => kernel_rfl))
/-- purser/purserlaw04.sector -/
def lsector_vc (x0 : Int) (w : World) (K : Value → World → Prop) : Prop :=
  (0 : Int) ≤ (64 : Int) ∧ (64 : Int) ≤ (64 : Int) ∧ ((1 : Nat) : Int) * (64 : Int) ≤ 281474976710656 ∧ (64 : Int) ≤ 9223372036854775807 ∧
  newO w (.cells (madeCells (Value.cells (.int .u8 0)) ((64 : Int).toNat * 1)) 5) fun g w_2 =>
  ∃ (I : Int → World → Prop) (μ : Int → World → Nat),
  I 0 w_2 ∧
  ∀ (x4 : Int) (w_3 : World), I x4 w_3 →
  br (decide (x4 < 64)) (
    (0 : Int) ≤ x4 ∧ x4 < ((((64 : Int).toNat : Nat) : Int) : Int) ∧
    stO [] w_3 g (0 + x4.toNat * 1) [.int .u8 x0] fun w_4 =>
    I (IntKind.i64.wrap (x4 + 1)) w_4 ∧ μ (IntKind.i64.wrap (x4 + 1)) w_4 < μ x4 w_3
  ) (
    K (.slice (some ⟨g, 0, none⟩) ((64 : Int).toNat) ((64 : Int).toNat)) w_3
  )
def lsector_notes : Notes := ⟨[], [(3, ⟨[(4, .lf (.int .i64))], [], [6, 7, 10, 11, 12, 13, 8, 9, 4], []⟩)], []⟩
theorem lsector_calls (x0 : Int) (w : World) (K : Value → World → Prop) (h : lsector_vc x0 w K) : Calls Try.prog 11 #[.int .u8 x0] w fun e w' => ∃ v, e = .returned v ∧ K v w' :=
  calls_of_fvc envOk Try.func11 lsector_notes [] [.int .u8 x0] w K (use_vc h (by as_aux_lemma => kernel_rfl))
/-- purser/purserlaw04.disks -/
def ldisks_vc  (w : World) (K : Value → World → Prop) : Prop :=
  Calls Try.prog 6 #[.int .i64 3] w fun e w_2 => KeepG [] w w_2 ∧
  ∃ (p8_0 : Option Addr) (x8_1 : Int),
  e = .returned (.tuple #[.pointer p8_0, .int .i64 x8_1]) ∧
  Calls Try.prog 16 #[.pointer p8_0, .int .i64 1] w_2 fun e_2 w_3 => KeepG [] w_2 w_3 ∧
  e_2 = .returned (.tuple #[]) ∧
  Calls Try.prog 11 #[.int .u8 1] w_3 fun e_3 w_4 => KeepG [] w_3 w_4 ∧
  ∃ (a14 : Option Addr) (n14 : Nat) (c14 : Nat),
  e_3 = .returned (.slice a14 n14 c14) ∧
  Calls Try.prog 11 #[.int .u8 2] w_4 fun e_4 w_5 => KeepG [] w_4 w_5 ∧
  ∃ (a15 : Option Addr) (n15 : Nat) (c15 : Nat),
  e_4 = .returned (.slice a15 n15 c15) ∧
  appO Try.prog [] w_5 5 1 1 34 a14 n14 c14 (.slice a15 n15 c15) fun m16 a16 c16 w_6 =>
  Calls Try.prog 12 #[.pointer p8_0, .int .i64 1, .slice a16 (n14 + m16) c16] w_6 fun e_5 w_7 => KeepG [] w_6 w_7 ∧
  ∃ (x17 : Int),
  e_5 = .returned (.int .i64 x17) ∧
  Calls Try.prog 19 #[.pointer p8_0] w_7 fun e_6 w_8 => KeepG [] w_7 w_8 ∧
  ∃ (b19 : Bool),
  e_6 = .returned (.bool b19) ∧
  newO w_8 (.cells #[.bool true] 4) fun g w_9 =>
  Calls Try.prog 17 #[.pointer p8_0, .slice (some ⟨g, 0, none⟩) 1 1] w_9 fun e_7 w_10 => KeepG [] w_9 w_10 ∧
  e_7 = .returned (.tuple #[]) ∧
  Calls Try.prog 9 #[.pointer p8_0, .int .i64 1, .int .i64 2] w_10 fun e_8 w_11 => KeepG [] w_10 w_11 ∧
  ∃ (a25_0 : Option Addr) (n25_0 : Nat) (c25_0 : Nat) (x25_1 : Int),
  e_8 = .returned (.tuple #[.slice a25_0 n25_0 c25_0, .int .i64 x25_1]) ∧
  br (decide (x8_1 = 0)) (
    br (decide (x17 = 12)) (
      br b19 (
        br (decide (x25_1 = 0)) (
          br (decide (((n25_0 : Nat) : Int) = 128)) (
            withP a25_0 fun g48 o48 =>
            (0 : Int) ≤ 0 ∧ 0 < (((n25_0 : Nat) : Int) : Int) ∧
            ∃ (x49 : Int), w_11.cell? ⟨g48, o48 + (0 : Int).toNat * 1, none⟩ = some (.int .u8 x49) ∧
            br (decide (x49 = 1)) (
              withP a25_0 fun g54 o54 =>
              (0 : Int) ≤ 64 ∧ 64 < (((n25_0 : Nat) : Int) : Int) ∧
              ∃ (x55 : Int), w_11.cell? ⟨g54, o54 + (64 : Int).toNat * 1, none⟩ = some (.int .u8 x55) ∧
              K (.bool (decide (x55 = 0))) w_11
            ) (
              K (.bool false) w_11
            )
          ) (
            K (.bool false) w_11
          )
        ) (
          K (.bool false) w_11
        )
      ) (
        K (.bool false) w_11
      )
    ) (
      K (.bool false) w_11
    )
  ) (
    K (.bool false) w_11
  )
def ldisks_notes : Notes := ⟨[], [], []⟩
theorem ldisks_calls  (w : World) (K : Value → World → Prop) (h : ldisks_vc  w K) : Calls Try.prog 8 #[] w fun e w' => ∃ v, e = .returned v ∧ K v w' :=
  calls_of_fvc envOk Try.func8 ldisks_notes [] [] w K (use_vc h (by as_aux_lemma => kernel_rfl))
/-- purser/purserlaw04.none -/
def lnone_vc  (w : World) (K : Value → World → Prop) : Prop :=
  K (.pointer none) w
def lnone_notes : Notes := ⟨[], [], []⟩
theorem lnone_calls  (w : World) (K : Value → World → Prop) (h : lnone_vc  w K) : Calls Try.prog 23 #[] w fun e w' => ∃ v, e = .returned v ∧ K v w' :=
  calls_of_fvc envOk Try.func23 lnone_notes [] [] w K (use_vc h (by as_aux_lemma => kernel_rfl))
/-- purser/purserlaw04.DiskNews -/
def lnews_k1 (K : Value → World → Prop) (x0_2 : Int) (w_2 : World) : Prop :=
  Calls Try.prog 23 #[] w_2 fun e w_3 => KeepG [] w_2 w_3 ∧
  ∃ (p17 : Option Addr),
  e = .returned (.pointer p17) ∧
  Calls Try.prog 16 #[.pointer p17, .int .i64 1] w_3 fun e_2 w_4 => KeepG [] w_3 w_4 ∧
  e_2 = .returned (.tuple #[]) ∧
  Calls Try.prog 23 #[] w_4 fun e_3 w_5 => KeepG [] w_4 w_5 ∧
  ∃ (p19 : Option Addr),
  e_3 = .returned (.pointer p19) ∧
  Calls Try.prog 17 #[.pointer p19, .slice none 0 0] w_5 fun e_4 w_6 => KeepG [] w_5 w_6 ∧
  e_4 = .returned (.tuple #[]) ∧
  Calls Try.prog 23 #[] w_6 fun e_5 w_7 => KeepG [] w_6 w_7 ∧
  ∃ (p22 : Option Addr),
  e_5 = .returned (.pointer p22) ∧
  Calls Try.prog 9 #[.pointer p22, .int .i64 0, .int .i64 1] w_7 fun e_6 w_8 => KeepG [] w_7 w_8 ∧
  ∃ (a23_0 : Option Addr) (n23_0 : Nat) (c23_0 : Nat) (x23_1 : Int),
  e_6 = .returned (.tuple #[.slice a23_0 n23_0 c23_0, .int .i64 x23_1]) ∧
  Calls Try.prog 8 #[] w_8 fun e_7 w_9 => KeepG [] w_8 w_9 ∧
  ∃ (b26 : Bool),
  e_7 = .returned (.bool b26) ∧
  br (!b26) (
    K (.bool false) w_9
  ) (
    br (decide (x23_1 ≠ 1)) (
      K (.bool false) w_9
    ) (
      Calls Try.prog 23 #[] w_9 fun e_8 w_10 => KeepG [] w_9 w_10 ∧
      ∃ (p33 : Option Addr),
      e_8 = .returned (.pointer p33) ∧
      Calls Try.prog 12 #[.pointer p33, .int .i64 0, .slice none 0 0] w_10 fun e_9 w_11 => KeepG [] w_10 w_11 ∧
      ∃ (x34 : Int),
      e_9 = .returned (.int .i64 x34) ∧
      br (decide (x34 ≠ 1)) (
        K (.bool false) w_11
      ) (
        Calls Try.prog 23 #[] w_11 fun e_10 w_12 => KeepG [] w_11 w_12 ∧
        ∃ (p38 : Option Addr),
        e_10 = .returned (.pointer p38) ∧
        Calls Try.prog 14 #[.pointer p38] w_12 fun e_11 w_13 => KeepG [] w_12 w_13 ∧
        ∃ (x39 : Int),
        e_11 = .returned (.int .i64 x39) ∧
        br (decide (x39 ≠ 1)) (
          K (.bool false) w_13
        ) (
          Calls Try.prog 23 #[] w_13 fun e_12 w_14 => KeepG [] w_13 w_14 ∧
          ∃ (p43 : Option Addr),
          e_12 = .returned (.pointer p43) ∧
          Calls Try.prog 24 #[.pointer p43] w_14 fun e_13 w_15 => KeepG [] w_14 w_15 ∧
          ∃ (x44 : Int),
          e_13 = .returned (.int .i64 x44) ∧
          br (decide (x44 ≠ 0)) (
            K (.bool false) w_15
          ) (
            Calls Try.prog 23 #[] w_15 fun e_14 w_16 => KeepG [] w_15 w_16 ∧
            ∃ (p48 : Option Addr),
            e_14 = .returned (.pointer p48) ∧
            Calls Try.prog 21 #[.pointer p48] w_16 fun e_15 w_17 => KeepG [] w_16 w_17 ∧
            ∃ (a49 : Option Addr) (n49 : Nat) (c49 : Nat),
            e_15 = .returned (.slice a49 n49 c49) ∧
            br (decide (((n49 : Nat) : Int) ≠ 0)) (
              K (.bool false) w_17
            ) (
              Calls Try.prog 23 #[] w_17 fun e_16 w_18 => KeepG [] w_17 w_18 ∧
              ∃ (p54 : Option Addr),
              e_16 = .returned (.pointer p54) ∧
              Calls Try.prog 19 #[.pointer p54] w_18 fun e_17 w_19 => KeepG [] w_18 w_19 ∧
              ∃ (b55 : Bool),
              e_17 = .returned (.bool b55) ∧
              br (!b55) (
                K (.bool false) w_19
              ) (
                Calls Try.prog 6 #[.int .i64 x0_2] w_19 fun e_18 w_20 => KeepG [] w_19 w_20 ∧
                ∃ (p60_0 : Option Addr) (x60_1 : Int),
                e_18 = .returned (.tuple #[.pointer p60_0, .int .i64 x60_1]) ∧
                br (decide (x0_2 < 1)) (
                  br (Option.isNone p60_0) (
                    K (.bool (decide (x60_1 = 1))) w_20
                  ) (
                    K (.bool false) w_20
                  )
                ) (
                  br (decide (x0_2 > 8192)) (
                    br (Option.isNone p60_0) (
                      K (.bool (decide (x60_1 = 1))) w_20
                    ) (
                      K (.bool false) w_20
                    )
                  ) (
                    Calls Try.prog 9 #[.pointer p60_0, .int .i64 (IntKind.i64.wrap (x0_2 - 1)), .int .i64 1] w_20 fun e_19 w_21 => KeepG [] w_20 w_21 ∧
                    ∃ (a79_0 : Option Addr) (n79_0 : Nat) (c79_0 : Nat) (x79_1 : Int),
                    e_19 = .returned (.tuple #[.slice a79_0 n79_0 c79_0, .int .i64 x79_1]) ∧
                    drewO w_21 fun w_22 =>
                    br (decide (x60_1 = 0)) (
                      Calls Try.prog 24 #[.pointer p60_0] w_22 fun e_20 w_23 => KeepG [] w_22 w_23 ∧
                      ∃ (x86 : Int),
                      e_20 = .returned (.int .i64 x86) ∧
                      br (decide (x86 = x0_2)) (
                        br (decide (x79_1 = 0)) (
                          ∃ bs96 : List UInt8, bs96.length = n79_0 ∧ RowAt w_23 a79_0 (bs96.map bV) ∧
                          (0 : Int) ≤ (64 : Int) ∧ (64 : Int) ≤ (64 : Int) ∧ ((1 : Nat) : Int) * (64 : Int) ≤ 281474976710656 ∧ (64 : Int) ≤ 9223372036854775807 ∧
                          newO w_23 (.cells (madeCells (Value.cells (.int .u8 0)) ((64 : Int).toNat * 1)) 5) fun g w_24 =>
                          RowAt w_24 a79_0 (bs96.map bV) ∧
                          ∃ bs98 : List UInt8, bs98.length = (64 : Int).toNat ∧ RowAt w_24 (some ⟨g, 0, none⟩) (bs98.map bV) ∧
                          br (decide ((strOf bs96) = (strOf bs98))) (
                            Calls Try.prog 19 #[.pointer p60_0] w_24 fun e_21 w_25 => KeepG [] w_24 w_25 ∧
                            ∃ (b103 : Bool),
                            e_21 = .returned (.bool b103) ∧
                            K (.bool (!b103)) w_25
                          ) (
                            K (.bool false) w_24
                          )
                        ) (
                          K (.bool false) w_23
                        )
                      ) (
                        K (.bool false) w_23
                      )
                    ) (
                      K (.bool false) w_22
                    )
                  )
                )
              )
            )
          )
        )
      )
    )
  )
def lnews_vc (x0 : Int) (w : World) (K : Value → World → Prop) : Prop :=
  br (decide (x0 > 50)) (
    br (decide (x0 ≤ 8192)) (
      (2 : Int) ≠ 0 ∧
      lnews_k1 K (IntKind.i64.wrap (8192 - (Int.tmod x0 2))) w
    ) (
      lnews_k1 K x0 w
    )
  ) (
    lnews_k1 K x0 w
  )
def lnews_notes : Notes := ⟨[(12, ⟨[0, 1, 3, 7, 15, 7, 63, 127, 255, 511, 1023, 2047, 4095, 8191, 16383, 8191, 40959, 131071, 262143, 524287, 1048575, 2097151, 4194303, 8388607, 16777215], [4, 15, 21], [0, 1, 2, 3, 5, 6, 7, 8, 9, 10, 11, 12, 13, 14, 16, 17, 18, 19, 20, 22, 23, 24]⟩)], [], []⟩
theorem lnews_calls (x0 : Int) (w : World) (K : Value → World → Prop) (h : lnews_vc x0 w K) : Calls Try.prog 5 #[.int .i64 x0] w fun e w' => ∃ v, e = .returned v ∧ K v w' :=
  calls_of_fvc envOk Try.func5 lnews_notes [] [.int .i64 x0] w K (use_vc h (by as_aux_lemma => kernel_rfl))
/-- purser/purserlaw04.DiskJobs -/
def ljobs_k1 (K : Value → World → Prop) (I : Int → World → Prop) (μ : Int → World → Nat) (p28_0 : Option Addr) (p32 : Option Addr) (x8 : Int) (w_5 : World) (g : Nat) (w_10 : World) : Prop :=
  drewO w_10 fun w_11 =>
  withP p32 fun g174 o174 =>
  ∃ (b176 : Bool), w_11.cell? ⟨g174, o174 + 4, none⟩ = some (.bool b176) ∧
  Calls Try.prog 19 #[.pointer p28_0] w_11 fun e_6 w_12 => KeepG [g] w_11 w_12 ∧
  ∃ (b172 : Bool),
  e_6 = .returned (.bool b172) ∧
  w_12.cell? ⟨g174, o174 + 4, none⟩ = some (.bool b176) ∧
  br (decide (b172 ≠ b176)) (
    K (.bool false) w_12
  ) (
    Calls Try.prog 21 #[.pointer p28_0] w_12 fun e_7 w_13 => KeepG [g] w_12 w_13 ∧
    ∃ (a180 : Option Addr) (n180 : Nat) (c180 : Nat),
    e_7 = .returned (.slice a180 n180 c180) ∧
    Calls Try.prog 22 #[.pointer p32] w_13 fun e_8 w_14 => KeepG [g] w_13 w_14 ∧
    ∃ (a182 : Option Addr) (n182 : Nat) (c182 : Nat),
    e_8 = .returned (.slice a182 n182 c182) ∧
    Calls Try.prog 20 #[.slice a180 n180 c180, .slice a182 n182 c182] w_14 fun e_9 w_15 => KeepG [g] w_14 w_15 ∧
    ∃ (b183 : Bool),
    e_9 = .returned (.bool b183) ∧
    br (!b183) (
      K (.bool false) w_15
    ) (
      I (IntKind.i64.wrap (x8 + 1)) w_15 ∧ μ (IntKind.i64.wrap (x8 + 1)) w_15 < μ x8 w_5
    )
  )
def ljobs_k2 (K : Value → World → Prop) (I : Int → World → Prop) (μ : Int → World → Nat) (p28_0 : Option Addr) (p32 : Option Addr) (x8 : Int) (w_5 : World) (x52_1 : Int) (g : Nat) (a14_2 : Option Addr) (n14_2 : Nat) (c14_2 : Nat) (w_21 : World) : Prop :=
  ∃ bs112 : List UInt8, bs112.length = n14_2 ∧ RowAt w_21 a14_2 (bs112.map bV) ∧
  drewO w_21 fun w_22 =>
  Calls Try.prog 12 #[.pointer p28_0, .int .i64 x52_1, .slice a14_2 n14_2 c14_2] w_22 fun e_11 w_23 => KeepG [g] w_22 w_23 ∧
  ∃ (x117 : Int),
  e_11 = .returned (.int .i64 x117) ∧
  Calls Try.prog 13 #[.pointer p32, .int .i64 x52_1, .string (strOf bs112)] w_23 fun e_12 w_24 => KeepG [g] w_23 w_24 ∧
  ∃ (x122 : Int),
  e_12 = .returned (.int .i64 x122) ∧
  br (decide (x117 ≠ x122)) (
    K (.bool false) w_24
  ) (
    ∃ bs126 : List UInt8, bs126.length = n14_2 ∧ RowAt w_24 a14_2 (bs126.map bV) ∧
    br (decide ((strOf bs126) ≠ (strOf bs112))) (
      K (.bool false) w_24
    ) (
      ∃ (I_3 : Int → World → Prop) (μ_3 : Int → World → Nat),
      I_3 0 w_24 ∧
      ∀ (x17 : Int) (w_25 : World), I_3 x17 w_25 →
      br (decide (x17 < ((n14_2 : Nat) : Int))) (
        withP a14_2 fun g138 o138 =>
        (0 : Int) ≤ x17 ∧ x17 < (((n14_2 : Nat) : Int) : Int) ∧
        ∃ (x139 : Int), w_25.cell? ⟨g138, o138 + x17.toNat * 1, none⟩ = some (.int .u8 x139) ∧
        withP a14_2 fun g141 o141 =>
        (0 : Int) ≤ x17 ∧ x17 < (((n14_2 : Nat) : Int) : Int) ∧
        stO [g] w_25 g141 (o141 + x17.toNat * 1) [.int .u8 (bitsV .xor .u8 x139 255)] fun w_26 =>
        I_3 (IntKind.i64.wrap (x17 + 1)) w_26 ∧ μ_3 (IntKind.i64.wrap (x17 + 1)) w_26 < μ_3 x17 w_25
      ) (
        ljobs_k1 K I μ p28_0 p32 x8 w_5 g w_25
      )
    )
  )
def ljobs_k3 (K : Value → World → Prop) (x0 : Int) (p28_0 : Option Addr) (p32 : Option Addr) (w_33 : World) : Prop :=
  Calls Try.prog 17 #[.pointer p28_0, .slice none 0 0] w_33 fun e_18 w_34 => KeepG [] w_33 w_34 ∧
  e_18 = .returned (.tuple #[]) ∧
  Calls Try.prog 18 #[.pointer p32, .slice none 0 0] w_34 fun e_19 w_35 => KeepG [] w_34 w_35 ∧
  e_19 = .returned (.tuple #[]) ∧
  Calls Try.prog 9 #[.pointer p28_0, .int .i64 0, .int .i64 (IntKind.i64.wrap (1 + (IntKind.i64.wrap (Int.tmod (IntKind.u64.wrap x0) 7))))] w_35 fun e_20 w_36 => KeepG [] w_35 w_36 ∧
  ∃ (a193_0 : Option Addr) (n193_0 : Nat) (c193_0 : Nat) (x193_1 : Int),
  e_20 = .returned (.tuple #[.slice a193_0 n193_0 c193_0, .int .i64 x193_1]) ∧
  Calls Try.prog 10 #[.pointer p32, .int .i64 0, .int .i64 (IntKind.i64.wrap (1 + (IntKind.i64.wrap (Int.tmod (IntKind.u64.wrap x0) 7))))] w_36 fun e_21 w_37 => KeepG [] w_36 w_37 ∧
  ∃ (s199_0 : ByteArray) (x199_1 : Int),
  e_21 = .returned (.tuple #[.string s199_0, .int .i64 x199_1]) ∧
  ∃ bs203 : List UInt8, bs203.length = n193_0 ∧ RowAt w_37 a193_0 (bs203.map bV) ∧
  br (decide ((strOf bs203) = s199_0)) (
    br (decide (x193_1 = 0)) (
      K (.bool (decide (x199_1 = 0))) w_37
    ) (
      K (.bool false) w_37
    )
  ) (
    K (.bool false) w_37
  )
def ljobs_vc (x0 : Int) (a1 : Option Addr) (n1 : Nat) (c1 : Nat) (w : World) (K : Value → World → Prop) : Prop :=
  (7 : Int) ≠ 0 ∧
  Calls Try.prog 6 #[.int .i64 (IntKind.i64.wrap (1 + (IntKind.i64.wrap (Int.tmod (IntKind.u64.wrap x0) 7))))] w fun e w_2 => KeepG [] w w_2 ∧
  ∃ (p28_0 : Option Addr) (x28_1 : Int),
  e = .returned (.tuple #[.pointer p28_0, .int .i64 x28_1]) ∧
  Calls Try.prog 7 #[.int .i64 (IntKind.i64.wrap (1 + (IntKind.i64.wrap (Int.tmod (IntKind.u64.wrap x0) 7))))] w_2 fun e_2 w_3 => KeepG [] w_2 w_3 ∧
  ∃ (p32 : Option Addr),
  e_2 = .returned (.pointer p32) ∧
  Calls Try.prog 8 #[] w_3 fun e_3 w_4 => KeepG [] w_3 w_4 ∧
  ∃ (b33 : Bool),
  e_3 = .returned (.bool b33) ∧
  br (!b33) (
    K (.bool false) w_4
  ) (
    br (decide (x28_1 ≠ 0)) (
      K (.bool false) w_4
    ) (
      ∃ (I : Int → World → Prop) (μ : Int → World → Nat),
      I 0 w_4 ∧
      ∀ (x8 : Int) (w_5 : World), I x8 w_5 →
      br (decide (x8 < ((n1 : Nat) : Int))) (
        br (decide (x8 < 50)) (
          withP a1 fun g51 o51 =>
          (0 : Int) ≤ x8 ∧ x8 < (((n1 : Nat) : Int) : Int) ∧
          ∃ (x52_0 : Int) (x52_1 : Int) (x52_2 : Int) (x52_3 : Int) (b52_4 : Bool) (a52_5 : Option Addr) (n52_5 : Nat) (c52_5 : Nat),
          cellsAt w_5 g51 (o51 + x8.toNat * 6) [.int .i64 x52_0, .int .i64 x52_1, .int .i64 x52_2, .int .u8 x52_3, .bool b52_4, .slice a52_5 n52_5 c52_5] ∧
          newO w_5 (.cells #[.int .i64 0, .int .i64 0, .int .i64 0, .int .u8 0, .bool false, .slice none 0 0] 33) fun g w_6 =>
          ∀ w_7 : World, BoxSt g w_6 w_7 →
          (5 : Int) ≠ 0 ∧
          br (decide ((IntKind.i64.wrap (Int.tmod (IntKind.u64.wrap x52_0) 5)) = 0)) (
            Calls Try.prog 9 #[.pointer p28_0, .int .i64 x52_1, .int .i64 x52_2] w_7 fun e_4 w_8 => KeepG [g] w_7 w_8 ∧
            ∃ (a66_0 : Option Addr) (n66_0 : Nat) (c66_0 : Nat) (x66_1 : Int),
            e_4 = .returned (.tuple #[.slice a66_0 n66_0 c66_0, .int .i64 x66_1]) ∧
            Calls Try.prog 10 #[.pointer p32, .int .i64 x52_1, .int .i64 x52_2] w_8 fun e_5 w_9 => KeepG [g] w_8 w_9 ∧
            ∃ (s75_0 : ByteArray) (x75_1 : Int),
            e_5 = .returned (.tuple #[.string s75_0, .int .i64 x75_1]) ∧
            ∃ bs79 : List UInt8, bs79.length = n66_0 ∧ RowAt w_9 a66_0 (bs79.map bV) ∧
            br (decide ((strOf bs79) ≠ s75_0)) (
              K (.bool false) w_9
            ) (
              br (decide (x66_1 ≠ x75_1)) (
                K (.bool false) w_9
              ) (
                ljobs_k1 K I μ p28_0 p32 x8 w_5 g w_9
              )
            )
          ) (
            br (decide ((IntKind.i64.wrap (Int.tmod (IntKind.u64.wrap x52_0) 5)) = 1)) (
              ∃ (I_2 : Option Addr → Nat → Nat → Int → World → Prop) (μ_2 : Option Addr → Nat → Nat → Int → World → Nat),
              I_2 none 0 0 0 w_7 ∧
              ∀ (a14 : Option Addr) (n14 : Nat) (c14 : Nat) (x15 : Int) (w_16 : World), I_2 a14 n14 c14 x15 w_16 →
              (4 : Int) ≠ 0 ∧
              br (decide (x15 < (IntKind.i64.wrap (Int.tmod (IntKind.u64.wrap x52_2) 4)))) (
                Calls Try.prog 11 #[.int .u8 (IntKind.u8.wrap (x52_3 + (IntKind.u8.wrap x15)))] w_16 fun e_10 w_17 => KeepG [g] w_16 w_17 ∧
                ∃ (a104 : Option Addr) (n104 : Nat) (c104 : Nat),
                e_10 = .returned (.slice a104 n104 c104) ∧
                appO Try.prog [g] w_17 5 1 1 34 a14 n14 c14 (.slice a104 n104 c104) fun m105 a105 c105 w_18 =>
                I_2 a105 (n14 + m105) c105 (IntKind.i64.wrap (x15 + 1)) w_18 ∧ μ_2 a105 (n14 + m105) c105 (IntKind.i64.wrap (x15 + 1)) w_18 < μ_2 a14 n14 c14 x15 w_16
              ) (
                br b52_4 (
                  newO w_16 (.cells #[.int .u8 1] 5) fun g_2 w_19 =>
                  appO Try.prog [g] w_19 5 1 1 34 a14 n14 c14 (.slice (some ⟨g_2, 0, none⟩) 1 1) fun m110 a110 c110 w_20 =>
                  ljobs_k2 K I μ p28_0 p32 x8 w_5 x52_1 g a110 (n14 + m110) c110 w_20
                ) (
                  ljobs_k2 K I μ p28_0 p32 x8 w_5 x52_1 g a14 n14 c14 w_16
                )
              )
            ) (
              br (decide ((IntKind.i64.wrap (Int.tmod (IntKind.u64.wrap x52_0) 5)) = 2)) (
                Calls Try.prog 14 #[.pointer p28_0] w_7 fun e_13 w_27 => KeepG [g] w_7 w_27 ∧
                ∃ (x145 : Int),
                e_13 = .returned (.int .i64 x145) ∧
                Calls Try.prog 15 #[.pointer p32] w_27 fun e_14 w_28 => KeepG [g] w_27 w_28 ∧
                ∃ (x147 : Int),
                e_14 = .returned (.int .i64 x147) ∧
                br (decide (x145 ≠ x147)) (
                  K (.bool false) w_28
                ) (
                  ljobs_k1 K I μ p28_0 p32 x8 w_5 g w_28
                )
              ) (
                br (decide ((IntKind.i64.wrap (Int.tmod (IntKind.u64.wrap x52_0) 5)) = 3)) (
                  Calls Try.prog 16 #[.pointer p28_0, .int .i64 x52_2] w_7 fun e_15 w_29 => KeepG [g] w_7 w_29 ∧
                  e_15 = .returned (.tuple #[]) ∧
                  withP p32 fun g159 o159 =>
                  stO [g] w_29 g159 (o159 + 3) [.int .i64 (max x52_2 0)] fun w_30 =>
                  ljobs_k1 K I μ p28_0 p32 x8 w_5 g w_30
                ) (
                  br (decide ((IntKind.i64.wrap (Int.tmod (IntKind.u64.wrap x52_0) 5)) = 4)) (
                    Calls Try.prog 17 #[.pointer p28_0, .slice a52_5 n52_5 c52_5] w_7 fun e_16 w_31 => KeepG [g] w_7 w_31 ∧
                    e_16 = .returned (.tuple #[]) ∧
                    Calls Try.prog 18 #[.pointer p32, .slice a52_5 n52_5 c52_5] w_31 fun e_17 w_32 => KeepG [g] w_31 w_32 ∧
                    e_17 = .returned (.tuple #[]) ∧
                    ljobs_k1 K I μ p28_0 p32 x8 w_5 g w_32
                  ) (
                    ljobs_k1 K I μ p28_0 p32 x8 w_5 g w_7
                  )
                )
              )
            )
          )
        ) (
          ljobs_k3 K x0 p28_0 p32 w_5
        )
      ) (
        ljobs_k3 K x0 p28_0 p32 w_5
      )
    )
  )
def ljobs_notes : Notes := ⟨[(40, ⟨[0, 1, 0, 4, 12, 28, 63, 127, 255, 511, 255, 2047, 4095, 8191, 16383], [1, 9, 11, 12], [0, 2, 3, 4, 5, 6, 7, 8, 10, 13, 14]⟩), (25, ⟨[0, 0, 2, 0, 15, 0, 0, 64, 0, 511, 1023, 2047, 4095, 8191, 4095, 32767, 65535], [4, 9], [0, 1, 2, 3, 5, 6, 7, 8, 10, 11, 12, 13, 14, 15, 16]⟩)], [(7, ⟨[(8, .lf (.int .i64))], [], [39, 40, 41, 42, 43, 44, 45, 46, 49, 50, 51, 52, 9, 53, 54, 55, 56, 57, 59, 58, 61, 62, 63, 64, 65, 66, 60, 67, 68, 10, 11, 70, 71, 72, 73, 74, 75, 69, 76, 77, 12, 13, 78, 79, 80, 81, 82, 83, 84, 85, 86, 4, 88, 87, 14, 15, 89, 90, 91, 92, 93, 94, 95, 98, 99, 100, 101, 102, 103, 104, 105, 96, 97, 106, 107, 108, 109, 110, 111, 112, 16, 113, 114, 115, 116, 117, 118, 119, 120, 121, 122, 123, 124, 125, 126, 127, 128, 129, 17, 130, 131, 132, 133, 136, 137, 138, 139, 140, 141, 134, 135, 143, 142, 144, 145, 146, 147, 148, 150, 149, 151, 152, 153, 154, 155, 156, 157, 158, 159, 160, 162, 161, 163, 164, 165, 166, 167, 168, 169, 170, 171, 172, 173, 174, 175, 176, 177, 178, 179, 180, 181, 182, 183, 184, 185, 47, 48, 8], [9]⟩), (19, ⟨[(14, .lf (.slice)), (15, .lf (.int .i64))], [], [89, 90, 91, 92, 93, 94, 95, 98, 99, 100, 101, 102, 103, 104, 105, 14, 96, 97, 15], []⟩), (28, ⟨[(17, .lf (.int .i64))], [], [130, 131, 132, 133, 136, 137, 138, 139, 140, 141, 134, 135, 17], []⟩)], []⟩
theorem ljobs_calls (x0 : Int) (a1 : Option Addr) (n1 : Nat) (c1 : Nat) (w : World) (K : Value → World → Prop) (h : ljobs_vc x0 a1 n1 c1 w K) : Calls Try.prog 3 #[.int .i64 x0, .slice a1 n1 c1] w fun e w' => ∃ v, e = .returned v ∧ K v w' :=
  calls_of_fvc envOk Try.func3 ljobs_notes [9] [.int .i64 x0, .slice a1 n1 c1] w K (use_vc h (by as_aux_lemma => kernel_rfl))
/-- purser/purserlaw04.DiskLasts -/
def llasts_k1 (K : Value → World → Prop) (a2 : Option Addr) (n2 : Nat) (c2 : Nat) (p19_0 : Option Addr) (g : Nat) (g_2 : Nat) (g_3 : Nat) (w_19 : World) : Prop :=
  Calls Try.prog 17 #[.pointer p19_0, .slice a2 n2 c2] w_19 fun e_8 w_20 => KeepG [] w_19 w_20 ∧
  e_8 = .returned (.tuple #[]) ∧
  ∃ (I_3 : Int → World → Prop) (μ_3 : Int → World → Nat),
  I_3 0 w_20 ∧
  ∀ (x15 : Int) (w_21 : World), I_3 x15 w_21 →
  br (decide (x15 < 8)) (
    Calls Try.prog 9 #[.pointer p19_0, .int .i64 x15, .int .i64 1] w_21 fun e_9 w_22 => KeepG [] w_21 w_22 ∧
    ∃ (a102_0 : Option Addr) (n102_0 : Nat) (c102_0 : Nat) (x102_1 : Int),
    e_9 = .returned (.tuple #[.slice a102_0 n102_0 c102_0, .int .i64 x102_1]) ∧
    drewO w_22 fun w_23 =>
    br (decide (x102_1 ≠ 0)) (
      K (.bool false) w_23
    ) (
      ∃ bs109 : List UInt8, bs109.length = n102_0 ∧ RowAt w_23 a102_0 (bs109.map bV) ∧
      (0 : Int) ≤ x15 ∧ x15 < ((8 : Nat) : Int) ∧
      ∃ (x112 : Int), w_23.cell? ⟨g, 0 + x15.toNat * 1, none⟩ = some (.int .u8 x112) ∧
      Calls Try.prog 11 #[.int .u8 x112] w_23 fun e_10 w_25 => KeepG [] w_23 w_25 ∧
      ∃ (a113 : Option Addr) (n113 : Nat) (c113 : Nat),
      e_10 = .returned (.slice a113 n113 c113) ∧
      RowAt w_25 a102_0 (bs109.map bV) ∧
      ∃ bs114 : List UInt8, bs114.length = n113 ∧ RowAt w_25 a113 (bs114.map bV) ∧
      br (decide ((strOf bs109) ≠ (strOf bs114))) (
        (0 : Int) ≤ x15 ∧ x15 < ((8 : Nat) : Int) ∧
        ∃ (b119 : Bool), w_25.cell? ⟨g_3, 0 + x15.toNat * 1, none⟩ = some (.bool b119) ∧
        br b119 (
          ∃ bs122 : List UInt8, bs122.length = n102_0 ∧ RowAt w_25 a102_0 (bs122.map bV) ∧
          (0 : Int) ≤ x15 ∧ x15 < ((8 : Nat) : Int) ∧
          ∃ (x125 : Int), w_25.cell? ⟨g_2, 0 + x15.toNat * 1, none⟩ = some (.int .u8 x125) ∧
          Calls Try.prog 11 #[.int .u8 x125] w_25 fun e_11 w_26 => KeepG [] w_25 w_26 ∧
          ∃ (a126 : Option Addr) (n126 : Nat) (c126 : Nat),
          e_11 = .returned (.slice a126 n126 c126) ∧
          RowAt w_26 a102_0 (bs122.map bV) ∧
          ∃ bs127 : List UInt8, bs127.length = n126 ∧ RowAt w_26 a126 (bs127.map bV) ∧
          br (!(decide ((strOf bs122) = (strOf bs127)))) (
            K (.bool false) w_26
          ) (
            I_3 (IntKind.i64.wrap (x15 + 1)) w_26 ∧ μ_3 (IntKind.i64.wrap (x15 + 1)) w_26 < μ_3 x15 w_21
          )
        ) (
          K (.bool false) w_25
        )
      ) (
        I_3 (IntKind.i64.wrap (x15 + 1)) w_25 ∧ μ_3 (IntKind.i64.wrap (x15 + 1)) w_25 < μ_3 x15 w_21
      )
    )
  ) (
    Calls Try.prog 21 #[.pointer p19_0] w_21 fun e_12 w_28 => KeepG [] w_21 w_28 ∧
    ∃ (a134 : Option Addr) (n134 : Nat) (c134 : Nat),
    e_12 = .returned (.slice a134 n134 c134) ∧
    K (.bool (decide (((n134 : Nat) : Int) = 0))) w_28
  )
def llasts_k2 (K : Value → World → Prop) (a1 : Option Addr) (n1 : Nat) (a2 : Option Addr) (n2 : Nat) (c2 : Nat) (p19_0 : Option Addr) (g : Nat) (g_2 : Nat) (w_10 : World) : Prop :=
  Calls Try.prog 14 #[.pointer p19_0] w_10 fun e_5 w_11 => KeepG [] w_10 w_11 ∧
  ∃ (x53 : Int),
  e_5 = .returned (.int .i64 x53) ∧
  br (decide (x53 ≠ 0)) (
    K (.bool false) w_11
  ) (
    ∃ (x55_0 : Int) (x55_1 : Int) (x55_2 : Int) (x55_3 : Int) (x55_4 : Int) (x55_5 : Int) (x55_6 : Int) (x55_7 : Int),
    cellsAt w_11 g 0 [.int .u8 x55_0, .int .u8 x55_1, .int .u8 x55_2, .int .u8 x55_3, .int .u8 x55_4, .int .u8 x55_5, .int .u8 x55_6, .int .u8 x55_7] ∧
    stO [] w_11 g_2 0 [.int .u8 x55_0, .int .u8 x55_1, .int .u8 x55_2, .int .u8 x55_3, .int .u8 x55_4, .int .u8 x55_5, .int .u8 x55_6, .int .u8 x55_7] fun w_12 =>
    newO w_12 (.cells #[.bool false, .bool false, .bool false, .bool false, .bool false, .bool false, .bool false, .bool false] 53) fun g_3 w_13 =>
    ∃ (I_2 : Int → World → Prop) (μ_2 : Int → World → Nat),
    I_2 0 w_13 ∧
    ∀ (x13 : Int) (w_14 : World), I_2 x13 w_14 →
    br (decide (x13 < ((n1 : Nat) : Int))) (
      br (decide (x13 < 20)) (
        withP a1 fun g68 o68 =>
        (0 : Int) ≤ x13 ∧ x13 < (((n1 : Nat) : Int) : Int) ∧
        ∃ (x70 : Int), w_14.cell? ⟨g68, o68 + x13.toNat * 6 + 1, none⟩ = some (.int .i64 x70) ∧
        (8 : Int) ≠ 0 ∧
        withP a1 fun g78 o78 =>
        (0 : Int) ≤ x13 ∧ x13 < (((n1 : Nat) : Int) : Int) ∧
        ∃ (x80 : Int), w_14.cell? ⟨g78, o78 + x13.toNat * 6 + 3, none⟩ = some (.int .u8 x80) ∧
        Calls Try.prog 11 #[.int .u8 x80] w_14 fun e_6 w_15 => KeepG [] w_14 w_15 ∧
        ∃ (a81 : Option Addr) (n81 : Nat) (c81 : Nat),
        e_6 = .returned (.slice a81 n81 c81) ∧
        Calls Try.prog 12 #[.pointer p19_0, .int .i64 (IntKind.i64.wrap (Int.tmod (IntKind.u64.wrap x70) 8)), .slice a81 n81 c81] w_15 fun e_7 w_16 => KeepG [] w_15 w_16 ∧
        ∃ (x82 : Int),
        e_7 = .returned (.int .i64 x82) ∧
        withP a1 fun g87 o87 =>
        (0 : Int) ≤ x13 ∧ x13 < (((n1 : Nat) : Int) : Int) ∧
        ∃ (x89 : Int), w_16.cell? ⟨g87, o87 + x13.toNat * 6 + 3, none⟩ = some (.int .u8 x89) ∧
        (0 : Int) ≤ IntKind.i64.wrap (Int.tmod (IntKind.u64.wrap x70) 8) ∧ IntKind.i64.wrap (Int.tmod (IntKind.u64.wrap x70) 8) < ((8 : Nat) : Int) ∧
        stO [] w_16 g_2 (0 + (IntKind.i64.wrap (Int.tmod (IntKind.u64.wrap x70) 8)).toNat * 1) [.int .u8 x89] fun w_17 =>
        (0 : Int) ≤ IntKind.i64.wrap (Int.tmod (IntKind.u64.wrap x70) 8) ∧ IntKind.i64.wrap (Int.tmod (IntKind.u64.wrap x70) 8) < ((8 : Nat) : Int) ∧
        stO [] w_17 g_3 (0 + (IntKind.i64.wrap (Int.tmod (IntKind.u64.wrap x70) 8)).toNat * 1) [.bool true] fun w_18 =>
        I_2 (IntKind.i64.wrap (x13 + 1)) w_18 ∧ μ_2 (IntKind.i64.wrap (x13 + 1)) w_18 < μ_2 x13 w_14
      ) (
        llasts_k1 K a2 n2 c2 p19_0 g g_2 g_3 w_14
      )
    ) (
      llasts_k1 K a2 n2 c2 p19_0 g g_2 g_3 w_14
    )
  )
def llasts_vc (a0 : Option Addr) (n0 : Nat) (c0 : Nat) (a1 : Option Addr) (n1 : Nat) (c1 : Nat) (a2 : Option Addr) (n2 : Nat) (c2 : Nat) (w : World) (K : Value → World → Prop) : Prop :=
  Calls Try.prog 6 #[.int .i64 8] w fun e w_2 => KeepG [] w w_2 ∧
  ∃ (p19_0 : Option Addr) (x19_1 : Int),
  e = .returned (.tuple #[.pointer p19_0, .int .i64 x19_1]) ∧
  Calls Try.prog 8 #[] w_2 fun e_2 w_3 => KeepG [] w_2 w_3 ∧
  ∃ (b22 : Bool),
  e_2 = .returned (.bool b22) ∧
  br (!b22) (
    K (.bool false) w_3
  ) (
    br (decide (x19_1 ≠ 0)) (
      K (.bool false) w_3
    ) (
      newO w_3 (.cells #[.int .u8 0, .int .u8 0, .int .u8 0, .int .u8 0, .int .u8 0, .int .u8 0, .int .u8 0, .int .u8 0] 52) fun g w_4 =>
      newO w_4 (.cells #[.int .u8 0, .int .u8 0, .int .u8 0, .int .u8 0, .int .u8 0, .int .u8 0, .int .u8 0, .int .u8 0] 52) fun g_2 w_5 =>
      ∃ (I : Int → World → Prop) (μ : Int → World → Nat),
      I 0 w_5 ∧
      ∀ (x11 : Int) (w_6 : World), I x11 w_6 →
      br (decide (x11 < 8)) (
        br (decide (x11 < ((n0 : Nat) : Int))) (
          withP a0 fun g42 o42 =>
          (0 : Int) ≤ x11 ∧ x11 < (((n0 : Nat) : Int) : Int) ∧
          ∃ (x43 : Int), w_6.cell? ⟨g42, o42 + x11.toNat * 1, none⟩ = some (.int .u8 x43) ∧
          Calls Try.prog 11 #[.int .u8 x43] w_6 fun e_3 w_7 => KeepG [] w_6 w_7 ∧
          ∃ (a44 : Option Addr) (n44 : Nat) (c44 : Nat),
          e_3 = .returned (.slice a44 n44 c44) ∧
          Calls Try.prog 12 #[.pointer p19_0, .int .i64 x11, .slice a44 n44 c44] w_7 fun e_4 w_8 => KeepG [] w_7 w_8 ∧
          ∃ (x45 : Int),
          e_4 = .returned (.int .i64 x45) ∧
          withP a0 fun g49 o49 =>
          (0 : Int) ≤ x11 ∧ x11 < (((n0 : Nat) : Int) : Int) ∧
          ∃ (x50 : Int), w_8.cell? ⟨g49, o49 + x11.toNat * 1, none⟩ = some (.int .u8 x50) ∧
          (0 : Int) ≤ x11 ∧ x11 < ((8 : Nat) : Int) ∧
          stO [] w_8 g (0 + x11.toNat * 1) [.int .u8 x50] fun w_9 =>
          I (IntKind.i64.wrap (x11 + 1)) w_9 ∧ μ (IntKind.i64.wrap (x11 + 1)) w_9 < μ x11 w_6
        ) (
          llasts_k2 K a1 n1 a2 n2 c2 p19_0 g g_2 w_6
        )
      ) (
        llasts_k2 K a1 n1 a2 n2 c2 p19_0 g g_2 w_6
      )
    )
  )
def llasts_notes : Notes := ⟨[(25, ⟨[0, 1, 3, 7, 15, 7, 39, 103, 231, 487, 1023, 2047, 4095, 8191, 16383, 32767, 65535, 131071, 65535, 327679, 851967, 1900543, 3997695, 8388607, 16777215, 33554431, 67108863, 134217727], [8, 21], [0, 1, 2, 3, 4, 5, 6, 7, 9, 10, 11, 12, 13, 14, 15, 16, 17, 18, 19, 20, 22, 23, 24, 25, 26, 27]⟩)], [(6, ⟨[(11, .lf (.int .i64))], [], [28, 29, 30, 31, 32, 33, 34, 35, 38, 39, 40, 41, 42, 43, 44, 45, 46, 47, 48, 49, 50, 51, 36, 37, 11], []⟩), (15, ⟨[(13, .lf (.int .i64))], [], [56, 57, 58, 59, 60, 61, 62, 63, 66, 67, 68, 69, 70, 71, 72, 73, 14, 74, 75, 76, 77, 78, 79, 80, 81, 82, 83, 84, 85, 86, 87, 88, 89, 90, 91, 64, 65, 13], []⟩), (22, ⟨[(15, .lf (.int .i64))], [], [95, 96, 100, 101, 102, 99, 103, 104, 16, 17, 105, 106, 107, 108, 109, 110, 111, 112, 113, 114, 115, 116, 117, 118, 119, 120, 121, 122, 123, 124, 125, 126, 127, 128, 129, 130, 131, 132, 6, 97, 98, 15], []⟩)], []⟩
theorem llasts_calls (a0 : Option Addr) (n0 : Nat) (c0 : Nat) (a1 : Option Addr) (n1 : Nat) (c1 : Nat) (a2 : Option Addr) (n2 : Nat) (c2 : Nat) (w : World) (K : Value → World → Prop) (h : llasts_vc a0 n0 c0 a1 n1 c1 a2 n2 c2 w K) : Calls Try.prog 4 #[.slice a0 n0 c0, .slice a1 n1 c1, .slice a2 n2 c2] w fun e w' => ∃ v, e = .returned v ∧ K v w' :=
  calls_of_fvc envOk Try.func4 llasts_notes [] [.slice a0 n0 c0, .slice a1 n1 c1, .slice a2 n2 c2] w K (use_vc h (by as_aux_lemma => kernel_rfl))
/-- purser/purserref01.Same -/
def lsame_vc (a0 : Option Addr) (n0 : Nat) (c0 : Nat) (a1 : Option Addr) (n1 : Nat) (c1 : Nat) (w : World) (K : Value → World → Prop) : Prop :=
  br (decide (((n0 : Nat) : Int) ≠ ((n1 : Nat) : Int))) (
    K (.bool false) w
  ) (
    ∃ (I : Int → World → Prop) (μ : Int → World → Nat),
    I 0 w ∧
    ∀ (x5 : Int) (w_2 : World), I x5 w_2 →
    br (decide (x5 < ((n0 : Nat) : Int))) (
      drewO w_2 fun w_3 =>
      withP a0 fun g19 o19 =>
      (0 : Int) ≤ x5 ∧ x5 < (((n0 : Nat) : Int) : Int) ∧
      ∃ (x20 : Int), w_3.cell? ⟨g19, o19 + x5.toNat * 1, none⟩ = some (.int .i64 x20) ∧
      withP a1 fun g23 o23 =>
      (0 : Int) ≤ x5 ∧ x5 < (((n1 : Nat) : Int) : Int) ∧
      ∃ (x24 : Int), w_3.cell? ⟨g23, o23 + x5.toNat * 1, none⟩ = some (.int .i64 x24) ∧
      br (decide (x20 ≠ x24)) (
        K (.bool false) w_3
      ) (
        I (IntKind.i64.wrap (x5 + 1)) w_3 ∧ μ (IntKind.i64.wrap (x5 + 1)) w_3 < μ x5 w_2
      )
    ) (
      K (.bool true) w_2
    )
  )
def lsame_notes : Notes := ⟨[(6, ⟨[0, 0, 3, 7, 0, 0, 48, 112, 255], [], [0, 1, 2, 3, 4, 5, 6, 7, 8]⟩)], [(4, ⟨[(5, .lf (.int .i64))], [], [11, 12, 13, 14, 17, 18, 19, 20, 21, 22, 23, 24, 25, 4, 15, 16, 5], []⟩)], []⟩
theorem lsame_calls (a0 : Option Addr) (n0 : Nat) (c0 : Nat) (a1 : Option Addr) (n1 : Nat) (c1 : Nat) (w : World) (K : Value → World → Prop) (h : lsame_vc a0 n0 c0 a1 n1 c1 w K) : Calls Try.prog 20 #[.slice a0 n0 c0, .slice a1 n1 c1] w fun e w' => ∃ v, e = .returned v ∧ K v w' :=
  calls_of_fvc envOk Try.func20 lsame_notes [] [.slice a0 n0 c0, .slice a1 n1 c1] w K (use_vc h (by as_aux_lemma => kernel_rfl))
end GDkR
end Go.Proofs.Ytbolfgafiejkaaa
end
section
/- Conditions of functions, printed by a program of this claim's own (vcgen.py) out of the loaded code; each is proved to be enough. -/
set_option maxRecDepth 100000
namespace Go.Proofs.Ytbolfgafiejkaaa
open Go.RowKit
namespace GDk
def env : Env := ⟨[(3, ⟨.int .i64, 1, .int .i64 0, 8, [.int .i64]⟩), (4, ⟨.bool, 1, .bool false, 1, [.bool]⟩), (5, ⟨.int .u8, 1, .int .u8 0, 1, [.int .u8]⟩), (24, ⟨.ptr, 1, .pointer none, 8, [.ptr]⟩), (31, ⟨.slice 4, 1, .slice none 0 0, 24, [.slice]⟩), (34, ⟨.slice 5, 1, .slice none 0 0, 24, [.slice]⟩), (49, ⟨.slice 3, 1, .slice none 0 0, 24, [.slice]⟩), (58, ⟨.slice 64, 1, .slice none 0 0, 24, [.slice]⟩), (59, ⟨.map 3 64, 1, .map none, 8, [.map]⟩), (61, ⟨.struct [(0, 58), (1, 59), (2, 3), (3, 4)], 4, .agg #[.slice none 0 0, .map none, .int .i64 0, .bool false], 48, [.slice, .map, .int .i64, .bool]⟩), (64, ⟨.arr 64 5, 64, .agg (List.replicate 64 (.int .u8 0)).toArray, 64, [.bytes 64]⟩), (67, ⟨.slice 34, 1, .slice none 0 0, 24, [.slice]⟩)], [(21, [.lf (.slice)]), (25, [.lf (.int .i64)]), (27, [.lf (.slice)]), (28, [.lf (.any)]), (29, [.lf (.bool)]), (31, [.lf (.slice)]), (32, [.lf (.any)])], []⟩
theorem ty3 : TyOk Try.prog 3 ⟨.int .i64, 1, .int .i64 0, 8, [.int .i64]⟩ := tyok (by kernel_rfl) (by kernel_rfl)
theorem ty4 : TyOk Try.prog 4 ⟨.bool, 1, .bool false, 1, [.bool]⟩ := tyok (by kernel_rfl) (by kernel_rfl)
theorem ty5 : TyOk Try.prog 5 ⟨.int .u8, 1, .int .u8 0, 1, [.int .u8]⟩ := tyok (by kernel_rfl) (by kernel_rfl)
theorem ty24 : TyOk Try.prog 24 ⟨.ptr, 1, .pointer none, 8, [.ptr]⟩ := tyok (by kernel_rfl) (by kernel_rfl)
theorem ty31 : TyOk Try.prog 31 ⟨.slice 4, 1, .slice none 0 0, 24, [.slice]⟩ := tyok (by kernel_rfl) (by kernel_rfl)
theorem ty34 : TyOk Try.prog 34 ⟨.slice 5, 1, .slice none 0 0, 24, [.slice]⟩ := tyok (by kernel_rfl) (by kernel_rfl)
theorem ty49 : TyOk Try.prog 49 ⟨.slice 3, 1, .slice none 0 0, 24, [.slice]⟩ := tyok (by kernel_rfl) (by kernel_rfl)
theorem ty58 : TyOk Try.prog 58 ⟨.slice 64, 1, .slice none 0 0, 24, [.slice]⟩ := tyok (by kernel_rfl) (by kernel_rfl)
theorem ty59 : TyOk Try.prog 59 ⟨.map 3 64, 1, .map none, 8, [.map]⟩ := tyok (by kernel_rfl) (by kernel_rfl)
theorem ty61 : TyOk Try.prog 61 ⟨.struct [(0, 58), (1, 59), (2, 3), (3, 4)], 4, .agg #[.slice none 0 0, .map none, .int .i64 0, .bool false], 48, [.slice, .map, .int .i64, .bool]⟩ := tyok (by kernel_rfl) (by kernel_rfl)
theorem ty64 : TyOk Try.prog 64 ⟨.arr 64 5, 64, .agg (List.replicate 64 (.int .u8 0)).toArray, 64, [.bytes 64]⟩ := tyok (by kernel_rfl) (by kernel_rfl)
theorem ty67 : TyOk Try.prog 67 ⟨.slice 34, 1, .slice none 0 0, 24, [.slice]⟩ := tyok (by kernel_rfl) (by kernel_rfl)
theorem fn21 : FnOk Try.prog 21 := fnok Try.func21 (by kernel_rfl) (by kernel_rfl)
theorem fn25 : FnOk Try.prog 25 := fnok Try.func25 (by kernel_rfl) (by kernel_rfl)
theorem fn27 : FnOk Try.prog 27 := fnok Try.func27 (by kernel_rfl) (by kernel_rfl)
theorem fn28 : FnOk Try.prog 28 := fnok Try.func28 (by kernel_rfl) (by kernel_rfl)
theorem fn29 : FnOk Try.prog 29 := fnok Try.func29 (by kernel_rfl) (by kernel_rfl)
theorem fn31 : FnOk Try.prog 31 := fnok Try.func31 (by kernel_rfl) (by kernel_rfl)
theorem fn32 : FnOk Try.prog 32 := fnok Try.func32 (by kernel_rfl) (by kernel_rfl)
theorem envOk : EOk Try.prog env := ⟨(by simp only [env, List.forall_mem_cons, List.not_mem_nil, false_implies, implies_true, and_true]; exact ⟨ty3, ty4, ty5, ty24, ty31, ty34, ty49, ty58, ty59, ty61, ty64, ty67⟩), (by simp only [env, List.forall_mem_cons, List.not_mem_nil, false_implies, implies_true, and_true]; exact ⟨fn21, fn25, fn27, fn28, fn29, fn31, fn32⟩), by kernel_rfl, (fun _ h => by cases h)⟩
/-- purser/disk.New -/
def dnew_vc (x0 : Int) (w : World) (K : Value → World → Prop) : Prop :=
  br (decide (x0 < 1)) (
    K (.tuple #[.pointer none, .int .i64 1]) w
  ) (
    br (decide (x0 > 8192)) (
      K (.tuple #[.pointer none, .int .i64 1]) w
    ) (
      (0 : Int) ≤ x0 ∧ x0 ≤ x0 ∧ ((64 : Nat) : Int) * x0 ≤ 281474976710656 ∧ x0 ≤ 9223372036854775807 ∧
      newO w (.cells (madeCells (Value.cells (.agg (List.replicate 64 (.int .u8 0)).toArray)) (x0.toNat * 64)) 64) fun g w_2 =>
      newO w_2 (.map #[] 0) fun g_2 w_3 =>
      newO w_3 (.cells #[.slice (some ⟨g, 0, none⟩) x0.toNat x0.toNat, .map (some g_2), .int .i64 0, .bool false] 61) fun g_3 w_4 =>
      K (.tuple #[.pointer (some ⟨g_3, 0, none⟩), .int .i64 0]) w_4
    )
  )
def dnew_notes : Notes := ⟨[], [], []⟩
theorem dnew_calls (x0 : Int) (w : World) (K : Value → World → Prop) (h : dnew_vc x0 w K) : Calls Try.prog 6 #[.int .i64 x0] w fun e w' => ∃ v, e = .returned v ∧ K v w' :=
  calls_of_fvc envOk Try.func6 dnew_notes [] [.int .i64 x0] w K (use_vc h (by as_aux_lemma => kernel_rfl))
/-- (*purser/disk.Disk).may -/
def dmay_vc (p0 : Option Addr) (x1 : Int) (x2 : Int) (w : World) (K : Value → World → Prop) : Prop :=
  br (Option.isNone p0) (
    K (.int .i64 1) w
  ) (
    withP p0 fun g12 o12 =>
    ∃ (b14 : Bool), w.cell? ⟨g12, o12 + 3, none⟩ = some (.bool b14) ∧
    br b14 (
      K (.int .i64 12) w
    ) (
      br (decide (x1 < 0)) (
        K (.int .i64 1) w
      ) (
        br (decide (x2 < 0)) (
          K (.int .i64 1) w
        ) (
          withP p0 fun g25 o25 =>
          ∃ (a27 : Option Addr) (n27 : Nat) (c27 : Nat), w.cell? ⟨g25, o25, none⟩ = some (.slice a27 n27 c27) ∧
          br (decide (x1 > ((n27 : Nat) : Int))) (
            K (.int .i64 1) w
          ) (
            withP p0 fun g34 o34 =>
            ∃ (a36 : Option Addr) (n36 : Nat) (c36 : Nat), w.cell? ⟨g34, o34, none⟩ = some (.slice a36 n36 c36) ∧
            br (decide (x2 > (IntKind.i64.wrap (((n36 : Nat) : Int) - x1)))) (
              K (.int .i64 1) w
            ) (
              K (.int .i64 0) w
            )
          )
        )
      )
    )
  )
def dmay_notes : Notes := ⟨[], [], []⟩
theorem dmay_calls (p0 : Option Addr) (x1 : Int) (x2 : Int) (w : World) (K : Value → World → Prop) (h : dmay_vc p0 x1 x2 w K) : Calls Try.prog 25 #[.pointer p0, .int .i64 x1, .int .i64 x2] w fun e w' => ∃ v, e = .returned v ∧ K v w' :=
  calls_of_fvc envOk Try.func25 dmay_notes [] [.pointer p0, .int .i64 x1, .int .i64 x2] w K (use_vc h (by as_aux_lemma => kernel_rfl))
/-- (*purser/disk.Disk).Size -/
def dsize_vc (p0 : Option Addr) (w : World) (K : Value → World → Prop) : Prop :=
  br (Option.isNone p0) (
    K (.int .i64 0) w
  ) (
    withP p0 fun g6 o6 =>
    ∃ (a8 : Option Addr) (n8 : Nat) (c8 : Nat), w.cell? ⟨g6, o6, none⟩ = some (.slice a8 n8 c8) ∧
    K (.int .i64 ((n8 : Nat) : Int)) w
  )
def dsize_notes : Notes := ⟨[], [], []⟩
theorem dsize_calls (p0 : Option Addr) (w : World) (K : Value → World → Prop) (h : dsize_vc p0 w K) : Calls Try.prog 24 #[.pointer p0] w fun e w' => ∃ v, e = .returned v ∧ K v w' :=
  calls_of_fvc envOk Try.func24 dsize_notes [] [.pointer p0] w K (use_vc h (by as_aux_lemma => kernel_rfl))
/-- (*purser/disk.Disk).Read -/
def dread_vc (p0 : Option Addr) (x1 : Int) (x2 : Int) (w : World) (K : Value → World → Prop) : Prop :=
  Calls Try.prog 25 #[.pointer p0, .int .i64 x1, .int .i64 x2] w fun e w_2 => KeepG [] w w_2 ∧
  ∃ (x16 : Int),
  e = .returned (.int .i64 x16) ∧
  br (decide (x16 ≠ 0)) (
    K (.tuple #[.slice none 0 0, .int .i64 x16]) w_2
  ) (
    ∃ (I : Option Addr → Nat → Nat → Int → World → Prop) (μ : Option Addr → Nat → Nat → Int → World → Nat),
    I none 0 0 0 w_2 ∧
    ∀ (a9 : Option Addr) (n9 : Nat) (c9 : Nat) (x21 : Int) (w_3 : World), I a9 n9 c9 x21 w_3 →
    br (decide (x21 < x2)) (
      withP p0 fun g26 o26 =>
      ∃ (mb28 : Option Nat), w_3.cell? ⟨g26, o26 + 1, none⟩ = some (.map mb28) ∧
      ∃ bs32_0 : List UInt8, bs32_0.length = 64 ∧
      ∃ b32_ok : Bool,
      (∃ r, MLk w_3 mb28 (IntKind.i64.wrap (x1 + x21)) r ∧ r.getD (.agg (List.replicate 64 (.int .u8 0)).toArray) = (.agg (bs32_0.map bV).toArray) ∧ r.isSome = b32_ok) ∧
      newO w_3 (.cells (List.replicate 64 (.int .u8 0)).toArray 64) fun g w_4 =>
      cond (Nat.beq (bs32_0.map bV).length 64) (cond (allOne (bs32_0.map bV)) (
        stO [] w_4 g 0 (bs32_0.map bV) fun w_5 =>
        br (!b32_ok) (
          withP p0 fun g38 o38 =>
          ∃ (a40 : Option Addr) (n40 : Nat) (c40 : Nat), w_5.cell? ⟨g38, o38, none⟩ = some (.slice a40 n40 c40) ∧
          withP a40 fun g44 o44 =>
          (0 : Int) ≤ IntKind.i64.wrap (x1 + x21) ∧ IntKind.i64.wrap (x1 + x21) < (((n40 : Nat) : Int) : Int) ∧
          ∃ bs45_0 : List UInt8, bs45_0.length = 64 ∧
          cellsAt w_5 g44 (o44 + (IntKind.i64.wrap (x1 + x21)).toNat * 64) (bs45_0.map bV) ∧
          cond (Nat.beq (bs45_0.map bV).length 64) (cond (allOne (bs45_0.map bV)) (
            stO [] w_5 g 0 (bs45_0.map bV) fun w_6 =>
            appO Try.prog [] w_6 5 1 1 34 a9 n9 c9 (.slice (some ⟨g, 0, none⟩) 64 64) fun m48_2 a48_2 c48_2 w_10 =>
            I a48_2 (n9 + m48_2) c48_2 (IntKind.i64.wrap (x21 + 1)) w_10 ∧ μ a48_2 (n9 + m48_2) c48_2 (IntKind.i64.wrap (x21 + 1)) w_10 < μ a9 n9 c9 x21 w_3
          ) False) False
        ) (
          appO Try.prog [] w_5 5 1 1 34 a9 n9 c9 (.slice (some ⟨g, 0, none⟩) 64 64) fun m48_3 a48_3 c48_3 w_11 =>
          I a48_3 (n9 + m48_3) c48_3 (IntKind.i64.wrap (x21 + 1)) w_11 ∧ μ a48_3 (n9 + m48_3) c48_3 (IntKind.i64.wrap (x21 + 1)) w_11 < μ a9 n9 c9 x21 w_3
        )
      ) False) False
    ) (
      K (.tuple #[.slice a9 n9 c9, .int .i64 0]) w_3
    )
  )
def dread_notes : Notes := ⟨[], [(6, ⟨[(9, .lf (.slice)), (21, .lf (.int .i64))], [], [22, 23, 10, 25, 26, 27, 28, 29, 30, 31, 32, 24, 33, 34, 11, 12, 35, 36, 37, 38, 39, 40, 41, 42, 43, 44, 45, 46, 47, 48, 9, 49, 21], []⟩)], []⟩
theorem dread_calls (p0 : Option Addr) (x1 : Int) (x2 : Int) (w : World) (K : Value → World → Prop) (h : dread_vc p0 x1 x2 w K) : Calls Try.prog 9 #[.pointer p0, .int .i64 x1, .int .i64 x2] w fun e w' => ∃ v, e = .returned v ∧ K v w' :=
  calls_of_fvc envOk Try.func9 dread_notes [] [.pointer p0, .int .i64 x1, .int .i64 x2] w K (use_vc h (by as_aux_lemma => kernel_rfl))
/-- (*purser/disk.Disk).put -/
def dput_vc (p0 : Option Addr) (x1 : Int) (a2 : Option Addr) (n2 : Nat) (c2 : Nat) (w : World) (K : Value → World → Prop) : Prop :=
  drewO w fun w_2 =>
  withP p0 fun g8 o8 =>
  ∃ (mb10 : Option Nat), w_2.cell? ⟨g8, o8 + 1, none⟩ = some (.map mb10) ∧
  withP a2 fun g13 o13 =>
  64 ≤ n2 ∧
  ∃ bs14_0 : List UInt8, bs14_0.length = 64 ∧
  cellsAt w_2 g13 o13 (bs14_0.map bV) ∧
  mapO w_2 mb10 (fun m => putM m x1 (.agg (bs14_0.map bV).toArray)) fun w_3 =>
  withP p0 fun g16 o16 =>
  ∃ (x18 : Int), w_3.cell? ⟨g16, o16 + 2, none⟩ = some (.int .i64 x18) ∧
  br (decide (x18 > 0)) (
    withP p0 fun g21 o21 =>
    ∃ (x23 : Int), w_3.cell? ⟨g21, o21 + 2, none⟩ = some (.int .i64 x23) ∧
    withP p0 fun g25 o25 =>
    stO [] w_3 g25 (o25 + 2) [.int .i64 (IntKind.i64.wrap (x23 - 1))] fun w_4 =>
    withP p0 fun g29 o29 =>
    ∃ (x31 : Int), w_4.cell? ⟨g29, o29 + 2, none⟩ = some (.int .i64 x31) ∧
    withP p0 fun g33 o33 =>
    stO [] w_4 g33 (o33 + 3) [.bool (decide (x31 = 0))] fun w_5 =>
    withP p0 fun g36_2 o36_2 =>
    ∃ (b38_2 : Bool), w_5.cell? ⟨g36_2, o36_2 + 3, none⟩ = some (.bool b38_2) ∧
    K (.bool (!b38_2)) w_5
  ) (
    withP p0 fun g36_3 o36_3 =>
    ∃ (b38_3 : Bool), w_3.cell? ⟨g36_3, o36_3 + 3, none⟩ = some (.bool b38_3) ∧
    K (.bool (!b38_3)) w_3
  )
def dput_notes : Notes := ⟨[(1, ⟨[0, 1, 3, 7, 0, 0, 32, 96, 255], [8], [0, 1, 2, 3, 4, 5, 6, 7]⟩)], [], []⟩
theorem dput_calls (p0 : Option Addr) (x1 : Int) (a2 : Option Addr) (n2 : Nat) (c2 : Nat) (w : World) (K : Value → World → Prop) (h : dput_vc p0 x1 a2 n2 c2 w K) : Calls Try.prog 29 #[.pointer p0, .int .i64 x1, .slice a2 n2 c2] w fun e w' => ∃ v, e = .returned v ∧ K v w' :=
  calls_of_fvc envOk Try.func29 dput_notes [] [.pointer p0, .int .i64 x1, .slice a2 n2 c2] w K (use_vc h (by as_aux_lemma => kernel_rfl))
/-- (*purser/disk.Disk).Write -/
def dwrite_vc (p0 : Option Addr) (x1 : Int) (a2 : Option Addr) (n2 : Nat) (c2 : Nat) (w : World) (K : Value → World → Prop) : Prop :=
  (64 : Int) ≠ 0 ∧
  Calls Try.prog 25 #[.pointer p0, .int .i64 x1, .int .i64 (IntKind.i64.wrap (Int.tdiv ((n2 : Nat) : Int) 64))] w fun e w_2 => KeepG [] w w_2 ∧
  ∃ (x15 : Int),
  e = .returned (.int .i64 x15) ∧
  br (decide (x15 ≠ 0)) (
    K (.int .i64 x15) w_2
  ) (
    (64 : Int) ≠ 0 ∧
    br (decide ((Int.tmod ((n2 : Nat) : Int) 64) ≠ 0)) (
      K (.int .i64 1) w_2
    ) (
      Calls Try.prog 28 #[.slice a2 n2 c2, .int .i64 64] w_2 fun e_2 w_3 => KeepG [] w_2 w_3 ∧
      ∃ (v24 : Value),
      e_2 = .returned (v24) ∧
      Calls Try.prog 27 #[v24] w_3 fun e_3 w_4 => KeepG [] w_3 w_4 ∧
      ∃ (a25 : Option Addr) (n25 : Nat) (c25 : Nat),
      e_3 = .returned (.slice a25 n25 c25) ∧
      ∃ (I : Int → World → Prop) (μ : Int → World → Nat),
      I 0 w_4 ∧
      ∀ (x27 : Int) (w_5 : World), I x27 w_5 →
      br (decide (x27 < ((n25 : Nat) : Int))) (
        withP a25 fun g30 o30 =>
        (0 : Int) ≤ x27 ∧ x27 < (((n25 : Nat) : Int) : Int) ∧
        ∃ (a31 : Option Addr) (n31 : Nat) (c31 : Nat), w_5.cell? ⟨g30, o30 + x27.toNat * 1, none⟩ = some (.slice a31 n31 c31) ∧
        Calls Try.prog 29 #[.pointer p0, .int .i64 (IntKind.i64.wrap (x1 + x27)), .slice a31 n31 c31] w_5 fun e_4 w_6 => KeepG [] w_5 w_6 ∧
        ∃ (b37 : Bool),
        e_4 = .returned (.bool b37) ∧
        br (!b37) (
          K (.int .i64 12) w_6
        ) (
          I (IntKind.i64.wrap (x27 + 1)) w_6 ∧ μ (IntKind.i64.wrap (x27 + 1)) w_6 < μ x27 w_5
        )
      ) (
        K (.int .i64 0) w_5
      )
    )
  )
def dwrite_notes : Notes := ⟨[], [(7, ⟨[(27, .lf (.int .i64))], [], [28, 29, 30, 31, 8, 9, 32, 33, 34, 35, 36, 37, 38, 6, 39, 27], []⟩)], []⟩
theorem dwrite_calls (p0 : Option Addr) (x1 : Int) (a2 : Option Addr) (n2 : Nat) (c2 : Nat) (w : World) (K : Value → World → Prop) (h : dwrite_vc p0 x1 a2 n2 c2 w K) : Calls Try.prog 12 #[.pointer p0, .int .i64 x1, .slice a2 n2 c2] w fun e w' => ∃ v, e = .returned v ∧ K v w' :=
  calls_of_fvc envOk Try.func12 dwrite_notes [] [.pointer p0, .int .i64 x1, .slice a2 n2 c2] w K (use_vc h (by as_aux_lemma => kernel_rfl))
/-- (*purser/disk.Disk).Sync -/
def dsync_vc (p0 : Option Addr) (w : World) (K : Value → World → Prop) : Prop :=
  Calls Try.prog 25 #[.pointer p0, .int .i64 0, .int .i64 0] w fun e w_2 => KeepG [] w w_2 ∧
  ∃ (x7 : Int),
  e = .returned (.int .i64 x7) ∧
  br (decide (x7 ≠ 0)) (
    K (.int .i64 x7) w_2
  ) (
    withP p0 fun g12 o12 =>
    ∃ (mb14 : Option Nat), w_2.cell? ⟨g12, o12 + 1, none⟩ = some (.map mb14) ∧
    rngO w_2 mb14 fun g w_3 =>
    ∃ (I : World → Prop) (μ : World → Nat),
    I w_3 ∧
    ∀ (w_4 : World), I w_4 →
    nxtO w_4 g (fun w_5 =>
      withP p0 fun g29 o29 =>
      ∃ (mb31 : Option Nat), w_5.cell? ⟨g29, o29 + 1, none⟩ = some (.map mb31) ∧
      ((mb31 = none ∧
        K (.int .i64 0) w_5
      ) ∨ (mapO w_5 mb31 (fun _ => []) fun w_6 =>
        K (.int .i64 0) w_6
      ))
    ) fun x16_k v16 w_7 =>
    ∃ bs18_0 : List UInt8, bs18_0.length = 64 ∧
    ∃ x18_k : Int,
    IterLast w_7 g x18_k (.agg (bs18_0.map bV).toArray) ∧
    newO w_7 (.cells (List.replicate 64 (.int .u8 0)).toArray 64) fun g_2 w_8 =>
    cond (Nat.beq (bs18_0.map bV).length 64) (cond (allOne (bs18_0.map bV)) (
      stO [] w_8 g_2 0 (bs18_0.map bV) fun w_9 =>
      drewO w_9 fun w_10 =>
      withP p0 fun g22 o22 =>
      ∃ (a24 : Option Addr) (n24 : Nat) (c24 : Nat), w_10.cell? ⟨g22, o22, none⟩ = some (.slice a24 n24 c24) ∧
      ∃ bs26_0 : List UInt8, bs26_0.length = 64 ∧
      cellsAt w_10 g_2 0 (bs26_0.map bV) ∧
      withP a24 fun g27 o27 =>
      (0 : Int) ≤ x18_k ∧ x18_k < (((n24 : Nat) : Int) : Int) ∧
      cond (Nat.beq (bs26_0.map bV).length 64) (cond (allOne (bs26_0.map bV)) (
        stO [] w_10 g27 (o27 + x18_k.toNat * 64) (bs26_0.map bV) fun w_11 =>
        I w_11 ∧ μ w_11 < μ w_4
      ) False) False
    ) False) False
  )
def dsync_notes : Notes := ⟨[(7, ⟨[0, 1, 3, 7, 0, 0, 63, 127], [7], [0, 1, 2, 3, 4, 5, 6]⟩)], [(5, ⟨[], [], [16, 17, 18, 19, 20, 5, 4, 21, 22, 23, 24, 25, 26, 27], []⟩)], []⟩
theorem dsync_calls (p0 : Option Addr) (w : World) (K : Value → World → Prop) (h : dsync_vc p0 w K) : Calls Try.prog 14 #[.pointer p0] w fun e w' => ∃ v, e = .returned v ∧ K v w' :=
  calls_of_fvc envOk Try.func14 dsync_notes [] [.pointer p0] w K (use_vc h (by as_aux_lemma => kernel_rfl))
/-- (*purser/disk.Disk).Dirty -/
def ddirty_vc (p0 : Option Addr) (w : World) (K : Value → World → Prop) : Prop :=
  br (Option.isNone p0) (
    K (.slice none 0 0) w
  ) (
    withP p0 fun g6 o6 =>
    ∃ (mb8 : Option Nat), w.cell? ⟨g6, o6 + 1, none⟩ = some (.map mb8) ∧
    Calls Try.prog 32 #[.map mb8] w fun e w_2 => KeepG [] w w_2 ∧
    ∃ (v9 : Value),
    e = .returned (v9) ∧
    Calls Try.prog 31 #[v9] w_2 fun e_2 w_3 => KeepG [] w_2 w_3 ∧
    ∃ (a10 : Option Addr) (n10 : Nat) (c10 : Nat),
    e_2 = .returned (.slice a10 n10 c10) ∧
    K (.slice a10 n10 c10) w_3
  )
def ddirty_notes : Notes := ⟨[], [], []⟩
theorem ddirty_calls (p0 : Option Addr) (w : World) (K : Value → World → Prop) (h : ddirty_vc p0 w K) : Calls Try.prog 21 #[.pointer p0] w fun e w' => ∃ v, e = .returned v ∧ K v w' :=
  calls_of_fvc envOk Try.func21 ddirty_notes [] [.pointer p0] w K (use_vc h (by as_aux_lemma => kernel_rfl))
/-- (*purser/disk.Disk).Cut -/
def dcut_vc (p0 : Option Addr) (x1 : Int) (w : World) (K : Value → World → Prop) : Prop :=
  br (!(Option.isNone p0)) (
    withP p0 fun g9 o9 =>
    stO [] w g9 (o9 + 2) [.int .i64 (max x1 0)] fun w_2 =>
    K (.tuple #[]) w_2
  ) (
    K (.tuple #[]) w
  )
def dcut_notes : Notes := ⟨[], [], []⟩
theorem dcut_calls (p0 : Option Addr) (x1 : Int) (w : World) (K : Value → World → Prop) (h : dcut_vc p0 x1 w K) : Calls Try.prog 16 #[.pointer p0, .int .i64 x1] w fun e w' => ∃ v, e = .returned v ∧ K v w' :=
  calls_of_fvc envOk Try.func16 dcut_notes [] [.pointer p0, .int .i64 x1] w K (use_vc h (by as_aux_lemma => kernel_rfl))
/-- (*purser/disk.Disk).Off -/
def doff_vc (p0 : Option Addr) (w : World) (K : Value → World → Prop) : Prop :=
  br (Option.isNone p0) (
    K (.bool true) w
  ) (
    withP p0 fun g7 o7 =>
    ∃ (b9 : Bool), w.cell? ⟨g7, o7 + 3, none⟩ = some (.bool b9) ∧
    K (.bool b9) w
  )
def doff_notes : Notes := ⟨[], [], []⟩
theorem doff_calls (p0 : Option Addr) (w : World) (K : Value → World → Prop) (h : doff_vc p0 w K) : Calls Try.prog 19 #[.pointer p0] w fun e w' => ∃ v, e = .returned v ∧ K v w' :=
  calls_of_fvc envOk Try.func19 doff_notes [] [.pointer p0] w K (use_vc h (by as_aux_lemma => kernel_rfl))
/-- (*purser/disk.Disk).Crash -/
def dcrash_vc (p0 : Option Addr) (a1 : Option Addr) (n1 : Nat) (c1 : Nat) (w : World) (K : Value → World → Prop) : Prop :=
  br (Option.isNone p0) (
    K (.tuple #[]) w
  ) (
    Calls Try.prog 21 #[.pointer p0] w fun e w_2 => KeepG [] w w_2 ∧
    ∃ (a9 : Option Addr) (n9 : Nat) (c9 : Nat),
    e = .returned (.slice a9 n9 c9) ∧
    ∃ (I : Int → World → Prop) (μ : Int → World → Nat),
    I 0 w_2 ∧
    ∀ (x11 : Int) (w_3 : World), I x11 w_3 →
    br (decide (x11 < ((n9 : Nat) : Int))) (
      withP a9 fun g14 o14 =>
      (0 : Int) ≤ x11 ∧ x11 < (((n9 : Nat) : Int) : Int) ∧
      ∃ (x15 : Int), w_3.cell? ⟨g14, o14 + x11.toNat * 1, none⟩ = some (.int .i64 x15) ∧
      br (decide (x11 < ((n1 : Nat) : Int))) (
        withP a1 fun g23 o23 =>
        (0 : Int) ≤ x11 ∧ x11 < (((n1 : Nat) : Int) : Int) ∧
        ∃ (b24 : Bool), w_3.cell? ⟨g23, o23 + x11.toNat * 1, none⟩ = some (.bool b24) ∧
        br b24 (
          drewO w_3 fun w_4 =>
          withP p0 fun g27 o27 =>
          ∃ (a29 : Option Addr) (n29 : Nat) (c29 : Nat), w_4.cell? ⟨g27, o27, none⟩ = some (.slice a29 n29 c29) ∧
          withP p0 fun g32 o32 =>
          ∃ (mb34 : Option Nat), w_4.cell? ⟨g32, o32 + 1, none⟩ = some (.map mb34) ∧
          ∃ bs36_0 : List UInt8, bs36_0.length = 64 ∧
          (∃ r, MLk w_4 mb34 x15 r ∧ r.getD (.agg (List.replicate 64 (.int .u8 0)).toArray) = (.agg (bs36_0.map bV).toArray)) ∧
          withP a29 fun g37 o37 =>
          (0 : Int) ≤ x15 ∧ x15 < (((n29 : Nat) : Int) : Int) ∧
          cond (Nat.beq (bs36_0.map bV).length 64) (cond (allOne (bs36_0.map bV)) (
            stO [] w_4 g37 (o37 + x15.toNat * 64) (bs36_0.map bV) fun w_5 =>
            I (IntKind.i64.wrap (x11 + 1)) w_5 ∧ μ (IntKind.i64.wrap (x11 + 1)) w_5 < μ x11 w_3
          ) False) False
        ) (
          I (IntKind.i64.wrap (x11 + 1)) w_3 ∧ μ (IntKind.i64.wrap (x11 + 1)) w_3 < μ x11 w_3
        )
      ) (
        I (IntKind.i64.wrap (x11 + 1)) w_3 ∧ μ (IntKind.i64.wrap (x11 + 1)) w_3 < μ x11 w_3
      )
    ) (
      withP p0 fun g40 o40 =>
      ∃ (mb42 : Option Nat), w_3.cell? ⟨g40, o40 + 1, none⟩ = some (.map mb42) ∧
      ((mb42 = none ∧
        withP p0 fun g45 o45 =>
        stO [] w_3 g45 (o45 + 2) [.int .i64 0] fun w_7 =>
        withP p0 fun g47 o47 =>
        stO [] w_7 g47 (o47 + 3) [.bool false] fun w_8 =>
        K (.tuple #[]) w_8
      ) ∨ (mapO w_3 mb42 (fun _ => []) fun w_9 =>
        withP p0 fun g45_2 o45_2 =>
        stO [] w_9 g45_2 (o45_2 + 2) [.int .i64 0] fun w_10 =>
        withP p0 fun g47_2 o47_2 =>
        stO [] w_10 g47_2 (o47_2 + 3) [.bool false] fun w_11 =>
        K (.tuple #[]) w_11
      ))
    )
  )
def dcrash_notes : Notes := ⟨[(5, ⟨[0, 1, 3, 7, 0, 0, 32, 96, 224, 0, 992, 2047, 4095], [12], [0, 1, 2, 3, 4, 5, 6, 7, 8, 9, 10, 11]⟩)], [(2, ⟨[(11, .lf (.int .i64))], [], [12, 13, 14, 15, 4, 5, 16, 17, 18, 19, 20, 21, 22, 23, 24, 25, 26, 27, 28, 29, 30, 31, 32, 33, 34, 35, 36, 37, 38, 11], []⟩)], []⟩
theorem dcrash_calls (p0 : Option Addr) (a1 : Option Addr) (n1 : Nat) (c1 : Nat) (w : World) (K : Value → World → Prop) (h : dcrash_vc p0 a1 n1 c1 w K) : Calls Try.prog 17 #[.pointer p0, .slice a1 n1 c1] w fun e w' => ∃ v, e = .returned v ∧ K v w' :=
  calls_of_fvc envOk Try.func17 dcrash_notes [] [.pointer p0, .slice a1 n1 c1] w K (use_vc h (by as_aux_lemma => kernel_rfl))
end GDk
end Go.Proofs.Ytbolfgafiejkaaa
end
section
/- Arguments as the walks want them: bytes, rows of bytes. No program in sight. -/
namespace Go.Proofs.Ytbolfgafiejkaaa
open Go.RowKit Go.ChangeShapes
variable {H : Type} {enc : TypeId × Value → H} {P : Program} {W : World}
theorem addr_plain {w : World} {a : Addr} {v : Value} (h : w.cell? (a.add 0) = some v) : a = ⟨a.block, a.off, none⟩ := by
  have h0 : a.add 0 = a := by unfold Addr.add; rfl
  rw [h0] at h
  unfold World.cell? at h
  split at h
  · split at h
    · cases h
    · rename_i hs
      obtain ⟨b, o, s⟩ := a
      cases s with
      | none => rfl
      | some x => simp at hs
  · cases h
def ofI (zs : List Int) : List UInt8 := zs.map fun z => UInt8.ofNat z.toNat
theorem bV_ofI {z : Int} (h : (Lit.int .u8 z).wf = true) : bV (UInt8.ofNat z.toNat) = .int .u8 z := by
  have hz : 0 ≤ z ∧ z < 256 := by
    have e1 : IntKind.u8.min = 0 := rfl
    have e2 : IntKind.u8.max = 255 := rfl
    simp [Lit.wf] at h
    omega
  unfold bV
  rw [UInt8.toNat_ofNat', Nat.mod_eq_of_lt (by omega)]
  congr 1
  omega
theorem row_of_cells {a : Addr} {zs : List Int} {len : Nat} (hl : len ≤ zs.length) (hc : ∀ i, i < zs.length → W.cell? (a.add i) = some (.int .u8 (zs.getD i 0))) (hw : ∀ n ∈ zs, (Lit.int .u8 n).wf = true) : (ofI (zs.take len)).length = len ∧ RowAt W (some a) ((ofI (zs.take len)).map bV) := by
  refine ⟨by simp [ofI]; omega, ?_⟩
  cases hz : zs with
  | nil => exact .inl (by simp [ofI])
  | cons z0 r =>
    rw [← hz]
    have h0 := hc 0 (by rw [hz]; simp)
    have ha := addr_plain h0
    refine .inr ⟨a.block, a.off, by rw [← ha], fun i v hv => ?_⟩
    rw [List.getElem?_map, ofI, List.getElem?_map, List.getElem?_take] at hv
    split at hv
    · rcases hq : zs[i]? with _ | z
      · rw [hq] at hv; cases hv
      · rw [hq] at hv
        simp only [Option.map_some, Option.some.injEq] at hv
        have hi : i < zs.length := (List.getElem?_eq_some_iff.1 hq).1
        have h1 := hc i hi
        rw [ha, Addr.add_lit, List.getD_eq_getElem?_getD, hq] at h1
        rw [← hv, bV_ofI (hw z (List.mem_of_getElem? hq))]
        exact h1
    · cases hv
theorem open_bytes {t e : TypeId} {v : Value} {d : DataW H} {p : List MemPlace} (ht : P.underlying t = some (.slice e)) (he : P.underlying e = some (.int .u8)) (hc : P.cellsOf e = 1)
    (hv : ∃ a l c, v = .slice a l c) (h : DataW.Trod enc P W 0 (fun _ => true) true t v d p) : ∃ (bs : List UInt8) (a : Option Addr) (c : Nat), v = .slice a bs.length c ∧ bs.length ≤ c ∧ c ≤ maxLen ∧ RowAt W a (bs.map bV) := by
  obtain ⟨a, l, c, rfl⟩ := hv
  obtain ⟨fuel, hf⟩ := h
  rcases open_ints ht he hc hf with ⟨hcs, _⟩ | ⟨x, l', c', zs, hcs, _, hl, hm, hz, _, hcell, hwz⟩
  · simp [Value.cells] at hcs
    obtain ⟨rfl, rfl, rfl⟩ := hcs
    exact ⟨[], none, 0, rfl, Nat.le_refl _, by decide, .inl rfl⟩
  · simp [Value.cells] at hcs
    obtain ⟨rfl, rfl, rfl⟩ := hcs
    simp only [if_true] at hz
    obtain ⟨h1, h2⟩ := row_of_cells (len := l) (by omega) hcell hwz
    exact ⟨ofI (zs.take l), some x, c, by rw [h1], by rw [h1]; exact hl, hm, h2⟩
theorem open_parts {t e q : TypeId} {v : Value} {d : DataW H} {p : List MemPlace} (ht : P.underlying t = some (.slice e)) (he : P.underlying e = some (.slice q)) (hq : P.underlying q = some (.int .u8)) (ce : P.cellsOf e = 1) (cq : P.cellsOf q = 1)
    (hv : ∃ a l c, v = .slice a l c) (h : DataW.Trod enc P W 0 (fun _ => true) true t v d p) : ∃ (ps : List (List UInt8)) (a : Option Addr) (c : Nat), v = .slice a ps.length c ∧ ps.length ≤ c ∧ c ≤ maxLen ∧ PartsAt W a ps := by
  obtain ⟨a, l, c, rfl⟩ := hv
  obtain ⟨fuel, hf⟩ := h
  rcases Deep.open_int_rows ht he hq ce cq hf with ⟨hcs, _⟩ | ⟨x, l', c', A, L, C, Z, hcs, _, hl, hm, _, hrow⟩
  · simp [Value.cells] at hcs
    obtain ⟨rfl, rfl, rfl⟩ := hcs
    exact ⟨[], none, 0, rfl, Nat.le_refl _, by decide, .nil⟩
  · simp [Value.cells] at hcs
    obtain ⟨rfl, rfl, rfl⟩ := hcs
    have each : ∀ r, r < c → (ofI ((Z r).take (L r))).length = L r ∧ RowAt W (A r) ((ofI ((Z r).take (L r))).map bV) := fun r hr => by
      obtain ⟨_, h2, _, h4, h5, h6, h7⟩ := hrow r hr
      cases hA : A r with
      | none =>
        have hC := h6 hA
        have hL : L r = 0 := by omega
        rw [hL]
        exact ⟨by simp [ofI], .inl (by simp [ofI])⟩
      | some a' => exact row_of_cells (by omega) (fun i hi => (h7 a' hA).2 i (by omega)) h5
    let ps : List (List UInt8) := (List.range l).map fun r => ofI ((Z r).take (L r))
    let vs : List (Option Addr × Nat) := (List.range l).map fun r => (A r, C r)
    have hps : ps.length = l := by simp [ps]
    refine ⟨ps, some x, c, by rw [hps], by rw [hps]; exact hl, hm, vs, ?_, by simp [ps, vs], ?_⟩
    · by_cases h0 : l = 0
      · exact .inl (by rw [List.map_eq_nil_iff]; simp [ps, vs, h0])
      · have ha := addr_plain (hrow 0 (by omega)).1
        refine .inr ⟨x.block, x.off, by rw [← ha], fun i v hv => ?_⟩
        rw [List.getElem?_map] at hv
        rcases hz : (vs.zip ps)[i]? with _ | ⟨v1, p1⟩
        · rw [hz] at hv; cases hv
        · rw [hz] at hv
          simp only [Option.map_some, Option.some.injEq] at hv
          rw [List.getElem?_zip_eq_some] at hz
          obtain ⟨z1, z2⟩ := hz
          have hi : i < l := by
            have := (List.getElem?_eq_some_iff.1 z2).1
            omega
          simp only [vs, ps, List.getElem?_map, List.getElem?_range hi, Option.map_some, Option.some.injEq] at z1 z2
          rw [← hv, ← z1, ← z2, (each i (by omega)).1]
          have h1 := (hrow i (by omega)).1
          rw [ha, Addr.add_lit] at h1
          exact h1
    · intro v1 p1 hm1
      obtain ⟨i, hi⟩ := List.getElem?_of_mem hm1
      rw [List.getElem?_zip_eq_some] at hi
      obtain ⟨z1, z2⟩ := hi
      have hi : i < l := by
        have := (List.getElem?_eq_some_iff.1 z2).1
        omega
      simp only [vs, ps, List.getElem?_map, List.getElem?_range hi, Option.map_some, Option.some.injEq] at z1 z2
      obtain ⟨_, h2, h3, _⟩ := hrow i (by omega)
      rw [← z1, ← z2, (each i (by omega)).1]
      exact ⟨(each i (by omega)).2, h2, Nat.le_trans h2 h3⟩
theorem int_nat {z : Int} (h : 0 ≤ z) : ∃ n : Nat, z = (n : Int) := ⟨z.toNat, by omega⟩
theorem u32_nat {z : Int} (h : (Lit.int .u32 z).wf = true) : ∃ n : Nat, z = (n : Int) ∧ n < 4294967296 := by
  have hz : 0 ≤ z ∧ z < 4294967296 := by
    have e1 : IntKind.u32.min = 0 := rfl
    have e2 : IntKind.u32.max = 4294967295 := rfl
    simp [Lit.wf] at h
    omega
  exact ⟨z.toNat, by omega, by omega⟩
theorem i64_range {z : Int} (h : (Lit.int .i64 z).wf = true) : -9223372036854775808 ≤ z ∧ z ≤ 9223372036854775807 := by
  have e1 : IntKind.i64.min = -9223372036854775808 := rfl
  have e2 : IntKind.i64.max = 9223372036854775807 := rfl
  simp [Lit.wf] at h
  omega
end Go.Proofs.Ytbolfgafiejkaaa
end
section
/- Data that came in, opened by their shape. No program in sight. -/
namespace Go.Proofs.Ytbolfgafiejkaaa
open Go.RowKit Go.WideShapes Go.ChangeShapes
/-- What a type looks like; a struct's fields one behind the other: offset, cells, shape. -/
inductive Sh where
  | int (k : IntKind)
  | bool
  | str
  | slice (e : Sh) (n : Nat)
  | arr (len : Nat) (e : Sh) (n : Nat)
  | agg (fs : Sh)
  | fnil
  | fcons (off n : Nat) (f r : Sh)
mutual
def fitsB (P : Program) : Sh → TypeId → Bool
  | .int k, t => match P.underlying t with | some (.int k') => k == k' | _ => false
  | .bool, t => match P.underlying t with | some .bool => true | _ => false
  | .str, t => match P.underlying t with | some .string => true | _ => false
  | .slice e n, t => match P.underlying t with | some (.slice et) => P.cellsOf et == n && fitsB P e et | _ => false
  | .arr len e n, t => match P.underlying t with | some (.array l et) => l == len && P.cellsOf et == n && fitsB P e et | _ => false
  | .agg fs, t => match P.underlying t with | some (.struct fl) => fitsF P fs fl 0 | _ => false
  | .fnil, _ => false
  | .fcons _ _ _ _, _ => false
def fitsF (P : Program) : Sh → Array Field → Nat → Bool
  | .fnil, _, _ => true
  | .fcons off n f r, fl, i => (match fl[i]? with | some fd => fd.offset == off && P.cellsOf fd.type == n && fitsB P f fd.type | none => false) && fitsF P r fl (i + 1)
  | _, _, _ => false
end
/-- What the cells of a shape hold, in a world. -/
def Sh.Has (w : World) : Sh → List Value → Prop
  | .int k, cs => ∃ z, cs = [.int k z] ∧ (Lit.int k z).wf = true
  | .bool, cs => ∃ b, cs = [.bool b]
  | .str, cs => ∃ s : ByteArray, cs = [.string s] ∧ s.size ≤ maxLen
  | .slice e n, cs => cs = [.slice none 0 0] ∨ ∃ a len cap, cs = [.slice (some a) len cap] ∧ len ≤ cap ∧ cap ≤ maxLen ∧ ∀ i, i < len → ∃ cs', (cs'.length = n ∧ ∀ j, j < n → w.cell? (a.add (i * n + j)) = cs'[j]?) ∧ e.Has w cs'
  | .arr len e n, cs => ∀ i, i < len → e.Has w ((cs.drop (i * n)).take n)
  | .agg fs, cs => fs.Has w cs
  | .fnil, _ => True
  | .fcons off n f r, cs => f.Has w ((cs.drop off).take n) ∧ r.Has w cs
section
variable {H : Type} {enc : TypeId × Value → H} {P : Program} {W : World}
mutual
theorem has_of (sh : Sh) : ∀ (t : TypeId) (fuel : Nat) (cs : List Value) (x : DataW H × List MemPlace), fitsB P sh t = true → DataW.trod enc P W 0 (fun _ => true) true fuel t cs = some x → sh.Has W cs := by
  intro t fuel cs x hf h
  cases sh with
  | int k =>
    simp only [fitsB] at hf
    split at hf
    · rename_i k' hu
      have : k = k' := eq_of_beq hf
      subst this
      obtain ⟨n, h1, _, h2⟩ := DataW.trod_int hu h
      exact ⟨n, h1, h2⟩
    · cases hf
  | bool =>
    simp only [fitsB] at hf
    split at hf
    · rename_i hu
      obtain ⟨b, h1, _⟩ := DataW.trod_bool hu h
      exact ⟨b, h1⟩
    · cases hf
  | str =>
    simp only [fitsB] at hf
    split at hf
    · rename_i hu
      obtain ⟨s, h1, _, h2⟩ := DataW.trod_string hu h
      exact ⟨s, h1, h2⟩
    · cases hf
  | slice e n =>
    simp only [fitsB] at hf
    split at hf
    · rename_i et hu
      rw [Bool.and_eq_true] at hf
      have hn : P.cellsOf et = n := eq_of_beq hf.1
      rcases Deep.open_slice hu h with ⟨h1, _⟩ | ⟨a, len, cap, m, nf, D, Pl, h1, _, hl, hm, hmm, _, hall⟩
      · exact .inl h1
      · refine .inr ⟨a, len, cap, h1, hl, hm, fun i hi => ?_⟩
        simp only [if_true] at hmm
        obtain ⟨cs', hc, ht⟩ := hall i (by omega)
        rw [hn] at hc
        obtain ⟨_, c1, c2⟩ := World.cells?_some hc
        refine ⟨cs', ⟨c1, fun j hj => ?_⟩, has_of e et _ _ _ hf.2 ht⟩
        rw [← c2 j hj, Addr.add_add]
    · cases hf
  | arr len e n =>
    simp only [fitsB] at hf
    split at hf
    · rename_i l et hu
      rw [Bool.and_eq_true, Bool.and_eq_true] at hf
      have hl : l = len := eq_of_beq hf.1.1
      have hn : P.cellsOf et = n := eq_of_beq hf.1.2
      subst hl
      obtain ⟨xs, m, _, _, _, hxl, hall⟩ := DataW.trod_array hu h
      intro i hi
      have := hall i hi
      rw [hn] at this
      rw [List.getElem?_eq_getElem (by omega)] at this
      exact has_of e et _ _ _ hf.2 this
    · cases hf
  | agg fs =>
    simp only [fitsB] at hf
    split at hf
    · rename_i fl hu
      obtain ⟨xs, n, _, _, _, hxl, hall⟩ := DataW.trod_struct hu h
      exact hasF_of fs fl 0 n cs xs hf hxl hall
    · cases hf
  | fnil => simp [fitsB] at hf
  | fcons off n f r => simp [fitsB] at hf
theorem hasF_of (sh : Sh) : ∀ (fl : Array Field) (i n : Nat) (cs : List Value) (xs : List (DataW H × List MemPlace)), fitsF P sh fl i = true → xs.length = fl.size →
    (∀ (i : Nat) (f : Field), fl[i]? = some f → DataW.trod enc P W 0 (fun _ => true) true n f.type ((cs.drop f.offset).take (P.cellsOf f.type)) = xs[i]?) → sh.Has W cs := by
  intro fl i n cs xs hf hl hall
  cases sh with
  | fnil => trivial
  | fcons off m f r =>
    simp only [fitsF, Bool.and_eq_true] at hf
    obtain ⟨h1, h2⟩ := hf
    refine ⟨?_, hasF_of r fl (i + 1) n cs xs h2 hl hall⟩
    split at h1
    · rename_i fd hfd
      rw [Bool.and_eq_true, Bool.and_eq_true] at h1
      have ho : fd.offset = off := eq_of_beq h1.1.1
      have hm : P.cellsOf fd.type = m := eq_of_beq h1.1.2
      have ht := hall i fd hfd
      have hi : i < xs.length := by rw [hl]; exact (Array.getElem?_eq_some_iff.1 hfd).1
      rw [List.getElem?_eq_getElem hi, ho, hm] at ht
      exact has_of f fd.type _ _ _ h1.2 ht
    · cases h1
  | int k => simp [fitsF] at hf
  | bool => simp [fitsF] at hf
  | str => simp [fitsF] at hf
  | slice e n => simp [fitsF] at hf
  | arr l e n => simp [fitsF] at hf
  | agg fs => simp [fitsF] at hf
end
theorem open_sh {sh : Sh} {t : TypeId} {v : Value} {d : DataW H} {p : List MemPlace} (hf : fitsB P sh t = true) (h : DataW.Trod enc P W 0 (fun _ => true) true t v d p) : sh.Has W v.cells.toList := by
  obtain ⟨fuel, hf'⟩ := h
  exact has_of sh t fuel _ _ hf hf'
end
theorem exists_list {α : Type} {p : Nat → α → Prop} : ∀ (n : Nat), (∀ i, i < n → ∃ x, p i x) → ∃ l : List α, l.length = n ∧ ∀ i x, l[i]? = some x → p i x := by
  intro n
  induction n with
  | zero => intro _; exact ⟨[], rfl, fun i x h => by cases h⟩
  | succ n ih =>
    intro h
    obtain ⟨l, hl, hp⟩ := ih fun i hi => h i (by omega)
    obtain ⟨x, hx⟩ := h n (by omega)
    refine ⟨l ++ [x], by simp [hl], fun i y hy => ?_⟩
    by_cases hi : i < l.length
    · rw [List.getElem?_append_left hi] at hy; exact hp i y hy
    · rw [List.getElem?_append_right (by omega)] at hy
      have h0 : i - l.length = 0 := by
        have := (List.getElem?_eq_some_iff.1 hy).1; simp at this; omega
      rw [h0] at hy
      simp at hy
      subst hy
      rw [show i = n by omega]; exact hx
/-- Where a slice's elements lie. -/
theorem slice_addr {w : World} {a : Addr} {v : Value} (h : w.cell? (a.add 0) = some v) : a = ⟨a.block, a.off, none⟩ := addr_plain h
def shBytes : Sh := .slice (.int .u8) 1
theorem has_bytes {w : World} {cs : List Value} (h : shBytes.Has w cs) : ∃ (bs : List UInt8) (a : Option Addr) (c : Nat), cs = [.slice a bs.length c] ∧ bs.length ≤ c ∧ c ≤ maxLen ∧ RowAt w a (bs.map bV) := by
  rcases h with rfl | ⟨a, len, cap, rfl, hl, hm, hall⟩
  · exact ⟨[], none, 0, rfl, Nat.le_refl _, by decide, .inl rfl⟩
  · obtain ⟨zs, hz, hp⟩ := exists_list (p := fun i z => w.cell? (a.add i) = some (.int .u8 z) ∧ (Lit.int .u8 z).wf = true) len (fun i hi => by
      obtain ⟨cs', ⟨h1, h2⟩, z, rfl, hw⟩ := hall i hi
      have := h2 0 (by omega)
      simp at this
      exact ⟨z, this, hw⟩)
    obtain ⟨h1, h2⟩ := row_of_cells (W := w) (a := a) (zs := zs) (len := len) (by omega) (fun i hi => by
      have := (hp i zs[i] (List.getElem?_eq_getElem hi)).1
      rw [this]; congr 2; simp [List.getD, List.getElem?_eq_getElem hi]) (fun n hn => by
      obtain ⟨i, hi⟩ := List.getElem?_of_mem hn
      exact (hp i n hi).2)
    exact ⟨ofI (zs.take len), some a, cap, by rw [h1], by rw [h1]; exact hl, hm, h2⟩
theorem has_int {w : World} {k : IntKind} {cs : List Value} (h : (Sh.int k).Has w cs) : ∃ z, cs = [.int k z] ∧ (Lit.int k z).wf = true := h
end Go.Proofs.Ytbolfgafiejkaaa
end
section
/- Small words for using printed conditions. No program in sight. -/
namespace Go.Proofs.Ytbolfgafiejkaaa
open Go.RowKit
theorem keepG_nil (w w1 : World) : KeepG [] w w1 := fun _ g hg => by cases hg
theorem keepG_below {gs : List Nat} {w w1 : World} (h : Below w.heap.size w w1) : KeepG gs w w1 := fun hu g hg => h.block g (hu g hg)
theorem keepG_fr {gs L : List Nat} {w w1 : World} (h : Fr L w w1) (ha : ∀ g ∈ gs, g ∉ L) : KeepG gs w w1 := fun hu g hg => h.block g (hu g hg) (ha g hg)
/-- A call whose contract tells one value. -/
theorem wr64 {z : Int} (h1 : -9223372036854775808 ≤ z) (h2 : z ≤ 9223372036854775807) : IntKind.i64.wrap z = z := IntWalk.i64_in z ⟨h1, h2⟩
theorem wru64 {z : Int} (h1 : 0 ≤ z) (h2 : z ≤ 18446744073709551615) : IntKind.u64.wrap z = z := by rw [IntKind.wrap_u64]; omega
theorem wru8 {z : Int} (h1 : 0 ≤ z) (h2 : z ≤ 255) : IntKind.u8.wrap z = z := by rw [IntKind.wrap_u8]; omega
theorem u64_mod (z : Int) (k : Nat) (hk : 0 < k) : ∃ m : Nat, m < k ∧ Int.tmod (IntKind.u64.wrap z) (k : Int) = (m : Int) := by
  have h0 : 0 ≤ IntKind.u64.wrap z := by rw [IntKind.wrap_u64]; omega
  have h1 := Int.emod_nonneg (IntKind.u64.wrap z) (show (k : Int) ≠ 0 by omega)
  have h2 := Int.emod_lt_of_pos (IntKind.u64.wrap z) (show (0 : Int) < (k : Int) by omega)
  exact ⟨(IntKind.u64.wrap z % (k : Int)).toNat, by omega, by rw [Int.tmod_eq_emod_of_nonneg h0]; omega⟩
theorem br_t {b : Bool} {A B : Prop} (hb : b = true) (h : A) : br b A B := by rw [br_true hb]; exact h
theorem br_f {b : Bool} {A B : Prop} (hb : b = false) (h : B) : br b A B := by rw [br_false hb]; exact h
theorem br_y {p : Prop} [Decidable p] {A B : Prop} (hp : p) (h : A) : br (decide p) A B := br_t (decide_eq_true hp) h
theorem br_n {p : Prop} [Decidable p] {A B : Prop} (hp : ¬ p) (h : B) : br (decide p) A B := br_f (decide_eq_false hp) h
theorem br_not {b : Bool} {A B : Prop} (h : br b B A) : br (!b) A B := by cases b <;> exact h
/-- A new block. -/
theorem newO_mk {w : World} {o : Obj} {K : Nat → World → Prop} (h : K w.heap.size (w.alloc o)) : newO w o K := by rintro g w1 rfl rfl; exact h
theorem newO_in {w : World} {o : Obj} {K : Nat → World → Prop} (h : ∀ w1, w1.heap[w.heap.size]? = some o → Below w.heap.size w w1 → w1.heap.size = w.heap.size + 1 → K w.heap.size w1) : newO w o K := by
  rintro g w1 rfl rfl; exact h _ (al_new rfl) (Below_one o) (by simp)
theorem drewO_in {w : World} {K : World → Prop} (h : ∀ w1, Below w.heap.size w w1 → w1.heap = w.heap → K w1) : drewO w K := fun w1 h1 h2 => h w1 h2 h1
theorem cellsAt_row {w : World} {g : Nat} {cs : Array Value} {t : TypeId} {fr : Nat × Nat} (h : w.heap[g]? = some (.cells cs t fr)) {off : Nat} {vs : List Value} (hv : (cs.toList.drop off).take vs.length = vs) : cellsAt w g off vs :=
  cellsAt_of fun j v hj => by
    rw [cell_of_row _ _ _ _ _ _ h]
    rw [← hv, List.getElem?_take] at hj
    split at hj
    · rw [List.getElem?_drop] at hj; simpa using hj
    · cases hj
theorem row_of_block {w : World} {g : Nat} {bs : List UInt8} {t : TypeId} {fr : Nat × Nat} (h : w.heap[g]? = some (.cells (bs.map bV).toArray t fr)) : RowAt w (some ⟨g, 0, none⟩) (bs.map bV) := RowAt.ofWhole h
/-- A block's cells, as what is appended. -/
theorem src_block {P : Program} {W : World} {tx e' : TypeId} (hk : P.underlying tx = some (.slice e')) {g n c size : Nat} {cs : List Value} {t : TypeId} {fr : Nat × Nat} (h : W.heap[g]? = some (.cells cs.toArray t fr)) (hl : cs.length = n * size) (h1 : allOne cs = true) :
    Src P size tx (.slice (some ⟨g, 0, none⟩) n c) n cs W :=
  Src.ofSlice _ hk _ n c _ hl (fun j u hj => by
    rw [Addr.add_lit, Nat.zero_add, cell_of_row _ _ _ _ _ _ h]
    simpa using hj) (allOne_spec h1)
theorem own_cell {w : World} {b : Nat} {e : TypeId} {a : Option Addr} {n c : Nat} {xs : List Value} (h : Own w b e 1 (.slice a n c) n xs) {i : Nat} {v : Value} (hi : xs[i]? = some v) : ∃ g off, a = some ⟨g, off, none⟩ ∧ w.cell? ⟨g, off + i * 1, none⟩ = some v := by
  have hlt : i < xs.length := (List.getElem?_eq_some_iff.1 hi).1
  have hl := h.1
  rcases h.2 with ⟨h0, h1⟩ | ⟨g, off, cap, cur, hv, _⟩
  · omega
  · injection hv with h1 h2 h3
    subst h1
    exact ⟨g, off, rfl, by rw [Nat.mul_one]; exact h.cells g off _ rfl i v hi⟩
theorem Bk.there {w : World} {g : Nat} {cs : Array Value} {t : TypeId} (h : Bk w g cs t) {i n : Nat} (hi : i + n ≤ cs.size) : w.there g i n := fun j hj => by
  refine ⟨?_, h.frozen _⟩
  rw [h.cell]
  rw [Array.getElem?_eq_getElem (by omega)]
  rfl
theorem stO_bk {gs : List Nat} {w : World} {g i : Nat} {cs : Array Value} {t : TypeId} {v : Value} {K : World → Prop} (h : Bk w g cs t) (hi : i < cs.size) (hg : ∀ x ∈ gs, x ≠ g) (hk : ∀ w1, Bk w1 g (cs.setIfInBounds i v) t → Fr [g] w w1 → w1.heap.size = w.heap.size → K w1) : stO gs w g i [v] K :=
  ⟨hg, h.there (by simp; omega), fun w1 e => by
    subst e
    exact hk _ (h.setCell i v) ((Fr.refl [g] w).setCell (p := ⟨g, i, none⟩) (.inl (by simp)) v) (by simp [World.setCells, World.setCell])⟩
theorem stO_set {gs : List Nat} {w : World} {g i : Nat} {cs : Array Value} {t : TypeId} {v : Value} {K : World → Prop} (h : Bk w g cs t) (hi : i < cs.size) (hg : ∀ x ∈ gs, x ≠ g) (hk : K (w.setCell ⟨g, i, none⟩ v)) : stO gs w g i [v] K :=
  ⟨hg, h.there (by simp; omega), fun w1 e => by subst e; exact hk⟩
theorem sliceBase_cell {w : World} {b off c l s j : Nat} {v : Value} (hlt : l ≠ c) (h : w.cell? ⟨b, off + l * s + j, none⟩ = some v) : ∃ b' off', sliceBase (some ⟨b, off, none⟩) c l s = some ⟨b', off', none⟩ ∧ w.cell? ⟨b', off' + j, none⟩ = some v := by
  refine ⟨b, off + l * s, ?_, h⟩
  unfold sliceBase
  rw [if_neg (fun e => hlt e.symm)]
  simp [Addr.add_lit]
theorem own_empty {w : World} {g : Nat} {e : TypeId} (s : Nat) (h : w.heap[g]? = some (.cells #[] e (0, 0))) : Own w 0 e s (.slice (some ⟨g, 0, none⟩) 0 0) 0 [] :=
  ⟨by simp, .inr ⟨g, 0, 0, #[], rfl, Nat.zero_le _, h, Nat.le_refl _, Nat.zero_le _, by simp, by simp⟩⟩
theorem Own.store {w : World} {b : Nat} {e : TypeId} {a : Option Addr} {n c : Nat} {xs : List Value} (h : Own w b e 1 (.slice a n c) n xs) {i : Nat} (hi : i < n) {gs : List Nat} {v : Value} {K : World → Prop} (hgs : ∀ k, (Value.slice a n c).ownBlock = some k → ∀ x ∈ gs, x ≠ k)
    (hk : ∀ w1, Own w1 b e 1 (.slice a n c) n (xs.set i v) → Fr (Value.slice a n c).ownBlock.toList w w1 → w1.heap.size = w.heap.size → K w1) : ∃ g off, a = some ⟨g, off, none⟩ ∧ stO gs w g (off + i * 1) [v] K := by
  rcases h.2 with ⟨h0, h1⟩ | ⟨g, off, cap, cur, hv, hb, hg, hn, hm, hs, ht⟩
  · omega
  · injection hv with h1 h2 h3
    subst h1; subst h3
    have hB : Bk w g cur e := hg
    refine ⟨g, off, rfl, ?_⟩
    rw [Nat.mul_one]
    refine stO_bk hB (by omega) (fun x hx => hgs g rfl x hx) fun w1 hb1 hf hsz => ?_
    refine hk w1 ⟨by rw [List.length_set]; exact h.1, .inr ⟨g, off, c, _, rfl, hb, hb1, hn, hm, by simpa using hs, ?_⟩⟩ hf hsz
    rw [← ht, Array.toList_setIfInBounds, List.drop_set]
    rw [if_neg (by omega), show off + i - off = i by omega, List.take_set]
theorem Own.storeAt {w : World} {b : Nat} {e : TypeId} {g off n c : Nat} {xs : List Value} (h : Own w b e 1 (.slice (some ⟨g, off, none⟩) n c) n xs) {i : Nat} (hi : i < n) {gs : List Nat} {v : Value} {K : World → Prop} (hgs : ∀ x ∈ gs, x ≠ g)
    (hk : ∀ w1, Own w1 b e 1 (.slice (some ⟨g, off, none⟩) n c) n (xs.set i v) → Fr [g] w w1 → w1.heap.size = w.heap.size → K w1) : stO gs w g (off + i * 1) [v] K := by
  obtain ⟨g', off', he, hst⟩ := Own.store (K := K) (v := v) h hi (fun k hk x hx => by injection hk with hk; subst hk; exact hgs x hx) hk
  injection he with he
  injection he with e1 e2
  subst e1; subst e2
  exact hst
/-- One byte more or other. -/
theorem bits_byte (op : BinOp) (x y : Int) : ∃ b : UInt8, bitsV op .u8 x y = (b.toNat : Int) := by
  have key : ∀ z : Int, ∃ b : UInt8, IntKind.u8.wrap z = (b.toNat : Int) := fun z => by
    have h : 0 ≤ IntKind.u8.wrap z ∧ IntKind.u8.wrap z < 256 := by rw [IntKind.wrap_u8]; omega
    refine ⟨UInt8.ofNat (IntKind.u8.wrap z).toNat, ?_⟩
    rw [show (UInt8.ofNat (IntKind.u8.wrap z).toNat).toNat = (IntKind.u8.wrap z).toNat % 256 from rfl, Nat.mod_eq_of_lt (by omega)]
    omega
  unfold bitsV
  cases op <;> exact key _
theorem strOf_cat (xs ys : List UInt8) : strOf xs ++ strOf ys = strOf (xs ++ ys) := by
  apply ByteArray.ext
  simp [strOf, ByteArray.data_append]
theorem strOf_extract (xs : List UInt8) (i j : Nat) : (strOf xs).extract i j = strOf ((xs.drop i).take (j - i)) := by
  apply ByteArray.ext
  simp [strOf, ByteArray.data_extract, List.take_drop]
theorem byteAt_strOf (xs : List UInt8) (i : Nat) : byteAt (strOf xs) (i : Int) = ((xs.getD i 0).toNat : Int) := by unfold byteAt; rw [strOf_list]; rfl
end Go.Proofs.Ytbolfgafiejkaaa
end
section
/- Slices of structs that came in: their elements, one behind the other. No program in sight. -/
namespace Go.Proofs.Ytbolfgafiejkaaa
open Go.RowKit Go.WideShapes Go.ChangeShapes
/-- Elements of n cells each, of which R tells where they lie. -/
def RowsAt {α : Type} (R : World → Nat → Nat → α → Prop) (n : Nat) (w : World) (a : Option Addr) (xs : List α) : Prop := xs = [] ∨ ∃ b off, a = some ⟨b, off, none⟩ ∧ ∀ i x, xs[i]? = some x → R w b (off + i * n) x
theorem RowsAt.mono {α : Type} {R : World → Nat → Nat → α → Prop} {n : Nat} {w w' : World} {a : Option Addr} {xs : List α} (h : RowsAt R n w a xs) (hm : ∀ b off x, R w b off x → R w' b off x) : RowsAt R n w' a xs := by
  rcases h with h | ⟨b, off, ha, h⟩
  · exact .inl h
  · exact .inr ⟨b, off, ha, fun i x hx => hm _ _ _ (h i x hx)⟩
theorem RowsAt.get {α : Type} {R : World → Nat → Nat → α → Prop} {n : Nat} {w : World} {a : Option Addr} {xs : List α} (h : RowsAt R n w a xs) {i : Nat} (hi : i < xs.length) : ∃ b off, a = some ⟨b, off, none⟩ ∧ R w b (off + i * n) xs[i] := by
  rcases h with rfl | ⟨b, off, ha, h⟩
  · simp at hi
  · exact ⟨b, off, ha, h i _ (List.getElem?_eq_getElem hi)⟩
theorem has_rows {α : Type} {e : Sh} {n : Nat} (hn : 0 < n) {R : World → Nat → Nat → α → Prop} {w : World} (elem : ∀ (cs' : List Value) (b off : Nat), cs'.length = n → cellsAt w b off cs' → e.Has w cs' → ∃ x, R w b off x) {cs : List Value} (h : (Sh.slice e n).Has w cs) :
    ∃ (xs : List α) (a : Option Addr) (c : Nat), cs = [.slice a xs.length c] ∧ xs.length ≤ c ∧ c ≤ maxLen ∧ RowsAt R n w a xs := by
  rcases h with rfl | ⟨a, len, cap, rfl, hl, hm, hall⟩
  · exact ⟨[], none, 0, rfl, Nat.le_refl _, by decide, .inl rfl⟩
  · obtain ⟨xs, hz, hp⟩ := exists_list (p := fun i (x : α) => R w a.block (a.off + i * n) x ∧ a = ⟨a.block, a.off, none⟩) len (fun i hi => by
      obtain ⟨cs0, ⟨h01, h02⟩, _⟩ := hall 0 (by omega)
      have ha : a = ⟨a.block, a.off, none⟩ := by
        have := h02 0 (by omega)
        rw [List.getElem?_eq_getElem (by omega)] at this
        simp only [Nat.zero_mul, Nat.zero_add] at this
        exact addr_plain this
      obtain ⟨cs', ⟨h1, h2⟩, h3⟩ := hall i hi
      obtain ⟨x, hx⟩ := elem cs' a.block (a.off + i * n) h1 (cellsAt_of fun j v hj => by
        have hjn : j < n := by have := (List.getElem?_eq_some_iff.1 hj).1; omega
        have := h2 j hjn
        rw [ha, Addr.add_lit, ← Nat.add_assoc, hj] at this
        exact this) h3
      exact ⟨x, hx, ha⟩)
    refine ⟨xs, some a, cap, by rw [hz], by omega, hm, ?_⟩
    by_cases h0 : xs = []
    · exact .inl h0
    · have h1 : 0 < xs.length := List.length_pos_iff.2 h0
      have ha := (hp 0 _ (List.getElem?_eq_getElem h1)).2
      exact .inr ⟨a.block, a.off, by rw [← ha], fun i p hi => (hp i p hi).1⟩
theorem cellsAt_below {w w' : World} {b off : Nat} {vs : List Value} (h : cellsAt w b off vs) {B : Nat} (hb : Below B w w') (hB : w.heap.size ≤ B) : cellsAt w' b off vs :=
  cellsAt_of fun j v hj => by
    have h1 := cellsAt_get h j v hj
    exact (hb.cell (p := ⟨b, off + j, none⟩) (Nat.lt_of_lt_of_le (block_lt_of_cell h1) hB)).trans h1
theorem open_rows {P : Program} {α : Type} {e : Sh} {n : Nat} {R : World → Nat → Nat → α → Prop} {H : Type} {enc : TypeId × Value → H} {W : World} {t : TypeId} {v : Value} {d : DataW H} {p : List MemPlace} (hn : 0 < n) (elem : ∀ (cs' : List Value) (b off : Nat), cs'.length = n → cellsAt W b off cs' → e.Has W cs' → ∃ x, R W b off x)
    (hf : fitsB P (.slice e n) t = true) (hv : ∃ a l c, v = .slice a l c) (h : DataW.Trod enc P W 0 (fun _ => true) true t v d p) : ∃ (xs : List α) (a : Option Addr) (c : Nat), v = .slice a xs.length c ∧ RowsAt R n W a xs ∧ xs.length ≤ c ∧ c ≤ maxLen := by
  obtain ⟨a, l, c, rfl⟩ := hv
  obtain ⟨xs, a', c', h1, h2, h3, h4⟩ := has_rows hn elem (open_sh hf h)
  simp [Value.cells] at h1
  obtain ⟨rfl, rfl, rfl⟩ := h1
  exact ⟨xs, a, c, rfl, h4, h2, h3⟩
end Go.Proofs.Ytbolfgafiejkaaa
end
section
/- An object with a list of its own: each element so many cells, what an element refers to in blocks that the object owns. No program in sight. -/
namespace Go.Proofs.Ytbolfgafiejkaaa
open Go.RowKit
theorem cell_keep {w w' : World} {b : Nat} (hk : w'.heap[b]? = w.heap[b]?) (o : Nat) : w'.cell? ⟨b, o, none⟩ = w.cell? ⟨b, o, none⟩ := by unfold World.cell?; simp only [hk]
theorem cellsAt_keep {w w' : World} {b : Nat} (hk : w'.heap[b]? = w.heap[b]?) : ∀ {vs : List Value} {off : Nat}, cellsAt w b off vs → cellsAt w' b off vs
  | [], _, _ => trivial
  | _ :: _, _, h => ⟨(cell_keep hk _).trans h.1, cellsAt_keep hk h.2⟩
theorem cellsAt_list {w : World} {b : Nat} : ∀ {vs : List Value} {off : Nat}, (∀ j v, vs[j]? = some v → w.cell? ⟨b, off + j, none⟩ = some v) → cellsAt w b off vs
  | [], _, _ => trivial
  | v :: r, off, h => ⟨by simpa using h 0 v rfl, cellsAt_list fun j u hu => by have := h (j + 1) u (by simpa using hu); rwa [show off + (j + 1) = off + 1 + j by omega] at this⟩
structure RStable {α : Type} (R : World → List Nat → α → List Value → Prop) (k : Nat) : Prop where
  len : ∀ {w : World} {M : List Nat} {e : α} {cs : List Value}, R w M e cs → cs.length = k
  keep : ∀ {w w' : World} {M : List Nat} {e : α} {cs : List Value}, R w M e cs → (∀ b ∈ M, w'.heap[b]? = w.heap[b]?) → R w' M e cs
  mono : ∀ {w : World} {M K : List Nat} {e : α} {cs : List Value}, R w M e cs → (∀ b ∈ M, b ∈ K) → R w K e cs
def ElsOk {α : Type} (R : World → List Nat → α → List Value → Prop) (k : Nat) (w : World) (M : List Nat) (es : List α) (xs : List Value) : Prop :=
  xs.length = es.length * k ∧ ∀ (i : Nat) (e : α), es[i]? = some e → R w M e ((xs.drop (i * k)).take k)
section
variable {α : Type} {R : World → List Nat → α → List Value → Prop} {k : Nat} {w w' : World} {M K : List Nat} {es : List α} {xs : List Value}
theorem ElsOk.nil : ElsOk R k w M [] [] := ⟨by simp, fun i e h => by cases h⟩
theorem ElsOk.keep (hR : RStable R k) (h : ElsOk R k w M es xs) (hk : ∀ b ∈ M, w'.heap[b]? = w.heap[b]?) : ElsOk R k w' M es xs := ⟨h.1, fun i e he => hR.keep (h.2 i e he) hk⟩
theorem ElsOk.mono (hR : RStable R k) (h : ElsOk R k w M es xs) (hs : ∀ b ∈ M, b ∈ K) : ElsOk R k w K es xs := ⟨h.1, fun i e he => hR.mono (h.2 i e he) hs⟩
theorem ElsOk.app (hR : RStable R k) (h : ElsOk R k w M es xs) {e : α} {cs : List Value} (he : R w M e cs) : ElsOk R k w M (es ++ [e]) (xs ++ cs) := by
  have hc := hR.len he
  refine ⟨by rw [List.length_append, List.length_append, h.1, hc, List.length_singleton, Nat.add_mul, Nat.one_mul], fun i x hx => ?_⟩
  by_cases hi : i < es.length
  · rw [List.getElem?_append_left hi] at hx
    have := h.2 i x hx
    have hm : i * k + k ≤ xs.length := by
      rw [h.1]
      have := Nat.mul_le_mul_right k (show i + 1 ≤ es.length from hi)
      rw [Nat.add_mul, Nat.one_mul] at this
      exact this
    rwa [List.drop_append_of_le_length (by omega), List.take_append_of_le_length (by rw [List.length_drop]; omega)]
  · have hlt := (List.getElem?_eq_some_iff.1 hx).1
    rw [List.length_append, List.length_singleton] at hlt
    obtain rfl : i = es.length := by omega
    rw [List.getElem?_append_right (Nat.le_refl _), Nat.sub_self] at hx
    injection hx with hx; subst hx
    rw [← h.1, List.drop_left, List.take_of_length_le (by omega)]
    exact he
theorem ElsOk.erase (h : ElsOk R k w M es xs) {i : Nat} (hi : i < es.length) : ElsOk R k w M (es.eraseIdx i) (xs.take (i * k) ++ xs.drop ((i + 1) * k)) := by
  have e1 : (i + 1) * k = i * k + k := by rw [Nat.add_mul, Nat.one_mul]
  have e2 : (es.length - 1) * k + k = es.length * k := by
    rw [← Nat.add_one_mul]; congr 1; omega
  have hm : i * k + k ≤ xs.length := by
    rw [h.1]
    have := Nat.mul_le_mul_right k (show i + 1 ≤ es.length from hi)
    omega
  have hxl := h.1
  refine ⟨by rw [List.length_append, List.length_take, List.length_drop, List.length_eraseIdx_of_lt hi]; omega, fun j x hx => ?_⟩
  rw [List.getElem?_eraseIdx] at hx
  split at hx
  · rename_i hj
    have := h.2 j x hx
    have hjk : j * k + k ≤ i * k := by
      have := Nat.mul_le_mul_right k (show j + 1 ≤ i from hj)
      rw [Nat.add_mul, Nat.one_mul] at this; exact this
    rw [List.drop_append_of_le_length (by rw [List.length_take]; omega), List.take_append_of_le_length (by rw [List.length_drop, List.length_take]; omega), List.drop_take, List.take_take]
    rwa [Nat.min_eq_left (by omega)]
  · rename_i hj
    have := h.2 (j + 1) x hx
    have hjk : i * k ≤ j * k := Nat.mul_le_mul_right k (by omega)
    have e3 : (j + 1) * k = j * k + k := by rw [Nat.add_mul, Nat.one_mul]
    have hlt : (xs.take (i * k)).length = i * k := by rw [List.length_take]; omega
    rw [List.drop_append, hlt, List.drop_eq_nil_of_le (by omega), List.nil_append, List.drop_drop]
    rwa [show (i + 1) * k + (j * k - i * k) = (j + 1) * k by omega]
theorem ElsOk.cells (hR : RStable R k) (h : ElsOk R k w M es xs) {te : TypeId} {b0 c : Nat} {a : Option Addr} (hO : Own w b0 te k (.slice a es.length c) es.length xs) {i : Nat} {e : α} (he : es[i]? = some e) :
    ∃ cs, R w M e cs ∧ ∃ b off, a = some ⟨b, off, none⟩ ∧ (b0 ≤ b ∧ b < w.heap.size) ∧ cellsAt w b (off + i * k) cs := by
  have hr := h.2 i e he
  refine ⟨_, hr, ?_⟩
  have hlt := (List.getElem?_eq_some_iff.1 he).1
  rcases hO.2 with ⟨_, h0⟩ | ⟨g, off, cap, cur, hv, hb, hg, _⟩
  · omega
  · injection hv with q1 q2 q3
    subst q1
    refine ⟨g, off, rfl, ⟨hb, heap_lt hg⟩, cellsAt_list fun j v hv => ?_⟩
    rw [List.getElem?_take] at hv
    split at hv
    · rw [List.getElem?_drop] at hv
      rw [Nat.add_assoc]
      exact hO.cells g off c rfl _ v hv
    · cases hv
/-- The object under way: what it owns lies in L, or is new. -/
structure LRaw (R : World → List Nat → α → List Value → Prop) (k : Nat) (te tp : TypeId) (w : World) (L : List Nat) (n0 p : Nat) (f : Value → Array Value) (es : List α) (kv : Value) (xs : List Value) (M : List Nat) : Prop where
  bk : Bk w p (f kv) tp
  own : Own w 0 te k kv es.length xs
  els : ElsOk R k w M es xs
  far : ∀ b ∈ M, (b ∈ L ∨ n0 ≤ b) ∧ b ≠ p ∧ kv.ownBlock ≠ some b
  mine : ∀ b, kv.ownBlock = some b → b ∈ L ∨ n0 ≤ b
  under : Under M w.heap.size
variable {te tp : TypeId} {L : List Nat} {n0 p : Nat} {f : Value → Array Value} {kv : Value}
theorem own_apart {g : Nat} {cs : Array Value} {t e : TypeId} {size n b0 : Nat} {v : Value} {xs : List Value} (h1 : Bk w g cs t) (h2 : Own w b0 e size v n xs) (hne : t ≠ e) : v.ownBlock ≠ some g := by
  intro h
  rcases h2.2 with ⟨rfl, _⟩ | ⟨g', off, cap, cur, rfl, hb, hg, _⟩
  · cases h
  · simp [Value.ownBlock] at h
    subst h
    unfold Bk at h1
    rw [h1] at hg
    injection hg with hg
    injection hg with h3 h4 h5
    exact hne h4
theorem LRaw.keep (hR : RStable R k) (h : LRaw R k te tp w L n0 p f es kv xs M) (hk : ∀ b, (b = p ∨ kv.ownBlock = some b ∨ b ∈ M) → w'.heap[b]? = w.heap[b]?) (hs : w.heap.size ≤ w'.heap.size) : LRaw R k te tp w' L n0 p f es kv xs M :=
  ⟨h.bk.keep (hk p (.inl rfl)), h.own.keep fun b hb => hk b (.inr (.inl hb)), h.els.keep hR fun b hb => hk b (.inr (.inr hb)), h.far, h.mine, h.under.mono hs⟩
theorem LRaw.lt (h : LRaw R k te tp w L n0 p f es kv xs M) {b : Nat} (hb : b = p ∨ kv.ownBlock = some b ∨ b ∈ M) : b < w.heap.size := by
  rcases hb with rfl | hb | hb
  · exact h.bk.lt
  · exact (h.own.lt b hb).2
  · exact h.under b hb
theorem LRaw.below (hR : RStable R k) (h : LRaw R k te tp w L n0 p f es kv xs M) (hb : Below w.heap.size w w') : LRaw R k te tp w' L n0 p f es kv xs M := h.keep hR (fun b hb' => hb.block b (h.lt hb')) hb.size
theorem LRaw.more (hR : RStable R k) (h : LRaw R k te tp w L n0 p f es kv xs M) (B : List Nat) (hB : ∀ b ∈ B, (b ∈ L ∨ n0 ≤ b) ∧ b < w.heap.size ∧ b ≠ p ∧ kv.ownBlock ≠ some b) : LRaw R k te tp w L n0 p f es kv xs (M ++ B) :=
  ⟨h.bk, h.own, h.els.mono hR fun _ hk => List.mem_append_left _ hk, fun b hb => (List.mem_append.1 hb).elim (h.far b) fun hb => ⟨(hB b hb).1, (hB b hb).2.2⟩, h.mine, fun b hb => (List.mem_append.1 hb).elim (h.under b) fun hb => (hB b hb).2.1⟩
theorem LRaw.wider (h : LRaw R k te tp w L n0 p f es kv xs M) (hs : ∀ b ∈ L, b ∈ K) : LRaw R k te tp w K n0 p f es kv xs M :=
  ⟨h.bk, h.own, h.els, fun b hb => ⟨(h.far b hb).1.imp (hs b) id, (h.far b hb).2⟩, fun b hb => (h.mine b hb).imp (hs b) id, h.under⟩
/-- The list has turned, and is stored: appended to, cut, or new. -/
theorem LRaw.turn (hR : RStable R k) (hne : tp ≠ te) (h : LRaw R k te tp w L n0 p f es kv xs M) (hn : n0 ≤ w.heap.size) {es' : List α} {xs' : List Value} (he : ElsOk R k w M es' xs') {v1 : Value} (ho : Own w' 0 te k v1 es'.length xs') (hp : w'.heap[p]? = w.heap[p]?) (hM : ∀ b ∈ M, w'.heap[b]? = w.heap[b]?) (hs : w.heap.size ≤ w'.heap.size)
    (hn1 : v1.ownBlock = kv.ownBlock ∨ ∃ g, v1.ownBlock = some g ∧ w.heap.size ≤ g) {j : Nat} (hj : (f kv).setIfInBounds j v1 = f v1) : LRaw R k te tp (w'.setCell ⟨p, j, none⟩ v1) L n0 p f es' v1 xs' M := by
  have b1 := h.bk.keep hp
  have hk1 : ∀ b, b ≠ p → (w'.setCell ⟨p, j, none⟩ v1).heap[b]? = w'.heap[b]? := fun b hb => Below.heap_setCell _ _ _ _ hb
  have hfar : ∀ b ∈ M, v1.ownBlock ≠ some b := fun b hb e => by
    rcases hn1 with h1 | ⟨g, h1, hg1⟩
    · exact (h.far b hb).2.2 (h1 ▸ e)
    · rw [h1] at e; injection e with e; have := h.under b hb; omega
  refine ⟨hj ▸ b1.setCell j v1, ho.keep fun b hb => hk1 b fun e2 => own_apart b1 ho hne (e2 ▸ hb), (he.keep hR hM).keep hR fun b hb => hk1 b (h.far b hb).2.1, fun b hb => ⟨(h.far b hb).1, (h.far b hb).2.1, hfar b hb⟩, fun b hb => ?_, (h.under.mono hs).mono (by simp)⟩
  rcases hn1 with h1 | ⟨g, h1, hg1⟩
  · exact h.mine b (h1 ▸ hb)
  · rw [h1] at hb; injection hb with hb; exact .inr (by omega)
/-- Another cell of the object is stored. -/
theorem LRaw.cell (hR : RStable R k) (hne : tp ≠ te) (h : LRaw R k te tp w L n0 p f es kv xs M) {j : Nat} {v : Value} {f' : Value → Array Value} (hj : (f kv).setIfInBounds j v = f' kv) : LRaw R k te tp (w.setCell ⟨p, j, none⟩ v) L n0 p f' es kv xs M := by
  have hk1 : ∀ b, b ≠ p → (w.setCell ⟨p, j, none⟩ v).heap[b]? = w.heap[b]? := fun b hb => Below.heap_setCell _ _ _ _ hb
  exact ⟨hj ▸ h.bk.setCell j v, h.own.keep fun b hb => hk1 b fun e2 => own_apart h.bk h.own hne (e2 ▸ hb), h.els.keep hR fun b hb => hk1 b (h.far b hb).2.1, h.far, h.mine, h.under.mono (by simp)⟩
/-- The object, with all that it owns. -/
structure LAt (R : World → List Nat → α → List Value → Prop) (k : Nat) (te tp : TypeId) (w : World) (L : List Nat) (p : Nat) (f : Value → Array Value) (es : List α) : Prop where
  ex : ∃ kv xs M, Bk w p (f kv) tp ∧ Own w 0 te k kv es.length xs ∧ ElsOk R k w M es xs ∧ (∀ b ∈ M, b ∈ L ∧ b ≠ p ∧ kv.ownBlock ≠ some b) ∧ ∀ b, kv.ownBlock = some b → b ∈ L
  mem : p ∈ L
  under : Under L w.heap.size
theorem LAt.raw (h : LAt R k te tp w L p f es) (n0 : Nat) : ∃ kv xs M, LRaw R k te tp w L n0 p f es kv xs M := by
  obtain ⟨⟨kv, xs, M, h1, h2, h3, h4, h5⟩, hm, hu⟩ := h
  exact ⟨kv, xs, M, h1, h2, h3, fun b hb => ⟨.inl (h4 b hb).1, (h4 b hb).2⟩, fun b hb => .inl (h5 b hb), fun b hb => hu b (h4 b hb).1⟩
theorem LRaw.at (h : LRaw R k te tp w L n0 p f es kv xs M) (hp : p ∈ L) : ∃ L', LAt R k te tp w L' p f es ∧ Gr L L' n0 := by
  refine ⟨p :: (kv.ownBlock.toList ++ M), ⟨⟨kv, xs, M, h.bk, h.own, h.els, fun b hb => ⟨by simp [hb], (h.far b hb).2⟩, fun b hb => by simp [hb]⟩, by simp, fun b hb => ?_⟩, fun b hb => ?_⟩
  · rcases List.mem_cons.1 hb with rfl | hb
    · exact h.bk.lt
    · rcases List.mem_append.1 hb with hb | hb
      · exact (h.own.lt b (by simpa using hb)).2
      · exact h.under b hb
  · rcases List.mem_cons.1 hb with rfl | hb
    · exact .inl hp
    · rcases List.mem_append.1 hb with hb | hb
      · exact h.mine b (by simpa using hb)
      · exact (h.far b hb).1
theorem LAt.keep (hR : RStable R k) (h : LAt R k te tp w L p f es) (hk : ∀ b ∈ L, w'.heap[b]? = w.heap[b]?) (hs : w.heap.size ≤ w'.heap.size) : LAt R k te tp w' L p f es := by
  obtain ⟨⟨kv, xs, M, h1, h2, h3, h4, h5⟩, hm, hu⟩ := h
  exact ⟨⟨kv, xs, M, h1.keep (hk p hm), h2.keep (fun b e => hk b (h5 b e)), h3.keep hR (fun b e => hk b (h4 b e).1), h4, h5⟩, hm, hu.mono hs⟩
theorem LAt.fr (hR : RStable R k) (h : LAt R k te tp w L p f es) (hf : Fr K w w') (ha : Apart L K) : LAt R k te tp w' L p f es := h.keep hR (hf.keep ha h.under) hf.size
theorem LAt.below (hR : RStable R k) (h : LAt R k te tp w L p f es) (hb : Below w.heap.size w w') : LAt R k te tp w' L p f es := h.keep hR (fun b hk => hb.block b (h.under b hk)) hb.size
end
end Go.Proofs.Ytbolfgafiejkaaa
end
section
/- One element less: what 'slices.Delete' does to a list that is owned. No program in sight. -/
namespace Go.Proofs.Ytbolfgafiejkaaa
open Go.RowKit
variable {P : Program} {w : World} {b : Nat} {e : TypeId} {k : Nat} {xs : List Value}
theorem Own.pre {a : Option Addr} {n c i : Nat} (h : Own w b e k (.slice a n c) n xs) (hi : i ≤ n) : Own w b e k (.slice a i c) i (xs.take (i * k)) := by
  obtain ⟨hl, h⟩ := h
  have hm : i * k ≤ n * k := Nat.mul_le_mul_right k hi
  refine ⟨by rw [List.length_take]; omega, ?_⟩
  rcases h with ⟨h0, h1⟩ | ⟨g, off, cap, cur, hv, hb, hg, hn, hm2, hs, ht⟩
  · injection h0 with q1 q2 q3
    subst q1; subst q3
    obtain rfl : i = 0 := by omega
    exact .inl ⟨rfl, rfl⟩
  · injection hv with q1 q2 q3
    subst q1; subst q3
    refine .inr ⟨g, off, c, cur, rfl, hb, hg, by omega, hm2, hs, ?_⟩
    rw [← ht, List.take_take, Nat.min_eq_left hm]
theorem own_somewhere {a : Option Addr} {n c : Nat} (h : Own w b e k (.slice a n c) n xs) (hn : 0 < n) : ∃ g off, a = some ⟨g, off, none⟩ ∧ n ≤ c := by
  rcases h.2 with ⟨_, h0⟩ | ⟨g, off, cap, cur, hv, _, _, hc, _⟩
  · omega
  · injection hv with q1 q2 q3
    subst q1; subst q3
    exact ⟨g, off, rfl, hc⟩
theorem Own.tail {a : Option Addr} {n c i : Nat} (h : Own w b e k (.slice a n c) n xs) (hi : i < n) {tx e' : TypeId} (hk : P.underlying tx = some (.slice e')) (h1 : ∀ v ∈ xs, v.oneCell' = true) :
    Src P k tx (.slice (sliceBase a c (i + 1) k) (n - (i + 1)) (c - (i + 1))) (n - (i + 1)) (xs.drop ((i + 1) * k)) w := by
  obtain ⟨g, off, rfl, hc⟩ := own_somewhere h (by omega)
  have hx := h.1
  have e1 : (n - (i + 1)) * k + (i + 1) * k = n * k := by rw [← Nat.add_mul]; congr 1; omega
  have hl : (xs.drop ((i + 1) * k)).length = (n - (i + 1)) * k := by rw [List.length_drop]; omega
  have h1' : ∀ v ∈ xs.drop ((i + 1) * k), v.oneCell' = true := fun v hv => h1 v (List.mem_of_mem_drop hv)
  unfold sliceBase
  split
  · rename_i hce
    have h0 : n - (i + 1) = 0 := by omega
    have hd : xs.drop ((i + 1) * k) = [] := List.eq_nil_of_length_eq_zero (by rw [hl, h0, Nat.zero_mul])
    rw [hd] at hl h1' ⊢
    exact Src.ofSlice w hk _ _ _ _ hl (fun j u hu => by cases hu) h1'
  · refine Src.ofSlice w hk _ _ _ _ hl (fun j u hu => ?_) h1'
    rw [List.getElem?_drop] at hu
    have := h.cells g off c rfl _ u hu
    show w.cell? (((⟨g, off, none⟩ : Addr).add ((i + 1) * k)).add j) = some u
    rw [Addr.add_lit, Addr.add_lit, Nat.add_assoc]
    exact this
theorem own_beyond1 {g off n c j : Nat} (h : Own w b e k (.slice (some ⟨g, off, none⟩) n c) n xs) (hj : n * k ≤ j) (hc : j < c * k) (v : Value) :
    (w.cell? ⟨g, off + j, none⟩).isSome = true ∧ w.frozen? ⟨g, off + j, none⟩ = false ∧ Own (w.setCell ⟨g, off + j, none⟩ v) b e k (.slice (some ⟨g, off, none⟩) n c) n xs := by
  obtain ⟨hl, h⟩ := h
  rcases h with ⟨h0, h1⟩ | ⟨g', off', cap, cur, hv, hb, hg, hn, hm2, hs, ht⟩
  · cases h0
  · injection hv with q1 q2 q3
    injection q1 with q1
    injection q1 with q1 q4
    subst q1; subst q3; subst q4
    have hB : Bk w g cur e := hg
    refine ⟨?_, hB.frozen _, hl, .inr ⟨g, off, c, _, rfl, hb, hB.setCell (off + j) v, hn, hm2, by simpa using hs, ?_⟩⟩
    · rw [hB.cell, Array.getElem?_eq_getElem (by omega)]; rfl
    · rw [← ht, Array.toList_setIfInBounds, List.drop_set]
      rw [if_neg (by omega), show off + j - off = j by omega, List.take_set, List.set_eq_of_length_le (by rw [List.length_take]; omega)]
theorem own_beyond {g off n c : Nat} : ∀ (vs : List Value) (j : Nat) (w : World), Own w b e k (.slice (some ⟨g, off, none⟩) n c) n xs → n * k ≤ j → j + vs.length ≤ c * k →
    w.there g (off + j) vs.length ∧ Own (w.setCells g (off + j) vs) b e k (.slice (some ⟨g, off, none⟩) n c) n xs ∧ Fr [g] w (w.setCells g (off + j) vs) ∧ (w.setCells g (off + j) vs).heap.size = w.heap.size
  | [], j, w, h, _, _ => ⟨fun i hi => by simp at hi, h, Fr.refl _ _, rfl⟩
  | v :: r, j, w, h, hj, hc => by
    rw [List.length_cons] at hc
    obtain ⟨h1, h2, h3⟩ := own_beyond1 h hj (by omega) v
    obtain ⟨k1, k2, k3, k4⟩ := own_beyond r (j + 1) _ h3 (by omega) (by omega)
    rw [← Nat.add_assoc] at k1 k2 k3 k4
    refine ⟨fun i hi => ?_, k2, ((Fr.refl [g] w).setCell (p := ⟨g, off + j, none⟩) (.inl (by simp)) v).trans k3 (Gr.refl _ _), k4.trans (by simp)⟩
    rw [List.length_cons] at hi
    refine ⟨?_, ?_⟩
    · obtain ⟨a1, a2, _⟩ := own_beyond1 h (j := j + i) (by omega) (by omega) v
      rw [Nat.add_assoc]; exact a1
    · obtain ⟨a1, a2, _⟩ := own_beyond1 h (j := j + i) (by omega) (by omega) v
      rw [Nat.add_assoc]; exact a2
theorem els_one {α : Type} {R : World → List Nat → α → List Value → Prop} {M : List Nat} {es : List α} (h : ElsOk R k w M es xs) (hR : ∀ w M e cs, R w M e cs → ∀ v ∈ cs, v.oneCell' = true) : ∀ v ∈ xs, v.oneCell' = true := by
  intro v hv
  obtain ⟨j, hj⟩ := List.getElem?_of_mem hv
  have hlt := (List.getElem?_eq_some_iff.1 hj).1
  have hl := h.1
  have hk : 0 < k := by
    rcases Nat.eq_zero_or_pos k with h0 | h0
    · subst h0; omega
    · exact h0
  have hi : j / k < es.length := Nat.div_lt_of_lt_mul (by rw [Nat.mul_comm]; omega)
  have := h.2 _ _ (List.getElem?_eq_getElem hi)
  refine hR _ _ _ _ this v ?_
  have hm : j = j / k * k + j % k := by rw [Nat.mul_comm]; exact (Nat.div_add_mod j k).symm
  have hmod := Nat.mod_lt j hk
  refine List.mem_iff_getElem?.2 ⟨j % k, ?_⟩
  rw [List.getElem?_take, if_pos hmod, List.getElem?_drop, ← hm]
  exact hj
end Go.Proofs.Ytbolfgafiejkaaa
end
section
/- One element of an owned list is written over. No program in sight. -/
namespace Go.Proofs.Ytbolfgafiejkaaa
open Go.RowKit
variable {w : World} {b : Nat} {e : TypeId} {k : Nat} {xs : List Value}
def setL : List Value → Nat → List Value → List Value
  | xs, _, [] => xs
  | xs, j, v :: r => setL (xs.set j v) (j + 1) r
theorem setL_len : ∀ (vs : List Value) (xs : List Value) (j : Nat), (setL xs j vs).length = xs.length
  | [], _, _ => rfl
  | v :: r, xs, j => by rw [setL, setL_len r, List.length_set]
theorem setL_get : ∀ (vs : List Value) (xs : List Value) (j i : Nat), j + vs.length ≤ xs.length → (setL xs j vs)[i]? = if j ≤ i ∧ i < j + vs.length then vs[i - j]? else xs[i]?
  | [], xs, j, i, _ => by rw [setL, if_neg (by simp only [List.length_nil]; omega)]
  | v :: r, xs, j, i, h => by
    rw [List.length_cons] at h
    rw [setL, setL_get r (xs.set j v) (j + 1) i (by rw [List.length_set]; omega), List.length_cons]
    by_cases h1 : i = j
    · subst h1
      rw [if_neg (by omega), if_pos (by omega), Nat.sub_self, List.getElem?_set_self (by omega)]
      rfl
    · by_cases h2 : j + 1 ≤ i ∧ i < j + 1 + r.length
      · rw [if_pos h2, if_pos (by omega), show i - j = (i - (j + 1)) + 1 by omega, List.getElem?_cons_succ]
      · rw [if_neg h2, if_neg (by omega), List.getElem?_set_ne (by omega)]
theorem own_in1 {g off n c j : Nat} (h : Own w b e k (.slice (some ⟨g, off, none⟩) n c) n xs) (hj : j < n * k) (v : Value) :
    (w.cell? ⟨g, off + j, none⟩).isSome = true ∧ w.frozen? ⟨g, off + j, none⟩ = false ∧ Own (w.setCell ⟨g, off + j, none⟩ v) b e k (.slice (some ⟨g, off, none⟩) n c) n (xs.set j v) := by
  obtain ⟨hl, h⟩ := h
  rcases h with ⟨h0, h1⟩ | ⟨g', off', cap, cur, hv, hb, hg, hn, hm2, hs, ht⟩
  · cases h0
  · injection hv with q1 q2 q3
    injection q1 with q1
    injection q1 with q1 q4
    subst q1; subst q3; subst q4
    have hB : Bk w g cur e := hg
    have hm : n * k ≤ c * k := Nat.mul_le_mul_right k hn
    refine ⟨?_, hB.frozen _, by rw [List.length_set]; exact hl, .inr ⟨g, off, c, _, rfl, hb, hB.setCell (off + j) v, hn, hm2, by simpa using hs, ?_⟩⟩
    · rw [hB.cell, Array.getElem?_eq_getElem (by omega)]; rfl
    · rw [← ht, Array.toList_setIfInBounds, List.drop_set]
      rw [if_neg (by omega), show off + j - off = j by omega, List.take_set]
theorem own_setL {g off n c : Nat} : ∀ (vs : List Value) (j : Nat) (w : World) (xs : List Value), Own w b e k (.slice (some ⟨g, off, none⟩) n c) n xs → j + vs.length ≤ n * k →
    w.there g (off + j) vs.length ∧ Own (w.setCells g (off + j) vs) b e k (.slice (some ⟨g, off, none⟩) n c) n (setL xs j vs) ∧ Fr [g] w (w.setCells g (off + j) vs) ∧ (w.setCells g (off + j) vs).heap.size = w.heap.size
  | [], j, w, xs, h, _ => ⟨fun i hi => by simp at hi, h, Fr.refl _ _, rfl⟩
  | v :: r, j, w, xs, h, hc => by
    rw [List.length_cons] at hc
    obtain ⟨h1, h2, h3⟩ := own_in1 h (j := j) (by omega) v
    obtain ⟨k1, k2, k3, k4⟩ := own_setL r (j + 1) _ _ h3 (by omega)
    rw [← Nat.add_assoc] at k1 k2 k3 k4
    refine ⟨fun i hi => ?_, k2, ((Fr.refl [g] w).setCell (p := ⟨g, off + j, none⟩) (.inl (by simp)) v).trans k3 (Gr.refl _ _), k4.trans (by simp)⟩
    rw [List.length_cons] at hi
    obtain ⟨a1, a2, _⟩ := own_in1 h (j := j + i) (by omega) v
    rw [Nat.add_assoc]
    exact ⟨a1, a2⟩
/-- An element of so many cells is stored. -/
theorem Own.storeK {g off n c i : Nat} (h : Own w b e k (.slice (some ⟨g, off, none⟩) n c) n xs) (hi : i < n) {vs : List Value} (hv : vs.length = k) {gs : List Nat} (hgs : ∀ x ∈ gs, x ≠ g) {K : World → Prop}
    (hk : ∀ w1, Own w1 b e k (.slice (some ⟨g, off, none⟩) n c) n (setL xs (i * k) vs) → Fr [g] w w1 → w1.heap.size = w.heap.size → K w1) : stO gs w g (off + i * k) vs K := by
  have hm : i * k + k ≤ n * k := by
    have := Nat.mul_le_mul_right k (show i + 1 ≤ n from hi)
    rw [Nat.add_mul, Nat.one_mul] at this; exact this
  obtain ⟨k1, k2, k3, k4⟩ := own_setL vs (i * k) w xs h (by omega)
  exact ⟨hgs, k1, fun w1 e1 => by subst e1; exact hk _ k2 k3 k4⟩
theorem ElsOk.set {α : Type} {R : World → List Nat → α → List Value → Prop} {M : List Nat} {es : List α} (hR : RStable R k) (h : ElsOk R k w M es xs) {i : Nat} (hi : i < es.length) {x : α} {cs : List Value} (hx : R w M x cs) : ElsOk R k w M (es.set i x) (setL xs (i * k) cs) := by
  have hl := h.1
  have hc := hR.len hx
  have hm : ∀ j, j < es.length → j * k + k ≤ xs.length := fun j hj => by
    rw [hl]
    have := Nat.mul_le_mul_right k (show j + 1 ≤ es.length from hj)
    rw [Nat.add_mul, Nat.one_mul] at this; exact this
  refine ⟨by rw [setL_len, List.length_set, hl], fun j y hy => ?_⟩
  have hj : j < es.length := by have := (List.getElem?_eq_some_iff.1 hy).1; rwa [List.length_set] at this
  have key : ((setL xs (i * k) cs).drop (j * k)).take k = if i = j then cs else (xs.drop (j * k)).take k := by
    apply List.ext_getElem?
    intro q
    rw [List.getElem?_take]
    by_cases hq : q < k
    · rw [if_pos hq, List.getElem?_drop, setL_get _ _ _ _ (by have := hm i hi; omega)]
      by_cases hij : i = j
      · subst hij
        rw [if_pos rfl, if_pos (by omega)]
        congr 1; omega
      · rw [if_neg hij]
        have hne : ¬ (i * k ≤ j * k + q ∧ j * k + q < i * k + cs.length) := by
          rintro ⟨h1, h2⟩
          rcases Nat.lt_or_gt_of_ne hij with h3 | h3
          · have := Nat.mul_le_mul_right k (show i + 1 ≤ j from h3)
            rw [Nat.add_mul, Nat.one_mul] at this; omega
          · have := Nat.mul_le_mul_right k (show j + 1 ≤ i from h3)
            rw [Nat.add_mul, Nat.one_mul] at this; omega
        rw [if_neg hne, List.getElem?_take, if_pos hq, List.getElem?_drop]
    · rw [if_neg hq]
      symm
      split
      · rw [List.getElem?_eq_none (by omega)]
      · rw [List.getElem?_take, if_neg hq]
  rw [key]
  by_cases hij : i = j
  · subst hij
    rw [List.getElem?_set_self hi] at hy
    injection hy with hy; subst hy
    rw [if_pos rfl]; exact hx
  · rw [List.getElem?_set_ne hij] at hy
    rw [if_neg hij]
    exact h.2 j y hy
end Go.Proofs.Ytbolfgafiejkaaa
end
section
/- Functions that write nothing but blocks of their own: their steps, seen from the world that they began in. No program in sight. -/
namespace Go.Proofs.Ytbolfgafiejkaaa
open Go.RowKit
theorem box_below {w w1 w2 : World} {g : Nat} (h : Below w.heap.size w w1) (hg : w.heap.size ≤ g) (hb : BoxSt g w1 w2) : Below w.heap.size w w2 := h.trans (hb.1.below (fun k hk => by rw [List.mem_singleton] at hk; omega) h.size)
/-- One value comes back, and what was there is as it was. -/
def Ret (v : Value) (w : World) : Ending → World → Prop := fun e w' => e = .returned v ∧ Below w.heap.size w w'
theorem ret_in {P : Program} {f : FuncId} {av : Array Value} {w : World} {v : Value} (h : Calls P f av w fun e w' => ∃ u, e = .returned u ∧ (u = v ∧ Below w.heap.size w w')) : Calls P f av w (Ret v w) :=
  h.mono (by rintro e w' ⟨u, rfl, rfl, b⟩; exact ⟨rfl, b⟩)
theorem ret_same {P : Program} {f : FuncId} {av : Array Value} {w : World} {v : Value} (h : Calls P f av w fun e w' => e = .returned v ∧ w' = w) : Calls P f av w (Ret v w) :=
  h.mono (by rintro e w' ⟨rfl, rfl⟩; exact ⟨rfl, Below.refl _ _⟩)
section
variable {w0 w : World}
abbrev Bs (w0 w : World) : Prop := Below w0.heap.size w0 w
theorem Bs.refl (w : World) : Bs w w := Below.refl _ _
theorem Bs.to {w1 : World} (B : Bs w0 w) (b : Below w.heap.size w w1) : Bs w0 w1 := Below.trans B (b.mono B.size)
theorem Bs.box {g : Nat} {w1 : World} (B : Bs w0 w) (hg : w0.heap.size ≤ g) (h : BoxSt g w w1) : Bs w0 w1 := box_below B hg h
theorem newB (B : Bs w0 w) {o : Obj} {K : Nat → World → Prop} (h : ∀ g w1, w0.heap.size ≤ g → w.heap.size = g → w1.heap[g]? = some o → w1.heap.size = g + 1 → Below w.heap.size w w1 → Bs w0 w1 → K g w1) : newO w o K := by
  rintro g w1 rfl rfl
  exact h _ _ B.size rfl (al_new rfl) (by simp) (Below_one o) (B.to (Below_one o))
theorem drewB (B : Bs w0 w) {K : World → Prop} (h : ∀ w1, Below w.heap.size w w1 → Bs w0 w1 → w1.heap = w.heap → K w1) : drewO w K := fun w1 h1 h2 => h w1 h2 (B.to h2) h1
theorem boxB {g : Nat} (B : Bs w0 w) (hg : w0.heap.size ≤ g) {K : World → Prop} (h : ∀ w1, BoxSt g w w1 → Bs w0 w1 → w1.heap.size = w.heap.size → K w1) : ∀ w1, BoxSt g w w1 → K w1 := fun w1 h1 => h w1 h1 (B.box hg h1) h1.2
theorem callB {P : Program} {f : FuncId} {av : Array Value} {v : Value} {gs : List Nat} {R : Ending → World → Prop} (B : Bs w0 w) (h : Calls P f av w (Ret v w)) (k : ∀ w1, Below w.heap.size w w1 → Bs w0 w1 → R (.returned v) w1) :
    Calls P f av w (fun e w1 => KeepG gs w w1 ∧ R e w1) := h.mono (by rintro e w1 ⟨rfl, b⟩; exact ⟨keepG_below b, k w1 b (B.to b)⟩)
theorem callQ {P : Program} {f : FuncId} {av : Array Value} {gs : List Nat} {Q R : Ending → World → Prop} (B : Bs w0 w) (h : Calls P f av w (fun e w1 => Q e w1 ∧ Below w.heap.size w w1)) (k : ∀ e w1, Q e w1 → Below w.heap.size w w1 → Bs w0 w1 → R e w1) :
    Calls P f av w (fun e w1 => KeepG gs w w1 ∧ R e w1) := h.mono (by rintro e w1 ⟨q, b⟩; exact ⟨keepG_below b, k e w1 q b (B.to b)⟩)
end
/-- Elements of k cells each, one behind the other, in a block from n0 on. -/
def Rws {α : Type} (enc : α → List Value) (k n0 : Nat) (w : World) (a : Option Addr) (xs : List α) : Prop := xs = [] ∨ ∃ b off, a = some ⟨b, off, none⟩ ∧ n0 ≤ b ∧ ∀ i x, xs[i]? = some x → cellsAt w b (off + i * k) (enc x)
section
variable {α : Type} {enc : α → List Value} {k n0 : Nat} {w w' : World} {a : Option Addr} {xs : List α}
theorem Rws.nil : Rws enc k n0 w a [] := .inl rfl
theorem Rws.ofRows (h : RowsAt (fun w b off x => cellsAt w b off (enc x)) k w a xs) : Rws enc k 0 w a xs := h.elim .inl fun ⟨b, off, h1, h2⟩ => .inr ⟨b, off, h1, Nat.zero_le _, h2⟩
theorem Rws.low {n1 : Nat} (h : Rws enc k n0 w a xs) (hn : n1 ≤ n0) : Rws enc k n1 w a xs := h.elim .inl fun ⟨b, off, h1, h2, h3⟩ => .inr ⟨b, off, h1, Nat.le_trans hn h2, h3⟩
theorem Rws.keep (h : Rws enc k n0 w a xs) (hk : ∀ b, n0 ≤ b → b < w.heap.size → w'.heap[b]? = w.heap[b]?) : Rws enc k n0 w' a xs := by
  rcases h with h | ⟨b, off, ha, hb, h⟩
  · exact .inl h
  · refine .inr ⟨b, off, ha, hb, fun i x hx => cellsAt_of fun j v hj => ?_⟩
    have h1 := cellsAt_get (h i x hx) j v hj
    have h2 := block_lt_of_cell h1
    rw [cell_keep (hk b hb h2)]
    exact h1
theorem Rws.below (h : Rws enc k n0 w a xs) (hb : Below w.heap.size w w') : Rws enc k n0 w' a xs := h.keep fun b _ h2 => hb.block b h2
theorem Rws.box {g : Nat} (h : Rws enc k n0 w a xs) (hb : BoxSt g w w') (hg : g < n0) : Rws enc k n0 w' a xs := h.keep fun b h1 h2 => hb.1.block b h2 (by rw [List.mem_singleton]; omega)
theorem Rws.newbox {g : Nat} {w1 w2 : World} (h : Rws enc k n0 w a xs) (hb : Below w.heap.size w w1) (sg : w.heap.size = g) (hx : BoxSt g w1 w2) : Rws enc k n0 w2 a xs := h.keep fun b _ h2 => (hx.1.block b (by have := hb.size; omega) (by rw [List.mem_singleton]; omega)).trans (hb.block b h2)
theorem Rws.grown {r : Option Nat} (h : Rws enc k n0 w a xs) (hg : w.grownBy w' r) (hr : ∀ b, r = some b → b < n0) : Rws enc k n0 w' a xs := h.keep fun b h1 h2 => hg.block b h2 fun e => by have := hr b e.symm; omega
theorem Rws.get (h : Rws enc k n0 w a xs) {i : Nat} (hi : i < xs.length) : ∃ b off, a = some ⟨b, off, none⟩ ∧ cellsAt w b (off + i * k) (enc xs[i]) := by
  rcases h with rfl | ⟨b, off, ha, _, h⟩
  · simp at hi
  · exact ⟨b, off, ha, h i _ (List.getElem?_eq_getElem hi)⟩
theorem Rws.take (h : Rws enc k n0 w a xs) (n : Nat) : Rws enc k n0 w a (xs.take n) := by
  rcases h with rfl | ⟨b, off, ha, h0, h⟩
  · exact .inl (by simp)
  · refine .inr ⟨b, off, ha, h0, fun i x hx => h i x ?_⟩
    rw [List.getElem?_take] at hx
    split at hx
    · exact hx
    · cases hx
theorem flatK_len (hk : ∀ x, (enc x).length = k) : ∀ es : List α, (es.flatMap enc).length = es.length * k
  | [] => by simp
  | e :: r => by rw [List.flatMap_cons, List.length_append, flatK_len hk r, hk, List.length_cons, Nat.add_mul]; omega
theorem flatK_get (hk : ∀ x, (enc x).length = k) : ∀ (es : List α) (i : Nat) (e : α) (j : Nat), es[i]? = some e → j < k → (es.flatMap enc)[i * k + j]? = (enc e)[j]?
  | x :: r, 0, e, j, h, hj => by
    cases h
    rw [List.flatMap_cons, List.getElem?_append_left (by rw [hk]; omega)]
    congr 1; omega
  | x :: r, i + 1, e, j, h, hj => by
    have e1 : (i + 1) * k = i * k + k := by rw [Nat.add_mul, Nat.one_mul]
    rw [List.flatMap_cons, List.getElem?_append_right (by rw [hk]; omega), hk, show (i + 1) * k + j - k = i * k + j by omega]
    exact flatK_get hk r i e j (by simpa using h) hj
theorem Rws.ofOwn {t : TypeId} {n c : Nat} (hkp : 0 < k) (hk : ∀ x, (enc x).length = k) (h : Own w n0 t k (.slice a n c) n (xs.flatMap enc)) : Rws enc k n0 w a xs := by
  by_cases h0 : xs = []
  · exact .inl h0
  rcases h.2 with ⟨h1, h2⟩ | ⟨g, off, cap, cur, hv, hb, hg, hn, hm, hs, ht⟩
  · have h3 := h.1
    rw [flatK_len hk, h2, Nat.zero_mul] at h3
    exact absurd (List.length_eq_zero_iff.1 ((Nat.mul_eq_zero.1 h3).resolve_right (by omega))) h0
  · injection hv with h1 h2 h3
    subst h1; subst h3
    refine .inr ⟨g, off, rfl, hb, fun i x hx => cellsAt_list fun j v hv => ?_⟩
    have hj : j < k := by have := (List.getElem?_eq_some_iff.1 hv).1; rw [hk] at this; exact this
    have := flatK_get hk xs i x j hx hj
    rw [Nat.add_assoc]
    exact h.cells g off c rfl _ v (by rw [this]; exact hv)
theorem Rws.src {P : Program} {tx e' : TypeId} {c : Nat} (hT : P.underlying tx = some (.slice e')) (hkp : 0 < k) (hk : ∀ x, (enc x).length = k) (h1 : ∀ x, ∀ v ∈ enc x, v.oneCell' = true) (h : Rws enc k n0 w a xs) : Src P k tx (.slice a xs.length c) xs.length (xs.flatMap enc) w := by
  have hone : ∀ v ∈ xs.flatMap enc, v.oneCell' = true := fun v hv => by
    obtain ⟨x, _, hx⟩ := List.mem_flatMap.1 hv
    exact h1 x v hx
  cases a with
  | none =>
    rcases h with rfl | ⟨b, off, ha, _⟩
    · exact Src.ofNil w hT c
    · cases ha
  | some ad =>
    refine Src.ofSlice w hT ad _ _ _ (flatK_len hk xs) (fun j u hu => ?_) hone
    rcases h with rfl | ⟨b, off, ha, _, h⟩
    · cases hu
    · injection ha with ha; subst ha
      have hlt := (List.getElem?_eq_some_iff.1 hu).1
      rw [flatK_len hk] at hlt
      have hi : j / k < xs.length := (Nat.div_lt_iff_lt_mul hkp).2 hlt
      have hm : j % k < k := Nat.mod_lt _ hkp
      have hx := List.getElem?_eq_getElem hi
      have h1 := flatK_get hk xs (j / k) _ (j % k) hx hm
      have hd : j / k * k + j % k = j := by rw [Nat.mul_comm]; exact Nat.div_add_mod j k
      rw [hd, hu] at h1
      have := cellsAt_get (h _ _ hx) (j % k) u h1.symm
      rw [Addr.add_lit]
      rwa [Nat.add_assoc, hd] at this
end
theorem Rws.one {α : Type} {enc : α → List Value} {k n0 g : Nat} {w : World} {x : α} {t : TypeId} {fr : Nat × Nat} (h : w.heap[g]? = some (.cells (enc x).toArray t fr)) (hg : n0 ≤ g) : Rws enc k n0 w (some ⟨g, 0, none⟩) [x] := by
  refine .inr ⟨g, 0, rfl, hg, fun i y hy => ?_⟩
  have hi : i = 0 := by have := (List.getElem?_eq_some_iff.1 hy).1; simp at this; omega
  subst hi
  simp at hy
  subst hy
  rw [Nat.zero_mul]
  exact cellsAt_row h (by simp)
theorem Own.box {w w1 : World} {n1 size n g : Nat} {e : TypeId} {v : Value} {xs : List Value} (h : Own w n1 e size v n xs) (hb : BoxSt g w w1) (hg : ∀ k, v.ownBlock = some k → k ≠ g) : Own w1 n1 e size v n xs := h.keep fun k hk => hb.1.block k (h.lt k hk).2 (by rw [List.mem_singleton]; exact hg k hk)
/-- A new box was made and filled. -/
theorem Own.newbox {w w1 w2 : World} {n1 size n g : Nat} {e : TypeId} {v : Value} {xs : List Value} (h : Own w n1 e size v n xs) (hb : Below w.heap.size w w1) (sg : w.heap.size = g) (hx : BoxSt g w1 w2) : Own w2 n1 e size v n xs := (h.below hb (Nat.le_refl _)).box hx fun k hk => by have := (h.lt k hk).2; omega
/-- What is appended to, is one's own. -/
theorem appB {P : Program} {gs : List Nat} {w0 w : World} {e : TypeId} {size bytes n1 n c m : Nat} {tx : TypeId} {a : Option Addr} {x : Value} {xs news : List Value} {K : Nat → Option Addr → Nat → World → Prop}
    (B : Bs w0 w) (o : Own w n1 e size (.slice a n c) n xs) (hn1 : w0.heap.size ≤ n1) (hn2 : n1 ≤ w.heap.size) (s : Src P size tx x m news w) (h1 : n + m ≤ maxLen) (h2 : (n + m) * bytes ≤ 140737488355328)
    (hg : ∀ g ∈ gs, (Value.slice a n c).ownBlock ≠ some g)
    (k : ∀ a' c' w1, Own w1 n1 e size (.slice a' (n + m) c') (n + m) (xs ++ news) → w.grownBy w1 (Value.slice a n c).ownBlock → Bs w0 w1 → w.heap.size ≤ w1.heap.size → K m a' c' w1) :
    appO P gs w e size bytes tx a n c x K := by
  refine ⟨m, xs, news, o.base_le fun _ _ => Nat.zero_le _, s, h1, h2, hg, fun a' c' w1 o1 g1 or1 _ => k a' c' w1 (o1.base_le fun q hq => ?_) g1 ?_ g1.size⟩
  · rcases or1 with h | ⟨g, h, h3⟩
    · exact (o.lt q (h ▸ hq)).1
    · rw [h] at hq; injection hq with hq; omega
  · exact ⟨g1.os.trans B.os, g1.tape.trans B.tape, g1.output.trans B.output, Nat.le_trans B.size g1.size, fun q hq => (g1.block q (by have := B.size; omega) fun e => by have := (o.lt q e.symm).1; omega).trans (B.block q hq)⟩
end Go.Proofs.Ytbolfgafiejkaaa
end
section
/- More steps of functions seen from the world that they began in: blocks that are written over. No program in sight. -/
namespace Go.Proofs.Ytbolfgafiejkaaa
open Go.RowKit
/-- Cells of a block that are written over. -/
theorem stO_part {w : World} {g off : Nat} {t : TypeId} {cs : Array Value} {vs : List Value} {gs : List Nat} {K : World → Prop} (h : Bk w g cs t) (hl : off + vs.length ≤ cs.size) (hg : ∀ x ∈ gs, x ≠ g)
    (k : ∀ w1, Bk w1 g (setL cs.toList off vs).toArray t → Fr [g] w w1 → w1.heap.size = w.heap.size → K w1) : stO gs w g off vs K := by
  have key : ∀ (vs : List Value) (w : World) (cs : Array Value) (off : Nat), Bk w g cs t → off + vs.length ≤ cs.size → Bk (w.setCells g off vs) g (setL cs.toList off vs).toArray t ∧ Fr [g] w (w.setCells g off vs) ∧ (w.setCells g off vs).heap.size = w.heap.size := by
    intro vs
    induction vs with
    | nil => intro w cs off h _; exact ⟨by simpa [World.setCells, setL] using h, Fr.refl _ _, rfl⟩
    | cons v r ih =>
      intro w cs off h hl
      rw [List.length_cons] at hl
      obtain ⟨k1, k2, k3⟩ := ih (w.setCell ⟨g, off, none⟩ v) (cs.setIfInBounds off v) (off + 1) (h.setCell off v) (by simp; omega)
      refine ⟨?_, ((Fr.refl [g] w).setCell (p := ⟨g, off, none⟩) (.inl (by simp)) v).trans k2 (Gr.refl _ _), by rw [show w.setCells g off (v :: r) = (w.setCell ⟨g, off, none⟩ v).setCells g (off + 1) r from rfl, k3]; simp [World.setCell]⟩
      rw [Array.toList_setIfInBounds] at k1
      exact k1
  obtain ⟨k1, k2, k3⟩ := key vs w cs off h hl
  exact ⟨hg, h.there hl, fun w1 e => by subst e; exact k _ k1 k2 k3⟩
theorem setL_whole {vs xs : List Value} (h : vs.length = xs.length) : setL xs 0 vs = vs := by
  apply List.ext_getElem?
  intro i
  rw [setL_get vs xs 0 i (by omega)]
  by_cases hi : i < vs.length
  · rw [if_pos ⟨Nat.zero_le _, by omega⟩]; rfl
  · rw [if_neg (by omega), List.getElem?_eq_none (by omega), List.getElem?_eq_none (by omega)]
theorem Bs.fr {w0 w w1 : World} {L : List Nat} (B : Bs w0 w) (h : Fr L w w1) (hL : ∀ k ∈ L, w0.heap.size ≤ k) : Bs w0 w1 := Below.trans B (h.below hL B.size)
theorem Bs.fr1 {w0 w w1 : World} {g : Nat} (B : Bs w0 w) (h : Fr [g] w w1) (hg : w0.heap.size ≤ g) : Bs w0 w1 := B.fr h fun k hk => by rw [List.mem_singleton] at hk; omega
/-- A block of one's own is written over, wholly. -/
theorem stB {w0 w : World} {g : Nat} {t : TypeId} {cs : Array Value} {vs : List Value} {gs : List Nat} {K : World → Prop} (B : Bs w0 w) (hg0 : w0.heap.size ≤ g) (h : Bk w g cs t) (hl : vs.length = cs.size) (hg : ∀ x ∈ gs, x ≠ g)
    (k : ∀ w1, Bk w1 g vs.toArray t → Fr [g] w w1 → Bs w0 w1 → w1.heap.size = w.heap.size → K w1) : stO gs w g 0 vs K :=
  stO_part h (by omega) hg fun w1 h1 f1 z1 => k w1 (by rw [setL_whole (by simpa using hl)] at h1; exact h1) f1 (B.fr1 f1 hg0) z1
/-- One cell of it. -/
theorem stB1 {w0 w : World} {g i : Nat} {t : TypeId} {cs : Array Value} {v : Value} {gs : List Nat} {K : World → Prop} (B : Bs w0 w) (hg0 : w0.heap.size ≤ g) (h : Bk w g cs t) (hi : i < cs.size) (hg : ∀ x ∈ gs, x ≠ g)
    (k : ∀ w1, Bk w1 g (cs.setIfInBounds i v) t → Fr [g] w w1 → Bs w0 w1 → w1.heap.size = w.heap.size → K w1) : stO gs w g i [v] K :=
  stO_bk h hi hg fun w1 h1 f1 z1 => k w1 h1 f1 (B.fr1 f1 hg0) z1
theorem Bk.below {w w1 : World} {g : Nat} {cs : Array Value} {t : TypeId} (h : Bk w g cs t) (hb : Below w.heap.size w w1) : Bk w1 g cs t := h.keep (hb.block g h.lt)
theorem Bk.box {w w1 : World} {g k : Nat} {cs : Array Value} {t : TypeId} (h : Bk w g cs t) (hb : BoxSt k w w1) (hk : g ≠ k) : Bk w1 g cs t := h.keep (hb.1.block g h.lt (by rw [List.mem_singleton]; exact hk))
theorem Bk.fr {w w1 : World} {g : Nat} {L : List Nat} {cs : Array Value} {t : TypeId} (h : Bk w g cs t) (hb : Fr L w w1) (hk : g ∉ L) : Bk w1 g cs t := h.keep (hb.block g h.lt hk)
theorem Bk.fr1 {w w1 : World} {g k : Nat} {cs : Array Value} {t : TypeId} (h : Bk w g cs t) (hb : Fr [k] w w1) (hk : g ≠ k) : Bk w1 g cs t := h.fr hb (by rw [List.mem_singleton]; exact hk)
end Go.Proofs.Ytbolfgafiejkaaa
end
section
/- Arrays of structs in a block, told by a function of the place. No program in sight. -/
namespace Go.Proofs.Ytbolfgafiejkaaa
open Go.RowKit
def fArr (n : Nat) (f : Nat → Value) : Array Value := ((List.range n).map f).toArray
theorem fArr_size (n : Nat) (f : Nat → Value) : (fArr n f).size = n := by simp [fArr]
theorem fArr_get {n j : Nat} (f : Nat → Value) (h : j < n) : (fArr n f)[j]? = some (f j) := by simp [fArr, h]
theorem fArr_congr {n : Nat} {f f' : Nat → Value} (h : ∀ j, j < n → f j = f' j) : fArr n f = fArr n f' := by
  unfold fArr
  congr 1
  exact List.map_congr_left fun j hj => h j (List.mem_range.1 hj)
theorem fArr_of {n : Nat} {f : Nat → Value} {cs : Array Value} (hs : cs.size = n) (h : ∀ j, j < n → cs[j]? = some (f j)) : cs = fArr n f := by
  apply Array.ext_getElem?
  intro j
  by_cases hj : j < n
  · rw [h j hj, fArr_get f hj]
  · rw [Array.getElem?_eq_none (by omega), Array.getElem?_eq_none (by rw [fArr_size]; omega)]
/-- n structs of k cells each, one behind the other. -/
def sArr (n k : Nat) (enc : Nat → List Value) : Array Value := fArr (n * k) fun j => (enc (j / k)).getD (j % k) (.bool false)
section
variable {n k : Nat} {enc enc' : Nat → List Value}
theorem sArr_size (n k : Nat) (enc : Nat → List Value) : (sArr n k enc).size = n * k := fArr_size _ _
theorem div_lt_of {j n k : Nat} (h : j < n * k) : j / k < n ∧ j % k < k ∧ 0 < k := by
  have hk : 0 < k := by
    rcases Nat.eq_zero_or_pos k with rfl | h'
    · simp at h
    · exact h'
  exact ⟨(Nat.div_lt_iff_lt_mul hk).2 h, Nat.mod_lt _ hk, hk⟩
theorem place_div {i c k : Nat} (hc : c < k) : (i * k + c) / k = i ∧ (i * k + c) % k = c := by
  have hk : 0 < k := by omega
  refine ⟨?_, ?_⟩
  · rw [Nat.mul_comm, Nat.mul_add_div hk, Nat.div_eq_of_lt hc, Nat.add_zero]
  · rw [Nat.mul_comm, Nat.mul_add_mod, Nat.mod_eq_of_lt hc]
theorem place_lt {i c n k : Nat} (hi : i < n) (hc : c < k) : i * k + c < n * k := by
  have : (i + 1) * k ≤ n * k := Nat.mul_le_mul_right k hi
  rw [Nat.add_mul, Nat.one_mul] at this
  omega
theorem sArr_get {i c : Nat} {v : Value} (hi : i < n) (hc : c < k) (hv : (enc i)[c]? = some v) : (sArr n k enc)[i * k + c]? = some v := by
  unfold sArr
  rw [fArr_get _ (place_lt hi hc), (place_div hc).1, (place_div hc).2, List.getD_eq_getElem?_getD, hv]
  rfl
theorem sArr_congr (h : ∀ i, i < n → enc i = enc' i) : sArr n k enc = sArr n k enc' := fArr_congr fun j hj => by rw [h _ (div_lt_of hj).1]
theorem sArr_of {cs : Array Value} (hk : ∀ i, i < n → (enc i).length = k) (hs : cs.size = n * k) (h : ∀ i c, i < n → c < k → cs[i * k + c]? = (enc i)[c]?) : cs = sArr n k enc := by
  refine fArr_of hs fun j hj => ?_
  obtain ⟨h1, h2, h3⟩ := div_lt_of hj
  have hjk : j / k * k + j % k = j := by rw [Nat.mul_comm]; exact Nat.div_add_mod j k
  have := h (j / k) (j % k) h1 h2
  rw [hjk] at this
  have hl : j % k < (enc (j / k)).length := by rw [hk _ h1]; exact h2
  rw [this, List.getD_eq_getElem?_getD, List.getElem?_eq_getElem hl]
  rfl
theorem sArr_cells {w : World} {g : Nat} {t : TypeId} (h : Bk w g (sArr n k enc) t) {i : Nat} (hi : i < n) (hk : (enc i).length = k) : cellsAt w g (i * k) (enc i) := cellsAt_of fun c v hv => by
  have hc : c < k := by rw [← hk]; exact (List.getElem?_eq_some_iff.1 hv).1
  rw [h.cell]; exact sArr_get hi hc hv
theorem sArr_cell {w : World} {g : Nat} {t : TypeId} (h : Bk w g (sArr n k enc) t) {i c : Nat} {v : Value} (hi : i < n) (hc : c < k) (hv : (enc i)[c]? = some v) : w.cell? ⟨g, i * k + c, none⟩ = some v := by
  rw [h.cell]; exact sArr_get hi hc hv
/-- One struct is written over. -/
theorem sArr_setL {i : Nat} {vs : List Value} (hi : i < n) (hv : vs.length = k) (hk : ∀ i, i < n → (enc i).length = k) : (setL (sArr n k enc).toList (i * k) vs).toArray = sArr n k (fun j => if j = i then vs else enc j) := by
  refine sArr_of (fun j hj => ?_) (by simp [setL_len, sArr_size]) fun j c hj hc => ?_
  · split
    · exact hv
    · exact hk j hj
  · have hle : i * k + vs.length ≤ (sArr n k enc).toList.length := by
      simp [sArr_size, hv]
      have : (i + 1) * k ≤ n * k := Nat.mul_le_mul_right k hi
      rw [Nat.add_mul, Nat.one_mul] at this
      omega
    rw [List.getElem?_toArray, setL_get _ _ _ _ hle]
    by_cases he : j = i
    · subst he
      rw [if_pos ⟨by omega, by omega⟩, if_pos rfl, show j * k + c - j * k = c by omega]
    · have hne : ¬ (i * k ≤ j * k + c ∧ j * k + c < i * k + vs.length) := by
        rintro ⟨h1, h2⟩
        rw [hv] at h2
        have h3 := (place_div (i := j) hc).1
        have h4 := (place_div (i := i) (c := j * k + c - i * k) (k := k) (by omega)).1
        rw [show i * k + (j * k + c - i * k) = j * k + c by omega, h3] at h4
        exact he h4
      have hl : c < (enc j).length := by rw [hk j hj]; exact hc
      rw [if_neg he, if_neg hne, Array.getElem?_toList, sArr_get hj hc (List.getElem?_eq_getElem hl), List.getElem?_eq_getElem hl]
/-- One cell of one struct is written over. -/
theorem sArr_set {i c : Nat} {v : Value} (hi : i < n) (hc : c < k) (hk : ∀ i, i < n → (enc i).length = k) : (sArr n k enc).setIfInBounds (i * k + c) v = sArr n k (fun j => if j = i then (enc j).set c v else enc j) := by
  refine sArr_of (fun j hj => ?_) (by simp [sArr_size]) fun j d hj hd => ?_
  · split
    · rw [List.length_set]; exact hk j hj
    · exact hk j hj
  · have hl : d < (enc j).length := by rw [hk j hj]; exact hd
    have hg := sArr_get hj hd (List.getElem?_eq_getElem hl)
    by_cases he : i * k + c = j * k + d
    · have h1 := place_div (i := i) hc
      have h2 := place_div (i := j) hd
      rw [he] at h1
      obtain rfl : j = i := h2.1.symm.trans h1.1
      obtain rfl : d = c := h2.2.symm.trans h1.2
      rw [if_pos rfl, Array.getElem?_setIfInBounds_self_of_lt (by rw [sArr_size]; exact place_lt hi hc), List.getElem?_set_self hl]
    · rw [Array.getElem?_setIfInBounds_ne he, hg]
      by_cases hji : j = i
      · subst hji
        rw [if_pos rfl, List.getElem?_set_ne (by omega), List.getElem?_eq_getElem hl]
      · rw [if_neg hji, List.getElem?_eq_getElem hl]
end
end Go.Proofs.Ytbolfgafiejkaaa
end
section
/- 'slices.Sorted(maps.Keys(m))' of a map with int keys, out of the library's contracts. No program in sight. -/
namespace Go.Proofs.Ytbolfgafiejkaaa
open Go.RowKit Go.Maps Go.Sort Go.Shelf Go.MapKept
variable {P : Program}
abbrev R0 : Value → Option (DataW Unit × List MemPlace) := fun _ => some (.nil, [])
def litOf (p : Int × Value) : Lit × DataW Unit := (.int .i64 p.1, .nil)
theorem in64_wf {x : Int} (h : -9223372036854775808 ≤ x ∧ x ≤ 9223372036854775807) : (Lit.int .i64 x).wf = true := by
  have h1 : IntKind.i64.min = -9223372036854775808 := by decide
  have h2 : IntKind.i64.max = 9223372036854775807 := by decide
  simp [Lit.wf, h1, h2]
  omega
theorem MapAt.owns {k : TypeId} (hk : P.underlying k = some (.int .i64)) {w : World} {b : Nat} {m : List (Int × Value)} (h : MapAt w b m) (hr : ∀ p ∈ m, -9223372036854775808 ≤ p.1 ∧ p.1 ≤ 9223372036854775807) (hl : m.length ≤ maxLen) :
    w.ownsMap P k R0 b m.length (.map ((m.map litOf).foldr DataW.insert [])) := by
  obtain ⟨es, clock, hb, hs, hm⟩ := h
  have hlen : es.size = m.length := by have := congrArg List.length hm; simpa using this
  have hrd : ∀ x ∈ es.toList, ∃ p ∈ m, x.key = .int .i64 p.1 ∧ WideElems.rd P k R0 x = some (litOf p) := by
    intro x hx
    have : (x.key, x.val) ∈ m.map kvOf := hm ▸ List.mem_map.2 ⟨x, hx, rfl⟩
    obtain ⟨p, hp, hpe⟩ := List.mem_map.1 this
    have hkey : x.key = .int .i64 p.1 := (congrArg Prod.fst hpe).symm
    refine ⟨p, hp, hkey, ?_⟩
    have := keyOf_int_mk hk (in64_wf (hr p hp))
    unfold WideElems.rd
    rw [hkey, this]
    rfl
  refine ⟨es, clock, hb, ⟨by omega, hs, fun x hx => ?_⟩, by omega, ?_⟩
  · obtain ⟨p, _, _, h⟩ := hrd x hx
    exact ⟨_, h⟩
  · have : es.toList.map (WideElems.rg P k R0) = m.map litOf := by
      have key : ∀ (l : List MapEntry) (m : List (Int × Value)), l.map (fun e => (e.key, e.val)) = m.map kvOf → (∀ x ∈ l, ∃ p : Int × Value, x.key = .int .i64 p.1 ∧ WideElems.rd P k R0 x = some (litOf p)) → l.map (WideElems.rg P k R0) = m.map litOf := by
        intro l
        induction l with
        | nil => intro m h _; cases m with | nil => rfl | cons _ _ => cases h
        | cons x l ih =>
          intro m h hx
          cases m with
          | nil => cases h
          | cons q m =>
            injection h with h1 h2
            obtain ⟨p, e1, e2⟩ := hx x (List.mem_cons_self ..)
            have e3 : x.key = .int .i64 q.1 := congrArg Prod.fst h1
            have e4 : p.1 = q.1 := kv_inj (e1.symm.trans e3)
            rw [List.map_cons, List.map_cons, ih m h2 fun y hy => hx y (List.mem_cons_of_mem _ hy)]
            congr 1
            unfold WideElems.rg
            rw [e2]
            show litOf p = litOf q
            unfold litOf
            rw [e4]
      exact key _ _ hm fun x hx => by obtain ⟨p, _, h1, h2⟩ := hrd x hx; exact ⟨p, h1, h2⟩
    rw [this]
theorem intKeys_perm (m : List (Int × Value)) : (intKeys (.map ((m.map litOf).foldr DataW.insert []) : DataW Unit)).Perm (m.map (·.1)) := by
  show (((m.map litOf).foldr DataW.insert []).map fun p : Lit × DataW Unit => Go.intOf p.1).Perm _
  refine ((WideShapes.sorted_perm (m.map litOf)).map _).trans ?_
  rw [List.map_map]
  exact List.Perm.refl _
/-- The keys, sorted. -/
def sortK (m : List (Int × Value)) : List Int := (m.map (·.1)).mergeSort leI
theorem Own.ofRow {w : World} {base : Nat} {e : TypeId} {size : Nat} {v : Value} {n : Nat} {xs : List Value} (h : w.ownsRow base e size v n xs) : Own w base e size v n xs := by
  refine ⟨h.1, h.2.elim .inl fun ⟨g, cap, cur, h1, h2, h3, h4, h5, h6, h7⟩ => .inr ⟨g, 0, cap, cur, h1, h2, h3, h4, h5, by omega, by rw [List.drop_zero]; exact h7⟩⟩
section
variable {ρK ρS ρQ : Ren}
theorem sortK_calls (LK : SlLaysZI.n10 P ρK) (LS : SlLaysZI.n6 P ρS) (hk : P.underlying (ρK.t 26) = some (.int .i64)) (hsort : AnyZI.SortsIn P ρS Fence.wide 4)
    (e9 : ∀ args w, (callFunc (ρS.f 9) args).run P w = .ok (.enter (ρS.f 9) args) w) (eg : ∀ args w, (callFunc (ρK.f 10) args).run P w = .ok (.enter (ρK.f 10) args) w)
    (w : World) (Bm b : Nat) (m : List (Int × Value)) (hBm : Bm < w.heap.size) (hc : w.cell? ⟨Bm, 0, none⟩ = some (.map (some b))) (h : MapAt w b m)
    (hr : ∀ p ∈ m, -9223372036854775808 ≤ p.1 ∧ p.1 ≤ 9223372036854775807) (hl : m.length ≤ 1000000) :
    Calls P (ρS.f 6) #[.func (.func (ρK.f 10)) #[] #[.pointer (some ⟨Bm, 0, none⟩)]] w fun e w' => ∃ a c, e = .returned (.slice a (sortK m).length c) ∧
      Own w' w.heap.size (ρS.t 26) 1 (.slice a (sortK m).length c) (sortK m).length ((sortK m).map (Value.int .i64)) ∧ (a = none ↔ sortK m = []) ∧ Below w.heap.size w w' := by
  have hlm : m.length ≤ maxLen := by unfold maxLen; omega
  have hown := h.owns hk hr hlm
  have hsz : Maps.size (.map ((m.map litOf).foldr DataW.insert []) : DataW Unit) = m.length := by
    show ((m.map litOf).foldr DataW.insert []).length = _
    rw [length_sorted]; simp
  have hseq : SeqGives Fence.wide 2 P (ρK.f 10) #[.pointer (some ⟨Bm, 0, none⟩)] encZ (fun ss => ss.Perm (intKeys (.map ((m.map litOf).foldr DataW.insert []) : DataW Unit))) m.length w := by
    have := AnyZI.keys_gives (ρ := ρK) LK Fence.wide 2 trivial rfl (by omega) Bm b m.length (.map ((m.map litOf).foldr DataW.insert []) : DataW Unit) w hBm hc hown
    rw [hsz] at this
    exact this
  have cS := AnyZI.sorted_in LS Fence.wide 5 trivial trivial trivial trivial rfl (by omega) (by exact hsort) e9 (ρK.f 10) #[.pointer (some ⟨Bm, 0, none⟩)] trivial eg _ m.length hlm (by omega) w hseq
  refine ((callsIn_wide (n := 5)).1 cS).mono ?_
  rintro e w' ⟨v, ss, rfl, hS, hrow, hnil, hb⟩
  have hp : ss.Perm (m.map (·.1)) := hS.trans (intKeys_perm m)
  have hms : ss.mergeSort (fun x y => decide (x ≤ y)) = sortK m := mergeSort_of_perm_i hp
  rw [hms] at hrow
  have hlen : ss.length = (sortK m).length := by rw [← hms]; exact (List.mergeSort_perm ss _).length_eq.symm
  rw [hlen] at hrow
  have ho := Own.ofRow hrow
  obtain ⟨a, c, rfl⟩ := ho.isSlice
  refine ⟨a, c, rfl, ho, ?_, hb⟩
  have hss : ss = [] ↔ sortK m = [] := by
    rw [← List.length_eq_zero_iff, ← List.length_eq_zero_iff, hlen]
  rw [← hss, ← hnil]
  constructor
  · rintro rfl
    rcases ho.2 with ⟨h1, h2⟩ | ⟨g, off, cap, cur, h1, _⟩
    · rw [h1]
    · cases h1
  · intro e; injection e
end
end Go.Proofs.Ytbolfgafiejkaaa
end
section
/- The disk of layer 4, as a function: what lasts, the cache, what is left of the power. No program in sight. -/
namespace Go.Proofs.Ytbolfgafiejkaaa
open Go.RowKit
structure DS where
  n : Nat
  last : Nat → List UInt8
  cch : Nat → Option (List UInt8)
  left : Int
  off : Bool
def zero64 : List UInt8 := List.replicate 64 0
structure DWf (S : DS) : Prop where
  n1 : 1 ≤ S.n
  n2 : S.n ≤ 8192
  last : ∀ i, (S.last i).length = 64
  cch : ∀ i s, S.cch i = some s → i < S.n ∧ s.length = 64
  left0 : 0 ≤ S.left
  leftM : S.left ≤ 9223372036854775807
def newS (n : Nat) : DS := ⟨n, fun _ => zero64, fun _ => none, 0, false⟩
theorem newS_wf {n : Nat} (h1 : 1 ≤ n) (h2 : n ≤ 8192) : DWf (newS n) := ⟨h1, h2, fun _ => rfl, fun _ _ h => (by cases h), by show (0 : Int) ≤ 0; decide, by show (0 : Int) ≤ _; decide⟩
def nowS (S : DS) (i : Nat) : List UInt8 := (S.cch i).getD (S.last i)
theorem DWf.now {S : DS} (h : DWf S) (i : Nat) : (nowS S i).length = 64 := by
  unfold nowS
  cases hc : S.cch i with
  | none => exact h.last i
  | some s => exact (h.cch i s hc).2
def mayE (S : DS) (first n : Int) : Int := if S.off = true then 12 else if 0 ≤ first ∧ 0 ≤ n ∧ first ≤ S.n ∧ n ≤ S.n - first then 0 else 1
theorem mayE_zero {S : DS} {first n : Int} (h : mayE S first n = 0) : S.off = false ∧ 0 ≤ first ∧ 0 ≤ n ∧ first ≤ S.n ∧ n ≤ S.n - first := by
  unfold mayE at h
  split at h
  · omega
  · rename_i ho
    split at h
    · rename_i hc; exact ⟨by cases hh : S.off; rfl; exact absurd hh ho, hc⟩
    · omega
def readS (S : DS) (first n : Nat) : List UInt8 := (List.range n).flatMap fun i => nowS S (first + i)
theorem readS_succ (S : DS) (first n : Nat) : readS S first (n + 1) = readS S first n ++ nowS S (first + n) := by
  unfold readS
  rw [List.range_succ, List.flatMap_append]
  simp
theorem readS_len {S : DS} (h : DWf S) (first : Nat) : ∀ n, (readS S first n).length = n * 64
  | 0 => rfl
  | n + 1 => by rw [readS_succ, List.length_append, readS_len h first n, h.now]; omega
def readL (S : DS) (first n : Int) : List UInt8 := if mayE S first n = 0 then readS S first.toNat n.toNat else []
def putK (S : DS) (k : Nat) (s : List UInt8) : DS :=
  ⟨S.n, S.last, fun i => if i = k then some s else S.cch i, if 0 < S.left then S.left - 1 else S.left, if 0 < S.left then decide (S.left - 1 = 0) else S.off⟩
theorem DWf.put {S : DS} (h : DWf S) {k : Nat} {s : List UInt8} (hk : k < S.n) (hs : s.length = 64) : DWf (putK S k s) := by
  refine ⟨h.n1, h.n2, h.last, fun i t ht => ?_, ?_, ?_⟩
  · change (if i = k then some s else S.cch i) = some t at ht
    split at ht
    · rename_i e; subst e; injection ht with ht; subst ht; exact ⟨hk, hs⟩
    · exact h.cch i t ht
  · show (0 : Int) ≤ if 0 < S.left then S.left - 1 else S.left
    have := h.left0
    split <;> omega
  · show (if 0 < S.left then S.left - 1 else S.left) ≤ (9223372036854775807 : Int)
    have := h.leftM
    split <;> omega
/-- Pieces put one behind the other, till the power is off. -/
def wrS (S : DS) (first : Nat) (f : Nat → List UInt8) : Nat → DS
  | 0 => S
  | k + 1 => if (wrS S first f k).off = true then wrS S first f k else putK (wrS S first f k) (first + k) (f k)
theorem wrS_n (S : DS) (first : Nat) (f : Nat → List UInt8) : ∀ k, (wrS S first f k).n = S.n
  | 0 => rfl
  | k + 1 => by
    rw [wrS]
    split
    · exact wrS_n S first f k
    · exact wrS_n S first f k
theorem wrS_stay {S : DS} {first : Nat} {f : Nat → List UInt8} {i : Nat} (h : (wrS S first f i).off = true) : ∀ {j : Nat}, i ≤ j → wrS S first f j = wrS S first f i
  | 0, hj => by rw [show i = 0 by omega]
  | j + 1, hj => by
    by_cases e : i = j + 1
    · rw [e]
    · have := wrS_stay h (j := j) (by omega)
      rw [wrS, this, if_pos h]
theorem DWf.wr {S : DS} (h : DWf S) {first : Nat} {f : Nat → List UInt8} : ∀ {m : Nat}, (∀ k, k < m → (f k).length = 64) → first + m ≤ S.n → DWf (wrS S first f m)
  | 0, _, _ => h
  | m + 1, hf, hm => by
    have ih := DWf.wr h (first := first) (f := f) (m := m) (fun k hk => hf k (by omega)) (by omega)
    rw [wrS]
    split
    · exact ih
    · exact ih.put (by rw [wrS_n]; omega) (hf m (by omega))
def pieceB (b : List UInt8) (k : Nat) : List UInt8 := (b.drop (k * 64)).take 64
theorem pieceB_len {b : List UInt8} {k m : Nat} (h : b.length = m * 64) (hk : k < m) : (pieceB b k).length = 64 := by
  unfold pieceB
  rw [List.length_take, List.length_drop, h]
  have : (k + 1) * 64 ≤ m * 64 := Nat.mul_le_mul_right 64 hk
  omega
def writeE (S : DS) (first : Int) (b : List UInt8) : Int :=
  if mayE S first ((b.length / 64 : Nat) : Int) ≠ 0 then mayE S first ((b.length / 64 : Nat) : Int)
  else if b.length % 64 ≠ 0 then 1 else if (wrS S first.toNat (pieceB b) (b.length / 64)).off = true then 12 else 0
def writeD (S : DS) (first : Int) (b : List UInt8) : DS :=
  if mayE S first ((b.length / 64 : Nat) : Int) = 0 ∧ b.length % 64 = 0 then wrS S first.toNat (pieceB b) (b.length / 64) else S
theorem DWf.write {S : DS} (h : DWf S) (first : Int) (b : List UInt8) : DWf (writeD S first b) := by
  unfold writeD
  split
  · rename_i hc
    obtain ⟨h1, h2, h3, h4, h5⟩ := mayE_zero hc.1
    have hb : b.length = b.length / 64 * 64 := by omega
    exact h.wr (fun k hk => pieceB_len hb hk) (by omega)
  · exact h
def syncE (S : DS) : Int := if S.off = true then 12 else 0
def syncD (S : DS) : DS := if S.off = true then S else ⟨S.n, nowS S, fun _ => none, S.left, S.off⟩
theorem DWf.sync {S : DS} (h : DWf S) : DWf (syncD S) := by
  unfold syncD
  split
  · exact h
  · exact ⟨h.n1, h.n2, h.now, fun _ _ q => (by cases q), h.left0, h.leftM⟩
def cutD (S : DS) (n : Int) : DS := ⟨S.n, S.last, S.cch, max n 0, S.off⟩
theorem DWf.cut {S : DS} (h : DWf S) {n : Int} (hn : n ≤ 9223372036854775807) : DWf (cutD S n) := ⟨h.n1, h.n2, h.last, h.cch, by show (0 : Int) ≤ max n 0; omega, by show max n 0 ≤ (9223372036854775807 : Int); omega⟩
/-! What is in the cache, in order; how many stand before. -/
def dirtyS (S : DS) (i : Nat) : Bool := (S.cch i).isSome
def dirtyL (S : DS) : List Nat := (List.range S.n).filter (dirtyS S)
def rk (p : Nat → Bool) (i : Nat) : Nat := ((List.range i).filter p).length
theorem rk_succ (p : Nat → Bool) (i : Nat) : rk p (i + 1) = rk p i + if p i = true then 1 else 0 := by
  unfold rk
  rw [List.range_succ, List.filter_append, List.length_append]
  congr 1
  cases h : p i <;> simp [h]
theorem filt_get (p : Nat → Bool) : ∀ (n k i : Nat), ((List.range n).filter p)[k]? = some i → k = rk p i ∧ i < n ∧ p i = true
  | 0, k, i, h => by simp at h
  | n + 1, k, i, h => by
    rw [List.range_succ, List.filter_append] at h
    by_cases hk : k < ((List.range n).filter p).length
    · rw [List.getElem?_append_left hk] at h
      obtain ⟨a, b, c⟩ := filt_get p n k i h
      exact ⟨a, by omega, c⟩
    · rw [List.getElem?_append_right (by omega)] at h
      cases hp : p n with
      | false => simp [hp] at h
      | true =>
        simp only [List.filter_cons, hp, if_true, List.filter_nil] at h
        have hz : k - ((List.range n).filter p).length = 0 := by
          have := (List.getElem?_eq_some_iff.1 h).1
          simpa using this
        rw [hz] at h
        simp at h
        subst h
        exact ⟨by unfold rk; omega, by omega, hp⟩
theorem filt_rk (p : Nat → Bool) {n i : Nat} (hi : i < n) (hp : p i = true) : ((List.range n).filter p)[rk p i]? = some i := by
  have hm : i ∈ (List.range n).filter p := List.mem_filter.2 ⟨List.mem_range.2 hi, hp⟩
  obtain ⟨k, hk⟩ := List.getElem?_of_mem hm
  rw [← (filt_get p n k i hk).1]
  exact hk
def crashD (S : DS) (kept : List Bool) : DS := ⟨S.n, fun i => if dirtyS S i = true ∧ kept.getD (rk (dirtyS S) i) false = true then nowS S i else S.last i, fun _ => none, 0, false⟩
theorem DWf.crash {S : DS} (h : DWf S) (kept : List Bool) : DWf (crashD S kept) :=
  ⟨h.n1, h.n2, fun i => by
    show (if dirtyS S i = true ∧ kept.getD (rk (dirtyS S) i) false = true then nowS S i else S.last i).length = 64
    split
    · exact h.now i
    · exact h.last i, fun _ _ q => (by cases q), by show (0 : Int) ≤ 0; decide, by show (0 : Int) ≤ _; decide⟩
/-! Values. -/
def secV (s : List UInt8) : Value := .agg (s.map bV).toArray
def cD (S : DS) (k : Int) : Option Value := if k < 0 then none else (S.cch k.toNat).map secV
theorem cD_nat (S : DS) (k : Nat) : cD S (k : Int) = (S.cch k).map secV := by unfold cD; rw [if_neg (by omega), Int.toNat_natCast]
def dirtyI (S : DS) : List Int := (dirtyL S).map fun (i : Nat) => (i : Int)
theorem dirtyL_sorted (S : DS) : (dirtyL S).Pairwise (· < ·) := (List.pairwise_lt_range).filter _
theorem dirtyI_sorted (S : DS) : (dirtyI S).Pairwise (· < ·) := by
  unfold dirtyI
  rw [List.pairwise_map]
  exact (dirtyL_sorted S).imp fun h => by omega
theorem dirtyL_le {S : DS} (h : DWf S) : (dirtyL S).length ≤ 8192 := by
  have := List.length_filter_le (dirtyS S) (List.range S.n)
  rw [List.length_range] at this
  exact Nat.le_trans this h.n2
theorem mem_dirtyI {S : DS} (h : DWf S) {k : Int} : k ∈ dirtyI S ↔ 0 ≤ k ∧ (S.cch k.toNat).isSome = true := by
  unfold dirtyI dirtyL
  rw [List.mem_map]
  constructor
  · rintro ⟨i, hi, rfl⟩
    exact ⟨by omega, by rw [Int.toNat_natCast]; exact (List.mem_filter.1 hi).2⟩
  · rintro ⟨h0, h1⟩
    refine ⟨k.toNat, List.mem_filter.2 ⟨List.mem_range.2 ?_, h1⟩, by omega⟩
    obtain ⟨s, hs⟩ := Option.isSome_iff_exists.1 h1
    exact (h.cch _ s hs).1
end Go.Proofs.Ytbolfgafiejkaaa
end
section
/- The sorted keys of a disk's cache: the library's contracts at this program. -/
namespace Go.Proofs.Ytbolfgafiejkaaa
open Go.RowKit Go.Maps Go.Sort Go.Shelf
shelf_lay_g SlLaysZI.n7 Ggz 7 at Try 32 as Try.keysDisk
shelf_lay_g SlLaysZI.n6 Ggz 6 at Try 31 as Try.sortedI
shelf_lay_g SlLaysM.n5 Slgm 5 at Try 36 as Try.sortI
theorem sortsID (m : Nat) : AnyZI.SortsIn Try.prog Try.sortedI_ren Fence.wide m :=
  ⟨fun blk off cap ss W hH hblk hsz => callsIn_wide.2 (AnyM.slices_Sort_int Try.sortI blk off cap ss W hH hblk hsz),
   fun p cap W => callsIn_wide.2 (AnyM.slices_Sort_int_none Try.sortI p cap W)⟩
theorem keysDisk_calls (mb : Option Nat) (w : World) : Calls Try.prog 32 #[.map mb] w fun e w' => e = .returned (.func (.func 37) #[] #[.pointer (some ⟨w.heap.size, 0, none⟩)]) ∧ w' = w.alloc (.cells #[.map mb] 59) :=
  (callsIn_wide (n := 5)).1 (AnyZI.keys_in Try.keysDisk Fence.wide 5 trivial rfl mb w)
theorem sortDisk_calls (w : World) (Bm b : Nat) (m : List (Int × Value)) (hBm : Bm < w.heap.size) (hc : w.cell? ⟨Bm, 0, none⟩ = some (.map (some b))) (h : MapAt w b m)
    (hr : ∀ p ∈ m, -9223372036854775808 ≤ p.1 ∧ p.1 ≤ 9223372036854775807) (hl : m.length ≤ 1000000) :
    Calls Try.prog 31 #[.func (.func 37) #[] #[.pointer (some ⟨Bm, 0, none⟩)]] w fun e w' => ∃ a c, e = .returned (.slice a (sortK m).length c) ∧
      Own w' w.heap.size 3 1 (.slice a (sortK m).length c) (sortK m).length ((sortK m).map (Value.int .i64)) ∧ (a = none ↔ sortK m = []) ∧ Below w.heap.size w w' :=
  sortK_calls (ρK := Try.keysDisk_ren) (ρS := Try.sortedI_ren) { Try.keysDisk with } Try.sortedI Try.underlying3 (sortsID 4) (enters_of Try.func36 (by kernel_rfl) rfl) (enters_of Try.func37 (by kernel_rfl) rfl) w Bm b m hBm hc h hr hl
/-- 'slices.Sorted(maps.Keys(m))': a new slice with the keys, ascending. -/
theorem keysDisk_new {w : World} {mb : Nat} {m : List (Int × Value)} (h : MapAt w mb m) (hr : ∀ p ∈ m, -9223372036854775808 ≤ p.1 ∧ p.1 ≤ 9223372036854775807) (hl : m.length ≤ 1000000) {gs : List Nat} {w0 : World} {K : Value → World → Prop} (B : Bs w0 w)
    (k : ∀ a c w2, Own w2 w.heap.size 3 1 (.slice a (sortK m).length c) (sortK m).length ((sortK m).map (Value.int .i64)) → (a = none ↔ sortK m = []) → Below w.heap.size w w2 → Bs w0 w2 → K (.slice a (sortK m).length c) w2) :
    Calls Try.prog 32 #[.map (some mb)] w fun e w1 => KeepG gs w w1 ∧ ∃ v : Value, e = .returned v ∧ Calls Try.prog 31 #[v] w1 fun e w2 => KeepG gs w1 w2 ∧ ∃ (a : Option Addr) (n c : Nat), e = .returned (.slice a n c) ∧ K (.slice a n c) w2 := by
  refine (keysDisk_calls (some mb) w).mono ?_
  rintro e w1 ⟨rfl, rfl⟩
  have b1 : Below w.heap.size w (w.alloc (.cells #[.map (some mb)] 59)) := Below_one _
  refine ⟨keepG_below b1, _, rfl, ?_⟩
  have hc : (w.alloc (.cells #[.map (some mb)] 59)).cell? ⟨w.heap.size, 0, none⟩ = some (.map (some mb)) := by rw [cell_of_row _ _ _ _ _ _ (al_new rfl)]; rfl
  refine (sortDisk_calls _ w.heap.size mb m (by simp) hc (h.below b1) hr hl).mono ?_
  rintro e w2 ⟨a, c, rfl, ho, hn, hb⟩
  have hb' : Below w.heap.size w w2 := b1.trans (hb.mono b1.size)
  exact ⟨keepG_below hb, _, _, _, rfl, k a c w2 (ho.base_le fun j hj => Nat.le_trans b1.size (ho.lt j hj).1) hn hb' (B.to hb')⟩
end Go.Proofs.Ytbolfgafiejkaaa
end
section
/- 'slices.Collect(slices.Chunk(b, 64))' where b's length is a multiple of 64: the pieces, one behind the other; walked. -/
namespace Go.Proofs.Ytbolfgafiejkaaa
open Go.RowKit Go.Shelf
attribute [local go_sem] Oper.semAt_some
/-- The k-th piece. -/
def pieceV (g off k : Nat) : Value := .slice (some ⟨g, off + k * 64, none⟩) 64 64
set_option maxRecDepth 100000 in
set_option maxHeartbeats 4000000 in
theorem chunk1_in (F : Fence) (n : Nat) (hf : F.fn 34) (hro : F.round = none) (hn : 1 ≤ n) (l Bs Bn n₀ g off c m : Nat) (a : Option Addr) (ha : 0 < m → a = some ⟨g, off, none⟩) (hm : m ≤ 1000000) (hcap : m * 64 ≤ c) (hBs0 : Bs < n₀) (hBn0 : Bn < n₀) (J Jx : List Nat → World → Prop)
    (hJ : ∀ s A, J s A → J s A.drew) (hY : ∀ pre x W, J pre W → pre.length < m → YieldAt F (n - 1) Try.prog l #[pieceV g off x] W fun e W' =>
      (e = .returned (.bool true) ∧ J (pre ++ [x]) W' ∧ Below n₀ W W') ∨ (e = .returned (.bool false) ∧ Jx (pre ++ [x]) W'))
    (W : World) (hBs : W.cell? ⟨Bs, 0, none⟩ = some (.slice a (m * 64) c)) (hBn : W.cell? ⟨Bn, 0, none⟩ = some (.int .i64 64)) (h0 : J [] W) :
    CallsIn F n Try.prog 34 #[.func (.yield l) #[] #[], .pointer (some ⟨Bs, 0, none⟩), .pointer (some ⟨Bn, 0, none⟩)] W fun e W' => (∃ v, e = .returned v) ∧
      ((∃ ys, ys = List.range m ∧ J ys W') ∨ (∃ pre, True ∧ Jx pre W')) := by
  refine callsIn_of_wp Try.func34 rfl hf ?_ hro
  simp only [Try.ntmps34, List.size_toArray, List.length_cons, List.length_nil, Nat.reduceAdd, Nat.reduceSub, Array.replicate_succ, Array.replicate_zero, List.push_toArray, List.append_toArray, List.nil_append, List.cons_append]
  gi_wp2
  gi_loopw [4] (fun i wr => ∃ k : Nat, k ≤ m ∧ i = .int .i64 ((k * 64 : Nat) : Int) ∧ J (List.range k) wr ∧ Below n₀ W wr)
    (fun i _ => m * 64 - (intOf i).toNat)
  case atStart => exact ⟨0, Nat.zero_le _, rfl, h0, Below.refl _ _⟩
  case round =>
    obtain ⟨k, hk, rfl, hJs, hnx⟩ := hrel
    have hcs : wr.cell? ⟨Bs, 0, none⟩ = some (.slice a (m * 64) c) := (hnx.cell (p := ⟨Bs, 0, none⟩) hBs0).trans hBs
    have hcn : wr.cell? ⟨Bn, 0, none⟩ = some (.int .i64 64) := (hnx.cell (p := ⟨Bn, 0, none⟩) hBn0).trans hBn
    by_cases hlt : k < m
    · obtain rfl := ha (by omega)
      obtain ⟨fn, tmps, assign, body, hy, hR⟩ := hY _ k wr.drew (hJ _ _ hJs) (by rw [List.length_range]; exact hlt)
      unfold pieceV at hy
      have hd1 : wr.drew.cell? ⟨Bs, 0, none⟩ = some (.slice (some ⟨g, off, none⟩) (m * 64) c) := hcs
      have hd2 : wr.drew.cell? ⟨Bn, 0, none⟩ = some (.int .i64 64) := hcn
      gi_wp2
      gi_region
      all_goals (first | simp only [if_neg (show ¬ (((m * 64 - k * 64 : Nat)) : Int) < 64 by omega)] | simp only [Int.min_eq_left (show (64 : Int) ≤ (((m * 64 - k * 64 : Nat)) : Int) by omega)])
      all_goals gi_wp2
      all_goals (
        refine hR.mono ?_
        rintro e W3 (⟨rfl, hJ3, hk3⟩ | ⟨rfl, hJx3⟩)
        · have hcn3 : W3.cell? ⟨Bn, 0, none⟩ = some (.int .i64 64) := (hk3.cell (p := ⟨Bn, 0, none⟩) hBn0).trans hcn
          have hdr : Below n₀ W wr.drew := ⟨hnx.os, hnx.tape, hnx.output, hnx.size, hnx.block⟩
          gi_wp2
          go_roundw
          case rel => exact ⟨k + 1, by omega, by simp; omega, by rw [List.range_succ]; exact hJ3, hdr.trans hk3⟩
          case measure => simp [intOf]; omega
        · gi_wp2
          refine bodyPost_ret (results_none rfl _ _ _) rfl ?_
          exact ⟨⟨_, rfl⟩, .inr ⟨_, trivial, hJx3⟩⟩)
    · obtain rfl : k = m := by omega
      gi_wp2
      go_end0
      exact ⟨⟨_, rfl⟩, .inl ⟨_, rfl, hJs⟩⟩
set_option maxHeartbeats 1000000 in
theorem chunk_in (F : Fence) (n : Nat) (hf : F.fn 28) (hro : F.round = none) (a : Option Addr) (len cap : Nat) (w : World) :
    CallsIn F n Try.prog 28 #[.slice a len cap, .int .i64 64] w fun e w' => e = .returned (.func (.func 34) #[] #[.pointer (some ⟨w.heap.size, 0, none⟩), .pointer (some ⟨w.heap.size + 1, 0, none⟩)]) ∧
      w' = (w.alloc (.cells #[.slice a len cap] 34)).alloc (.cells #[.int .i64 64] 3) := by
  refine callsIn_of_wp Try.func28 rfl hf ?_ hro
  simp only [Try.ntmps28, List.size_toArray, List.length_cons, List.length_nil, Nat.reduceAdd, Nat.reduceSub, Array.replicate_succ, Array.replicate_zero, List.push_toArray, List.append_toArray, List.nil_append, List.cons_append]
  gi_wp2
  go_ret
  exact ⟨by simp, rfl⟩
theorem chunk_stops (F : Fence) (n : Nat) (hf : F.fn 34) (hro : F.round = none) (hn : 1 ≤ n) (Bs Bn n₀ g off c m : Nat) (a : Option Addr) (ha : 0 < m → a = some ⟨g, off, none⟩) (hm : m ≤ 1000000) (hcap : m * 64 ≤ c) (hBs0 : Bs < n₀) (hBn0 : Bn < n₀) (w : World) (hn₀ : n₀ ≤ w.heap.size)
    (hBs : w.cell? ⟨Bs, 0, none⟩ = some (.slice a (m * 64) c)) (hBn : w.cell? ⟨Bn, 0, none⟩ = some (.int .i64 64)) :
    SeqStopsK F n Try.prog 34 #[.pointer (some ⟨Bs, 0, none⟩), .pointer (some ⟨Bn, 0, none⟩)] (fun k : Nat => #[.slice (some ⟨g, off + k * 64, none⟩) 64 64]) (Below n₀) (fun ys => ys = List.range m) (fun _ => True) m w := fun l J Jx W hW hJ _ hY h0 =>
  chunk1_in F n hf hro hn l Bs Bn n₀ g off c m a ha hm hcap hBs0 hBn0 J Jx (fun s A h => hJ s A A.drew none h ⟨rfl, rfl, rfl, Nat.le_refl _, fun _ _ _ => rfl⟩ (fun r e => by cases e)) hY W
    ((hW.cell (p := ⟨Bs, 0, none⟩) (by show Bs < _; omega)).trans hBs) ((hW.cell (p := ⟨Bn, 0, none⟩) (by show Bn < _; omega)).trans hBn) h0
theorem infoB : (Try.prog.info? 34).map (fun i => (i.zero, i.size, i.bytes)) = some (some (.slice none 0 0), 1, 24) := by kernel_rfl
set_option maxRecDepth 100000 in
set_option maxHeartbeats 2000000 in
theorem appSeq_in (F : Fence) (n : Nat) (hA : F.fn 33) (hf : F.fn 34) (hro : F.round = none) (hn : 3 ≤ n) (Bs Bn g off c m : Nat) (a : Option Addr) (ha : 0 < m → a = some ⟨g, off, none⟩) (hm : m ≤ 1000000) (hcap : m * 64 ≤ c) (w : World) (hBs0 : Bs < w.heap.size) (hBn0 : Bn < w.heap.size)
    (hBs : w.cell? ⟨Bs, 0, none⟩ = some (.slice a (m * 64) c)) (hBn : w.cell? ⟨Bn, 0, none⟩ = some (.int .i64 64)) :
    CallsIn F n Try.prog 33 #[.slice none 0 0, .func (.func 34) #[] #[.pointer (some ⟨Bs, 0, none⟩), .pointer (some ⟨Bn, 0, none⟩)]] w fun e W' => ∃ v, e = .returned v ∧ W'.ownsRow w.heap.size 34 1 v m ((List.range m).map (pieceV g off)) ∧ (v = .slice none 0 0 ↔ m = 0) ∧ Below w.heap.size w W' := by
  have h1 : 1 ≤ n := by omega
  obtain ⟨i0, hi, hz0, hz1, hz2⟩ := info_parts infoB
  refine callsIn_of_wp_marks Try.func33 rfl hA ?_ hro
  simp only [Try.ntmps33, List.size_toArray, List.length_cons, List.length_nil, Nat.reduceAdd, Nat.reduceSub, Array.replicate_succ, Array.replicate_zero, List.push_toArray, List.append_toArray, List.nil_append, List.cons_append]
  gi_wp2
  have bO := Boxed.new w 67 (.slice none 0 0)
  have hB0 : Below w.heap.size w (w.alloc (.cells #[.slice none 0 0] 67)) := (Below.refl _ w).alloc (Nat.le_refl _) _
  refine wpIn_rangeFunc_ownG hro h1 (gf := 34) (lb := #[.pointer (some ⟨Bs, 0, none⟩), .pointer (some ⟨Bn, 0, none⟩)]) rfl hf (enters_of Try.func34 (by kernel_rfl) rfl)
    (chunk_stops F (n - 1) hf hro (by omega) Bs Bn w.heap.size g off c m a ha hm hcap hBs0 hBn0 _ (by simp) ((hB0.cell (p := ⟨Bs, 0, none⟩) hBs0).trans hBs) ((hB0.cell (p := ⟨Bn, 0, none⟩) hBn0).trans hBn)) belowK_t (belowK_b (by simp)) (Below.refl _ _) (fun _ => rfl)
    (fun pre W => (∃ v, Boxed W w.heap.size 67 v ∧ W.ownsRow w.heap.size 34 1 v pre.length (pre.map (pieceV g off)) ∧ (v = .slice none 0 0 ↔ pre = [])) ∧ Below w.heap.size w W)
    (fun _ _ _ => False)
    (OwnFrom.and (Own.from (holdsRow_own w.heap.size w.heap.size 67 34 1 (fun pre => pre.length) (fun pre => pre.map (pieceV g off)) (fun pre v => v = .slice none 0 0 ↔ pre = [])) _) (ownFrom_below (Nat.le_refl _) (by simp)))
    (fun _ _ _ _ _ hs _ _ => hs)
    ⟨⟨_, bO, World.ownsRow_nil _ _ _ _, by simp⟩, hB0⟩
    (fun x => { tmps := #[.slice none 0 0, .func (.func 34) #[] #[.pointer (some ⟨Bs, 0, none⟩), .pointer (some ⟨Bn, 0, none⟩)], .pointer (some ⟨w.heap.size, 0, none⟩), undef, .slice none 0 0, .slice (some ⟨g, off + x * 64, none⟩) 64 64, .func (.func 34) #[] #[.pointer (some ⟨Bs, 0, none⟩), .pointer (some ⟨Bn, 0, none⟩)], Value.slice (some ⟨g, off + x * 64, none⟩) 64 64, undef, undef, undef, undef, undef], defers := [] }) ?assign ?body ?done ?stop
  case assign =>
    intro l x W K hK
    gi_wp2
    exact hK
  case body =>
    rintro l pre x W ⟨⟨v, hv, hrow, hnil⟩, hB⟩ hlt
    have hc := hv.cell
    gi_wp2_with (gi_at_builtin; refine wpListIn_append_own _ rfl _ _ 67 rfl w.heap.size 34 i0 (.slice none 0 0) 1 24 Try.underlying67 hi hz0 hz1 hz2 rfl (by decide) _ _ _ rfl (hrow.alloc _) ⟨W.heap.size, 0, none⟩ 1 1 [.slice (some ⟨g, off + x * 64, none⟩) 64 64] rfl rfl (cell_one_new _ _ _) (by simp [Value.oneCell']) (by unfold maxLen; omega) (by omega) (by have := hB.size; simp; omega) ?_; intro v' w1 hown' hgrow _; obtain ⟨g', cap', rfl⟩ := ownsRow_succ hown'; obtain ⟨hv1, hv2, hr2, hk2, hb2⟩ := hv.appended (by decide) hrow hB.size (Nat.le_refl _) hown' hgrow; have hc1 := hv1.cell; have hf1 := hv1.frozen)
    exact ⟨hk2.from _, hb2, ⟨_, hv2, by simpa [pieceV] using hr2, by simp⟩, hB.trans hb2⟩
  case done =>
    rintro D ys W hD rfl ⟨⟨v, hv, hrow, hnil⟩, hB⟩ hK
    have hc := hv.cell
    gi_wp2
    refine ⟨by simp, .inl ⟨_, _, rfl, run_takeDeferred hK, ?_⟩⟩
    exact ⟨_, results_tmp rfl _ _ _, v, rfl, by have := ownsRow_putObj hrow (.deferred none) hK rfl; rwa [List.length_range] at this, by rw [hnil]; simp, hB.trans (belowK_b (w := w) (Nat.le_refl _) W D _ _ (by simp at hD; omega) hK rfl rfl)⟩
  case stop =>
    rintro D c pre W _ _ h _
    exact h.elim
set_option maxHeartbeats 1000000 in
theorem collectB_in (F : Fence) (n : Nat) (hC : F.fn 27) (hA : F.fn 33) (hf : F.fn 34) (hro : F.round = none) (hn : 4 ≤ n) (Bs Bn g off c m : Nat) (a : Option Addr) (ha : 0 < m → a = some ⟨g, off, none⟩) (hm : m ≤ 1000000) (hcap : m * 64 ≤ c) (w : World) (hBs0 : Bs < w.heap.size) (hBn0 : Bn < w.heap.size)
    (hBs : w.cell? ⟨Bs, 0, none⟩ = some (.slice a (m * 64) c)) (hBn : w.cell? ⟨Bn, 0, none⟩ = some (.int .i64 64)) :
    CallsIn F n Try.prog 27 #[.func (.func 34) #[] #[.pointer (some ⟨Bs, 0, none⟩), .pointer (some ⟨Bn, 0, none⟩)]] w fun e W' => ∃ v, e = .returned v ∧ W'.ownsRow w.heap.size 34 1 v m ((List.range m).map (pieceV g off)) ∧ (v = .slice none 0 0 ↔ m = 0) ∧ Below w.heap.size w W' := by
  have h1 : 1 ≤ n := by omega
  refine callsIn_of_wp Try.func27 rfl hC ?_ hro
  simp only [Try.ntmps27, List.size_toArray, List.length_cons, List.length_nil, Nat.reduceAdd, Nat.reduceSub, Array.replicate_succ, Array.replicate_zero, List.push_toArray, List.append_toArray, List.nil_append, List.cons_append]
  gi_wp2_with (gi_at_call 33; refine (appSeq_in F (n - 1) hA hf hro (by omega) Bs Bn g off c m a ha hm hcap _ hBs0 hBn0 hBs hBn).mono ?_; rintro e w' ⟨v, rfl, hrow, hnil, hb⟩)
  go_ret
  exact ⟨v, rfl, hrow, hnil, hb⟩
end Go.Proofs.Ytbolfgafiejkaaa
end
