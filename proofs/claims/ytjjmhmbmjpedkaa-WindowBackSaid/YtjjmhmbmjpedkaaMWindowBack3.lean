import Derived.Test.YtjjmhmbmjpedkaaProg
import Derived.Test.YtjjmhmbmjpedkaaMWindowBack2
import Derived.Test.YtjjmhmbmjpedkaaMWindowBack1
import Derived.Test.YtjjmhmbmjpedkaaRows
import Derived.Deep.DeepCutAuto
import Derived.Deep.CutBlock
import Derived.OwnWalk
import Derived.ScopeJumps
import Derived.WalkMore
section
/- Conditions of functions, printed by a program of this claim's own (vcgen.py) out of the loaded code; each is proved to be enough. -/
set_option maxRecDepth 100000
namespace Go.Proofs.Ytjjmhmbmjpedkaa
open Go.RowKit
namespace GWinWr
def env : Env := ⟨[(3, ⟨.int .i64, 1, .int .i64 0, 8, [.int .i64]⟩), (4, ⟨.bool, 1, .bool false, 1, [.bool]⟩), (5, ⟨.int .u8, 1, .int .u8 0, 1, [.int .u8]⟩), (9, ⟨.str, 1, .string ByteArray.empty, 16, [.str]⟩), (23, ⟨.int .u64, 1, .int .u64 0, 8, [.int .u64]⟩), (24, ⟨.ptr, 1, .pointer none, 8, [.ptr]⟩), (25, ⟨.int .i64, 1, .int .i64 0, 8, [.int .i64]⟩), (30, ⟨.slice 5, 1, .slice none 0 0, 24, [.slice]⟩), (55, ⟨.slice 63, 1, .slice none 0 0, 24, [.slice]⟩), (59, ⟨.slice 116, 1, .slice none 0 0, 24, [.slice]⟩), (61, ⟨.struct [(0, 3), (1, 4), (2, 59)], 3, .agg #[.int .i64 0, .bool false, .slice none 0 0], 40, [.int .i64, .bool, .slice]⟩), (63, ⟨.struct [(0, 4), (1, 3), (2, 4), (3, 30), (4, 30)], 5, .agg #[.bool false, .int .i64 0, .bool false, .slice none 0 0, .slice none 0 0], 72, [.bool, .int .i64, .bool, .slice, .slice]⟩), (69, ⟨.arr 2 3, 2, .agg #[.int .i64 0, .int .i64 0], 16, [.int .i64, .int .i64]⟩), (76, ⟨.struct [(0, 30), (1, 4)], 2, .agg #[.slice none 0 0, .bool false], 32, [.slice, .bool]⟩), (91, ⟨.slice 96, 1, .slice none 0 0, 24, [.slice]⟩), (93, ⟨.struct [(0, 3), (1, 4), (2, 3), (3, 91)], 4, .agg #[.int .i64 0, .bool false, .int .i64 0, .slice none 0 0], 48, [.int .i64, .bool, .int .i64, .slice]⟩), (96, ⟨.struct [(0, 3), (1, 30), (2, 30)], 3, .agg #[.int .i64 0, .slice none 0 0, .slice none 0 0], 56, [.int .i64, .slice, .slice]⟩), (116, ⟨.struct [(0, 3), (1, 9), (2, 9)], 3, .agg #[.int .i64 0, .string ByteArray.empty, .string ByteArray.empty], 40, [.int .i64, .str, .str]⟩), (130, ⟨.struct [(0, 9), (1, 25)], 2, .agg #[.string ByteArray.empty, .int .i64 0], 24, [.str, .int .i64]⟩)], [(13, [.lf (.ptr), .lf (.int .i64)]), (14, [.lf (.bool)]), (17, [.lf (.int .i64)]), (30, [.lf (.slice), .lf (.int .i64)]), (32, [.lf (.bool)]), (33, [.lf (.int .i64)]), (34, [.lf (.slice)]), (38, []), (39, [.lf (.slice), .lf (.int .i64)]), (41, [.lf (.ptr)]), (42, [.lf (.int .i64)]), (44, [.lf (.int .i64)]), (46, [.lf (.ptr), .lf (.int .i64)]), (47, [.lf (.ptr), .lf (.bool)]), (48, [.lf (.str)]), (62, []), (63, []), (64, []), (73, [.lf (.int .i64)]), (74, [.lf (.bool)]), (75, [.lf (.slice)]), (76, [.lf (.bool)]), (77, [.lf (.int .i64)]), (78, [.lf (.bool)]), (79, [.lf (.int .i64)]), (80, [.lf (.str)]), (81, [.lf (.int .i64)]), (82, [.lf (.str)]), (83, [.lf (.str)]), (84, [.lf (.str)]), (85, [.lf (.str)])]⟩
theorem ty3 : TyOk Try.prog 3 ⟨.int .i64, 1, .int .i64 0, 8, [.int .i64]⟩ := tyok (by kernel_rfl) (by kernel_rfl)
theorem ty4 : TyOk Try.prog 4 ⟨.bool, 1, .bool false, 1, [.bool]⟩ := tyok (by kernel_rfl) (by kernel_rfl)
theorem ty5 : TyOk Try.prog 5 ⟨.int .u8, 1, .int .u8 0, 1, [.int .u8]⟩ := tyok (by kernel_rfl) (by kernel_rfl)
theorem ty9 : TyOk Try.prog 9 ⟨.str, 1, .string ByteArray.empty, 16, [.str]⟩ := tyok (by kernel_rfl) (by kernel_rfl)
theorem ty23 : TyOk Try.prog 23 ⟨.int .u64, 1, .int .u64 0, 8, [.int .u64]⟩ := tyok (by kernel_rfl) (by kernel_rfl)
theorem ty24 : TyOk Try.prog 24 ⟨.ptr, 1, .pointer none, 8, [.ptr]⟩ := tyok (by kernel_rfl) (by kernel_rfl)
theorem ty25 : TyOk Try.prog 25 ⟨.int .i64, 1, .int .i64 0, 8, [.int .i64]⟩ := tyok (by kernel_rfl) (by kernel_rfl)
theorem ty30 : TyOk Try.prog 30 ⟨.slice 5, 1, .slice none 0 0, 24, [.slice]⟩ := tyok (by kernel_rfl) (by kernel_rfl)
theorem ty55 : TyOk Try.prog 55 ⟨.slice 63, 1, .slice none 0 0, 24, [.slice]⟩ := tyok (by kernel_rfl) (by kernel_rfl)
theorem ty59 : TyOk Try.prog 59 ⟨.slice 116, 1, .slice none 0 0, 24, [.slice]⟩ := tyok (by kernel_rfl) (by kernel_rfl)
theorem ty61 : TyOk Try.prog 61 ⟨.struct [(0, 3), (1, 4), (2, 59)], 3, .agg #[.int .i64 0, .bool false, .slice none 0 0], 40, [.int .i64, .bool, .slice]⟩ := tyok (by kernel_rfl) (by kernel_rfl)
theorem ty63 : TyOk Try.prog 63 ⟨.struct [(0, 4), (1, 3), (2, 4), (3, 30), (4, 30)], 5, .agg #[.bool false, .int .i64 0, .bool false, .slice none 0 0, .slice none 0 0], 72, [.bool, .int .i64, .bool, .slice, .slice]⟩ := tyok (by kernel_rfl) (by kernel_rfl)
theorem ty69 : TyOk Try.prog 69 ⟨.arr 2 3, 2, .agg #[.int .i64 0, .int .i64 0], 16, [.int .i64, .int .i64]⟩ := tyok (by kernel_rfl) (by kernel_rfl)
theorem ty76 : TyOk Try.prog 76 ⟨.struct [(0, 30), (1, 4)], 2, .agg #[.slice none 0 0, .bool false], 32, [.slice, .bool]⟩ := tyok (by kernel_rfl) (by kernel_rfl)
theorem ty91 : TyOk Try.prog 91 ⟨.slice 96, 1, .slice none 0 0, 24, [.slice]⟩ := tyok (by kernel_rfl) (by kernel_rfl)
theorem ty93 : TyOk Try.prog 93 ⟨.struct [(0, 3), (1, 4), (2, 3), (3, 91)], 4, .agg #[.int .i64 0, .bool false, .int .i64 0, .slice none 0 0], 48, [.int .i64, .bool, .int .i64, .slice]⟩ := tyok (by kernel_rfl) (by kernel_rfl)
theorem ty96 : TyOk Try.prog 96 ⟨.struct [(0, 3), (1, 30), (2, 30)], 3, .agg #[.int .i64 0, .slice none 0 0, .slice none 0 0], 56, [.int .i64, .slice, .slice]⟩ := tyok (by kernel_rfl) (by kernel_rfl)
theorem ty116 : TyOk Try.prog 116 ⟨.struct [(0, 3), (1, 9), (2, 9)], 3, .agg #[.int .i64 0, .string ByteArray.empty, .string ByteArray.empty], 40, [.int .i64, .str, .str]⟩ := tyok (by kernel_rfl) (by kernel_rfl)
theorem ty130 : TyOk Try.prog 130 ⟨.struct [(0, 9), (1, 25)], 2, .agg #[.string ByteArray.empty, .int .i64 0], 24, [.str, .int .i64]⟩ := tyok (by kernel_rfl) (by kernel_rfl)
theorem fn13 : FnOk Try.prog 13 := fnok Try.func13 (by kernel_rfl) (by kernel_rfl)
theorem fn14 : FnOk Try.prog 14 := fnok Try.func14 (by kernel_rfl) (by kernel_rfl)
theorem fn17 : FnOk Try.prog 17 := fnok Try.func17 (by kernel_rfl) (by kernel_rfl)
theorem fn30 : FnOk Try.prog 30 := fnok Try.func30 (by kernel_rfl) (by kernel_rfl)
theorem fn32 : FnOk Try.prog 32 := fnok Try.func32 (by kernel_rfl) (by kernel_rfl)
theorem fn33 : FnOk Try.prog 33 := fnok Try.func33 (by kernel_rfl) (by kernel_rfl)
theorem fn34 : FnOk Try.prog 34 := fnok Try.func34 (by kernel_rfl) (by kernel_rfl)
theorem fn38 : FnOk Try.prog 38 := fnok Try.func38 (by kernel_rfl) (by kernel_rfl)
theorem fn39 : FnOk Try.prog 39 := fnok Try.func39 (by kernel_rfl) (by kernel_rfl)
theorem fn41 : FnOk Try.prog 41 := fnok Try.func41 (by kernel_rfl) (by kernel_rfl)
theorem fn42 : FnOk Try.prog 42 := fnok Try.func42 (by kernel_rfl) (by kernel_rfl)
theorem fn44 : FnOk Try.prog 44 := fnok Try.func44 (by kernel_rfl) (by kernel_rfl)
theorem fn46 : FnOk Try.prog 46 := fnok Try.func46 (by kernel_rfl) (by kernel_rfl)
theorem fn47 : FnOk Try.prog 47 := fnok Try.func47 (by kernel_rfl) (by kernel_rfl)
theorem fn48 : FnOk Try.prog 48 := fnok Try.func48 (by kernel_rfl) (by kernel_rfl)
theorem fn62 : FnOk Try.prog 62 := fnok Try.func62 (by kernel_rfl) (by kernel_rfl)
theorem fn63 : FnOk Try.prog 63 := fnok Try.func63 (by kernel_rfl) (by kernel_rfl)
theorem fn64 : FnOk Try.prog 64 := fnok Try.func64 (by kernel_rfl) (by kernel_rfl)
theorem fn73 : FnOk Try.prog 73 := fnok Try.func73 (by kernel_rfl) (by kernel_rfl)
theorem fn74 : FnOk Try.prog 74 := fnok Try.func74 (by kernel_rfl) (by kernel_rfl)
theorem fn75 : FnOk Try.prog 75 := fnok Try.func75 (by kernel_rfl) (by kernel_rfl)
theorem fn76 : FnOk Try.prog 76 := fnok Try.func76 (by kernel_rfl) (by kernel_rfl)
theorem fn77 : FnOk Try.prog 77 := fnok Try.func77 (by kernel_rfl) (by kernel_rfl)
theorem fn78 : FnOk Try.prog 78 := fnok Try.func78 (by kernel_rfl) (by kernel_rfl)
theorem fn79 : FnOk Try.prog 79 := fnok Try.func79 (by kernel_rfl) (by kernel_rfl)
theorem fn80 : FnOk Try.prog 80 := fnok Try.func80 (by kernel_rfl) (by kernel_rfl)
theorem fn81 : FnOk Try.prog 81 := fnok Try.func81 (by kernel_rfl) (by kernel_rfl)
theorem fn82 : FnOk Try.prog 82 := fnok Try.func82 (by kernel_rfl) (by kernel_rfl)
theorem fn83 : FnOk Try.prog 83 := fnok Try.func83 (by kernel_rfl) (by kernel_rfl)
theorem fn84 : FnOk Try.prog 84 := fnok Try.func84 (by kernel_rfl) (by kernel_rfl)
theorem fn85 : FnOk Try.prog 85 := fnok Try.func85 (by kernel_rfl) (by kernel_rfl)
theorem envOk : EOk Try.prog env := ⟨(by simp only [env, List.forall_mem_cons, List.not_mem_nil, false_implies, implies_true, and_true]; exact ⟨ty3, ty4, ty5, ty9, ty23, ty24, ty25, ty30, ty55, ty59, ty61, ty63, ty69, ty76, ty91, ty93, ty96, ty116, ty130⟩), (by simp only [env, List.forall_mem_cons, List.not_mem_nil, false_implies, implies_true, and_true]; exact ⟨fn13, fn14, fn17, fn30, fn32, fn33, fn34, fn38, fn39, fn41, fn42, fn44, fn46, fn47, fn48, fn62, fn63, fn64, fn73, fn74, fn75, fn76, fn77, fn78, fn79, fn80, fn81, fn82, fn83, fn84, fn85⟩), by kernel_rfl⟩
/-- (*purser/window.Window).Write -/
def wWrite_vc (p0 : Option Addr) (w : World) (K : Value → World → Prop) : Prop :=
  br (Option.isNone p0) (
    K (.tuple #[.slice none 0 0, .int .i64 1]) w
  ) (
    newO w (.cells #[.slice none 0 0, .bool false] 76) fun g w_2 =>
    withP p0 fun g13 o13 =>
    ∃ (x15 : Int), w_2.cell? ⟨g13, o13, none⟩ = some (.int .i64 x15) ∧
    Calls Try.prog 62 #[.pointer (some ⟨g, 0, none⟩), .int .i64 x15] w_2 fun e w_3 => KeepG [] w_2 w_3 ∧
    e = .returned (.tuple #[]) ∧
    withP p0 fun g19 o19 =>
    ∃ (b21 : Bool), w_3.cell? ⟨g19, o19 + 1, none⟩ = some (.bool b21) ∧
    Calls Try.prog 63 #[.pointer (some ⟨g, 0, none⟩), .bool b21] w_3 fun e_2 w_4 => KeepG [] w_3 w_4 ∧
    e_2 = .returned (.tuple #[]) ∧
    withP p0 fun g25 o25 =>
    ∃ (x27 : Int), w_4.cell? ⟨g25, o25 + 2, none⟩ = some (.int .i64 x27) ∧
    Calls Try.prog 38 #[.pointer (some ⟨g, 0, none⟩), .int .i64 x27] w_4 fun e_3 w_5 => KeepG [] w_4 w_5 ∧
    e_3 = .returned (.tuple #[]) ∧
    withP p0 fun g31 o31 =>
    ∃ (a33 : Option Addr) (n33 : Nat) (c33 : Nat), w_5.cell? ⟨g31, o31 + 3, none⟩ = some (.slice a33 n33 c33) ∧
    Calls Try.prog 62 #[.pointer (some ⟨g, 0, none⟩), .int .i64 ((n33 : Nat) : Int)] w_5 fun e_4 w_6 => KeepG [] w_5 w_6 ∧
    e_4 = .returned (.tuple #[]) ∧
    withP p0 fun g37 o37 =>
    ∃ (a39 : Option Addr) (n39 : Nat) (c39 : Nat), w_6.cell? ⟨g37, o37 + 3, none⟩ = some (.slice a39 n39 c39) ∧
    ∃ (I : Int → World → Prop) (μ : Int → World → Nat),
    I 0 w_6 ∧
    ∀ (x41 : Int) (w_7 : World), I x41 w_7 →
    br (decide (x41 < ((n39 : Nat) : Int))) (
      withP a39 fun g43 o43 =>
      (0 : Int) ≤ x41 ∧ x41 < (((n39 : Nat) : Int) : Int) ∧
      ∃ (x44_0 : Int) (a44_1 : Option Addr) (n44_1 : Nat) (c44_1 : Nat) (a44_2 : Option Addr) (n44_2 : Nat) (c44_2 : Nat),
      cellsAt w_7 g43 (o43 + x41.toNat * 3) [.int .i64 x44_0, .slice a44_1 n44_1 c44_1, .slice a44_2 n44_2 c44_2] ∧
      newO w_7 (.cells #[.int .i64 0, .slice none 0 0, .slice none 0 0] 96) fun g_2 w_8 =>
      ∀ w_9 : World, BoxSt g_2 w_8 w_9 →
      Calls Try.prog 62 #[.pointer (some ⟨g, 0, none⟩), .int .i64 x44_0] w_9 fun e_5 w_10 => KeepG [g_2] w_9 w_10 ∧
      e_5 = .returned (.tuple #[]) ∧
      Calls Try.prog 64 #[.pointer (some ⟨g, 0, none⟩), .slice a44_1 n44_1 c44_1] w_10 fun e_6 w_11 => KeepG [g_2] w_10 w_11 ∧
      e_6 = .returned (.tuple #[]) ∧
      Calls Try.prog 64 #[.pointer (some ⟨g, 0, none⟩), .slice a44_2 n44_2 c44_2] w_11 fun e_7 w_12 => KeepG [g_2] w_11 w_12 ∧
      e_7 = .returned (.tuple #[]) ∧
      I (IntKind.i64.wrap (x41 + 1)) w_12 ∧ μ (IntKind.i64.wrap (x41 + 1)) w_12 < μ x41 w_7
    ) (
      Calls Try.prog 39 #[.pointer (some ⟨g, 0, none⟩)] w_7 fun e_8 w_13 => KeepG [] w_7 w_13 ∧
      ∃ (a59_0 : Option Addr) (n59_0 : Nat) (c59_0 : Nat) (x59_1 : Int),
      e_8 = .returned (.tuple #[.slice a59_0 n59_0 c59_0, .int .i64 x59_1]) ∧
      K (.tuple #[.slice a59_0 n59_0 c59_0, .int .i64 x59_1]) w_13
    )
  )
def wWrite_notes : Notes := ⟨[], [(9, ⟨[(41, .lf (.int .i64))], [], [42, 43, 44, 6, 45, 46, 47, 48, 49, 50, 51, 52, 53, 54, 55, 56, 57, 41], [6]⟩)], []⟩
theorem wWrite_calls (p0 : Option Addr) (w : World) (K : Value → World → Prop) (h : wWrite_vc p0 w K) : Calls Try.prog 30 #[.pointer p0] w fun e w' => ∃ v, e = .returned v ∧ K v w' :=
  calls_of_fvc envOk Try.func30 wWrite_notes [6] [.pointer p0] w K (use_vc h (by as_aux_lemma => kernel_rfl))
/-- (*purser/purserref18.Window).Write -/
def rWrite_vc (p0 : Option Addr) (w : World) (K : Value → World → Prop) : Prop :=
  Calls Try.prog 34 #[.pointer p0] w fun e w_2 => KeepG [] w w_2 ∧
  ∃ (a7 : Option Addr) (n7 : Nat) (c7 : Nat),
  e = .returned (.slice a7 n7 c7) ∧
  drewO w_2 fun w_3 =>
  withP p0 fun g9 o9 =>
  ∃ (x11 : Int), w_3.cell? ⟨g9, o9, none⟩ = some (.int .i64 x11) ∧
  withP p0 fun g14 o14 =>
  ∃ (b16 : Bool), w_3.cell? ⟨g14, o14 + 1, none⟩ = some (.bool b16) ∧
  Calls Try.prog 82 #[.int .i64 x11] w_3 fun e_2 w_4 => KeepG [] w_3 w_4 ∧
  ∃ (s12 : ByteArray),
  e_2 = .returned (.string s12) ∧
  w_4.cell? ⟨g14, o14 + 1, none⟩ = some (.bool b16) ∧
  Calls Try.prog 83 #[.bool b16] w_4 fun e_3 w_5 => KeepG [] w_4 w_5 ∧
  ∃ (s17 : ByteArray),
  e_3 = .returned (.string s17) ∧
  s12.size + s17.size ≤ 9223372036854775807 ∧
  Calls Try.prog 33 #[.pointer p0] w_5 fun e_4 w_6 => KeepG [] w_5 w_6 ∧
  ∃ (x20 : Int),
  e_4 = .returned (.int .i64 x20) ∧
  Calls Try.prog 84 #[.int .i64 x20] w_6 fun e_5 w_7 => KeepG [] w_6 w_7 ∧
  ∃ (s21 : ByteArray),
  e_5 = .returned (.string s21) ∧
  (s12 ++ s17).size + s21.size ≤ 9223372036854775807 ∧
  Calls Try.prog 82 #[.int .i64 ((n7 : Nat) : Int)] w_7 fun e_6 w_8 => KeepG [] w_7 w_8 ∧
  ∃ (s25 : ByteArray),
  e_6 = .returned (.string s25) ∧
  ((s12 ++ s17) ++ s21).size + s25.size ≤ 9223372036854775807 ∧
  ∃ (I : ByteArray → Int → World → Prop) (μ : ByteArray → Int → World → Nat),
  I (((s12 ++ s17) ++ s21) ++ s25) 0 w_8 ∧
  ∀ (s4 : ByteArray) (x5 : Int) (w_9 : World), I s4 x5 w_9 →
  br (decide (x5 < ((n7 : Nat) : Int))) (
    drewO w_9 fun w_10 =>
    withP a7 fun g36 o36 =>
    (0 : Int) ≤ x5 ∧ x5 < (((n7 : Nat) : Int) : Int) ∧
    ∃ (x38 : Int), w_10.cell? ⟨g36, o36 + x5.toNat * 3, none⟩ = some (.int .i64 x38) ∧
    withP a7 fun g43 o43 =>
    (0 : Int) ≤ x5 ∧ x5 < (((n7 : Nat) : Int) : Int) ∧
    ∃ (s45 : ByteArray), w_10.cell? ⟨g43, o43 + x5.toNat * 3 + 1, none⟩ = some (.string s45) ∧
    withP a7 fun g50 o50 =>
    (0 : Int) ≤ x5 ∧ x5 < (((n7 : Nat) : Int) : Int) ∧
    ∃ (s52 : ByteArray), w_10.cell? ⟨g50, o50 + x5.toNat * 3 + 2, none⟩ = some (.string s52) ∧
    Calls Try.prog 82 #[.int .i64 x38] w_10 fun e_7 w_11 => KeepG [] w_10 w_11 ∧
    ∃ (s39 : ByteArray),
    e_7 = .returned (.string s39) ∧
    w_11.cell? ⟨g43, o43 + x5.toNat * 3 + 1, none⟩ = some (.string s45) ∧
    w_11.cell? ⟨g50, o50 + x5.toNat * 3 + 2, none⟩ = some (.string s52) ∧
    s4.size + s39.size ≤ 9223372036854775807 ∧
    Calls Try.prog 85 #[.string s45] w_11 fun e_8 w_12 => KeepG [] w_11 w_12 ∧
    ∃ (s46 : ByteArray),
    e_8 = .returned (.string s46) ∧
    w_12.cell? ⟨g50, o50 + x5.toNat * 3 + 2, none⟩ = some (.string s52) ∧
    (s4 ++ s39).size + s46.size ≤ 9223372036854775807 ∧
    Calls Try.prog 85 #[.string s52] w_12 fun e_9 w_13 => KeepG [] w_12 w_13 ∧
    ∃ (s53 : ByteArray),
    e_9 = .returned (.string s53) ∧
    ((s4 ++ s39) ++ s46).size + s53.size ≤ 9223372036854775807 ∧
    I (((s4 ++ s39) ++ s46) ++ s53) (IntKind.i64.wrap (x5 + 1)) w_13 ∧ μ (((s4 ++ s39) ++ s46) ++ s53) (IntKind.i64.wrap (x5 + 1)) w_13 < μ s4 x5 w_9
  ) (
    K (.string s4) w_9
  )
def rWrite_notes : Notes := ⟨[(2, ⟨[0, 1, 3, 7, 15, 0, 32, 96, 224, 511, 1023, 0, 3071, 7167, 16383, 0, 32768, 113663, 262143, 524287], [4, 9, 12, 13, 17], [0, 1, 2, 3, 5, 6, 7, 8, 10, 11, 14, 15, 16, 18, 19]⟩), (6, ⟨[0, 0, 0, 6, 14, 30, 62, 127, 0, 0, 768, 1792, 3840, 8062, 16383, 0, 0, 98304, 229376, 491520, 1032062, 2097151, 4194303], [6, 13, 20], [0, 1, 2, 3, 4, 5, 7, 8, 9, 10, 11, 12, 14, 15, 16, 17, 18, 19, 21, 22]⟩)], [(4, ⟨[(4, .lf (.str)), (5, .lf (.int .i64))], [], [27, 28, 29, 30, 33, 34, 35, 36, 37, 38, 39, 40, 41, 42, 43, 44, 45, 46, 47, 48, 49, 50, 51, 52, 53, 54, 4, 31, 32, 5], []⟩)], []⟩
theorem rWrite_calls (p0 : Option Addr) (w : World) (K : Value → World → Prop) (h : rWrite_vc p0 w K) : Calls Try.prog 48 #[.pointer p0] w fun e w' => ∃ v, e = .returned v ∧ K v w' :=
  calls_of_fvc envOk Try.func48 rWrite_notes [] [.pointer p0] w K (use_vc h (by as_aux_lemma => kernel_rfl))
/-- (*purser/window.Window).follows -/
def wFollows_vc (p0 : Option Addr) (x1 : Int) (x2 : Int) (w : World) (K : Value → World → Prop) : Prop :=
  withP p0 fun g9 o9 =>
  ∃ (a11 : Option Addr) (n11 : Nat) (c11 : Nat), w.cell? ⟨g9, o9 + 3, none⟩ = some (.slice a11 n11 c11) ∧
  br (decide (((n11 : Nat) : Int) = 0)) (
    withP p0 fun g16 o16 =>
    ∃ (b18 : Bool), w.cell? ⟨g16, o16 + 1, none⟩ = some (.bool b18) ∧
    br b18 (
      withP p0 fun g23 o23 =>
      ∃ (x25 : Int), w.cell? ⟨g23, o23, none⟩ = some (.int .i64 x25) ∧
      br (decide (x2 < x25)) (
        K (.bool (decide (x1 = 0))) w
      ) (
        withP p0 fun g32 o32 =>
        ∃ (a34 : Option Addr) (n34 : Nat) (c34 : Nat), w.cell? ⟨g32, o32 + 3, none⟩ = some (.slice a34 n34 c34) ∧
        br (decide (((n34 : Nat) : Int) = 0)) (
          K (.bool true) w
        ) (
          withP p0 fun g39 o39 =>
          ∃ (b41 : Bool), w.cell? ⟨g39, o39 + 1, none⟩ = some (.bool b41) ∧
          br b41 (
            withP p0 fun g44 o44 =>
            ∃ (x46 : Int), w.cell? ⟨g44, o44 + 2, none⟩ = some (.int .i64 x46) ∧
            K (.bool (decide (x1 = (IntKind.i64.wrap (x46 + 1))))) w
          ) (
            withP p0 fun g51 o51 =>
            ∃ (x53 : Int), w.cell? ⟨g51, o51 + 2, none⟩ = some (.int .i64 x53) ∧
            K (.bool (decide (x1 > x53))) w
          )
        )
      )
    ) (
      withP p0 fun g32_2 o32_2 =>
      ∃ (a34_2 : Option Addr) (n34_2 : Nat) (c34_2 : Nat), w.cell? ⟨g32_2, o32_2 + 3, none⟩ = some (.slice a34_2 n34_2 c34_2) ∧
      br (decide (((n34_2 : Nat) : Int) = 0)) (
        K (.bool true) w
      ) (
        withP p0 fun g39_2 o39_2 =>
        ∃ (b41_2 : Bool), w.cell? ⟨g39_2, o39_2 + 1, none⟩ = some (.bool b41_2) ∧
        br b41_2 (
          withP p0 fun g44_2 o44_2 =>
          ∃ (x46_2 : Int), w.cell? ⟨g44_2, o44_2 + 2, none⟩ = some (.int .i64 x46_2) ∧
          K (.bool (decide (x1 = (IntKind.i64.wrap (x46_2 + 1))))) w
        ) (
          withP p0 fun g51_2 o51_2 =>
          ∃ (x53_2 : Int), w.cell? ⟨g51_2, o51_2 + 2, none⟩ = some (.int .i64 x53_2) ∧
          K (.bool (decide (x1 > x53_2))) w
        )
      )
    )
  ) (
    withP p0 fun g32_3 o32_3 =>
    ∃ (a34_3 : Option Addr) (n34_3 : Nat) (c34_3 : Nat), w.cell? ⟨g32_3, o32_3 + 3, none⟩ = some (.slice a34_3 n34_3 c34_3) ∧
    br (decide (((n34_3 : Nat) : Int) = 0)) (
      K (.bool true) w
    ) (
      withP p0 fun g39_3 o39_3 =>
      ∃ (b41_3 : Bool), w.cell? ⟨g39_3, o39_3 + 1, none⟩ = some (.bool b41_3) ∧
      br b41_3 (
        withP p0 fun g44_3 o44_3 =>
        ∃ (x46_3 : Int), w.cell? ⟨g44_3, o44_3 + 2, none⟩ = some (.int .i64 x46_3) ∧
        K (.bool (decide (x1 = (IntKind.i64.wrap (x46_3 + 1))))) w
      ) (
        withP p0 fun g51_3 o51_3 =>
        ∃ (x53_3 : Int), w.cell? ⟨g51_3, o51_3 + 2, none⟩ = some (.int .i64 x53_3) ∧
        K (.bool (decide (x1 > x53_3))) w
      )
    )
  )
def wFollows_notes : Notes := ⟨[], [], []⟩
theorem wFollows_calls (p0 : Option Addr) (x1 : Int) (x2 : Int) (w : World) (K : Value → World → Prop) (h : wFollows_vc p0 x1 x2 w K) : Calls Try.prog 76 #[.pointer p0, .int .i64 x1, .int .i64 x2] w fun e w' => ∃ v, e = .returned v ∧ K v w' :=
  calls_of_fvc envOk Try.func76 wFollows_notes [] [.pointer p0, .int .i64 x1, .int .i64 x2] w K (use_vc h (by as_aux_lemma => kernel_rfl))
/-- purser/window.Read -/
def wRead_vc (a0 : Option Addr) (n0 : Nat) (c0 : Nat) (w : World) (K : Value → World → Prop) : Prop :=
  Calls Try.prog 41 #[.slice a0 n0 c0] w fun e w_2 => KeepG [] w w_2 ∧
  ∃ (p11 : Option Addr),
  e = .returned (.pointer p11) ∧
  Calls Try.prog 73 #[.pointer p11, .int .i64 64] w_2 fun e_2 w_3 => KeepG [] w_2 w_3 ∧
  ∃ (x13 : Int),
  e_2 = .returned (.int .i64 x13) ∧
  newO w_3 (.cells #[.int .i64 x13, .bool false, .int .i64 (-1), .slice none 0 0] 93) fun g w_4 =>
  Calls Try.prog 74 #[.pointer p11] w_4 fun e_3 w_5 => KeepG [] w_4 w_5 ∧
  ∃ (b18 : Bool),
  e_3 = .returned (.bool b18) ∧
  stO [] w_5 g 1 [.bool b18] fun w_6 =>
  Calls Try.prog 42 #[.pointer p11] w_6 fun e_4 w_7 => KeepG [] w_6 w_7 ∧
  ∃ (x22 : Int),
  e_4 = .returned (.int .i64 x22) ∧
  Calls Try.prog 73 #[.pointer p11, .int .i64 64] w_7 fun e_5 w_8 => KeepG [] w_7 w_8 ∧
  ∃ (x24 : Int),
  e_5 = .returned (.int .i64 x24) ∧
  ∃ (J : Bool → World → Prop), (
    ∃ (x28 : Int), w_8.cell? ⟨g, 0, none⟩ = some (.int .i64 x28) ∧
    br (decide (x28 ≥ 1)) (
      ∃ (x35 : Int), w_8.cell? ⟨g, 0, none⟩ = some (.int .i64 x35) ∧
      J (decide (x24 ≤ x35)) w_8
    ) (
      J false w_8
    )
  ) ∧
  ∀ (b8 : Bool) (w_9 : World), J b8 w_9 →
  ∃ (I : Bool → Int → World → Prop) (μ : Bool → Int → World → Nat),
  I b8 0 w_9 ∧
  ∀ (b8_2 : Bool) (x39 : Int) (w_10 : World), I b8_2 x39 w_10 →
  br (decide (x39 < x24)) (
    Calls Try.prog 73 #[.pointer p11, .int .i64 4611686018427387904] w_10 fun e_6 w_11 => KeepG [] w_10 w_11 ∧
    ∃ (x42 : Int),
    e_6 = .returned (.int .i64 x42) ∧
    newO w_11 (.cells #[.int .i64 0, .slice none 0 0, .slice none 0 0] 96) fun g_2 w_12 =>
    ∀ w_13 : World, BoxSt g_2 w_12 w_13 →
    Calls Try.prog 75 #[.pointer p11, .int .i64 65536] w_13 fun e_7 w_14 => KeepG [g_2] w_13 w_14 ∧
    ∃ (a45 : Option Addr) (n45 : Nat) (c45 : Nat),
    e_7 = .returned (.slice a45 n45 c45) ∧
    ∀ w_15 : World, BoxSt g_2 w_14 w_15 →
    Calls Try.prog 75 #[.pointer p11, .int .i64 65536] w_15 fun e_8 w_16 => KeepG [g_2] w_15 w_16 ∧
    ∃ (a48 : Option Addr) (n48 : Nat) (c48 : Nat),
    e_8 = .returned (.slice a48 n48 c48) ∧
    ∀ w_17 : World, BoxSt g_2 w_16 w_17 →
    ∃ (J_2 : Bool → World → Prop), (
      br b8_2 (
        Calls Try.prog 76 #[.pointer (some ⟨g, 0, none⟩), .int .i64 x42, .int .i64 x24] w_17 fun e_9 w_18 => KeepG [g_2] w_17 w_18 ∧
        ∃ (b56 : Bool),
        e_9 = .returned (.bool b56) ∧
        J_2 b56 w_18
      ) (
        J_2 false w_17
      )
    ) ∧
    ∀ (b8_3 : Bool) (w_19 : World), J_2 b8_3 w_19 →
    drewO w_19 fun w_20 =>
    ∃ (a62 : Option Addr) (n62 : Nat) (c62 : Nat), w_20.cell? ⟨g, 3, none⟩ = some (.slice a62 n62 c62) ∧
    newO w_20 (.cells #[.int .i64 x42, .slice a45 n45 c45, .slice a48 n48 c48] 96) fun g_3 w_21 =>
    w_21.cell? ⟨g, 3, none⟩ = some (.slice a62 n62 c62) ∧
    appO Try.prog [g_2] w_21 96 3 56 91 a62 n62 c62 (.slice (some ⟨g_3, 0, none⟩) 1 1) fun m65 a65 c65 w_22 =>
    stO [g_2] w_22 g 3 [.slice a65 (n62 + m65) c65] fun w_23 =>
    stO [g_2] w_23 g 2 [.int .i64 x42] fun w_24 =>
    I b8_3 (IntKind.i64.wrap (x39 + 1)) w_24 ∧ μ b8_3 (IntKind.i64.wrap (x39 + 1)) w_24 < μ b8_2 x39 w_10
  ) (
    br (!b8_2) (
      K (.tuple #[.pointer none, .int .i64 2]) w_10
    ) (
      ∃ (x80 : Int), w_10.cell? ⟨g, 2, none⟩ = some (.int .i64 x80) ∧
      br (decide (x80 ≠ x22)) (
        K (.tuple #[.pointer none, .int .i64 2]) w_10
      ) (
        Calls Try.prog 44 #[.pointer p11] w_10 fun e_10 w_25 => KeepG [] w_10 w_25 ∧
        ∃ (x86 : Int),
        e_10 = .returned (.int .i64 x86) ∧
        br (decide (x86 ≠ 0)) (
          K (.tuple #[.pointer none, .int .i64 2]) w_25
        ) (
          K (.tuple #[.pointer (some ⟨g, 0, none⟩), .int .i64 0]) w_25
        )
      )
    )
  )
def wRead_notes : Notes := ⟨[(13, ⟨[0, 0, 2, 6, 14, 0, 32, 126, 255, 511, 1023], [6, 7, 10], [0, 1, 2, 3, 4, 5, 8, 9]⟩)], [(8, ⟨[(8, .lf (.bool)), (39, .lf (.int .i64))], [], [40, 41, 42, 43, 9, 44, 45, 46, 47, 48, 49, 50, 51, 52, 53, 54, 55, 56, 57, 8, 58, 59, 60, 61, 62, 63, 64, 65, 66, 67, 68, 69, 70, 71, 72, 73, 39], [9]⟩)], [((0, 6), ⟨[(8, .lf (.bool))], [], [25, 26, 27, 28, 29, 30, 31, 32, 33, 34, 35, 36, 37, 8], []⟩), ((0, 12), ⟨[(8, .lf (.bool))], [], [50, 51, 52, 53, 54, 55, 56, 57, 8], []⟩)]⟩
theorem wRead_calls (a0 : Option Addr) (n0 : Nat) (c0 : Nat) (w : World) (K : Value → World → Prop) (h : wRead_vc a0 n0 c0 w K) : Calls Try.prog 46 #[.slice a0 n0 c0] w fun e w' => ∃ v, e = .returned v ∧ K v w' :=
  calls_of_fvc envOk Try.func46 wRead_notes [9] [.slice a0 n0 c0] w K (use_vc h (by as_aux_lemma => kernel_rfl))
/-- purser/purserref18.Read -/
def rRead_vc (s0 : ByteArray) (w : World) (K : Value → World → Prop) : Prop :=
  newO w (.cells #[.string s0, .int .i64 0] 130) fun g w_2 =>
  Calls Try.prog 77 #[.pointer (some ⟨g, 0, none⟩), .int .i64 64] w_2 fun e w_3 => KeepG [] w_2 w_3 ∧
  ∃ (x15 : Int),
  e = .returned (.int .i64 x15) ∧
  newO w_3 (.cells #[.int .i64 x15, .bool false, .slice none 0 0] 61) fun g_2 w_4 =>
  Calls Try.prog 78 #[.pointer (some ⟨g, 0, none⟩)] w_4 fun e_2 w_5 => KeepG [] w_4 w_5 ∧
  ∃ (b20 : Bool),
  e_2 = .returned (.bool b20) ∧
  stO [] w_5 g_2 1 [.bool b20] fun w_6 =>
  Calls Try.prog 79 #[.pointer (some ⟨g, 0, none⟩)] w_6 fun e_3 w_7 => KeepG [] w_6 w_7 ∧
  ∃ (x24 : Int),
  e_3 = .returned (.int .i64 x24) ∧
  Calls Try.prog 77 #[.pointer (some ⟨g, 0, none⟩), .int .i64 64] w_7 fun e_4 w_8 => KeepG [] w_7 w_8 ∧
  ∃ (x26 : Int),
  e_4 = .returned (.int .i64 x26) ∧
  ∃ (J : Bool → World → Prop), (
    ∃ (x30 : Int), w_8.cell? ⟨g_2, 0, none⟩ = some (.int .i64 x30) ∧
    br (decide (x30 ≥ 1)) (
      ∃ (x37 : Int), w_8.cell? ⟨g_2, 0, none⟩ = some (.int .i64 x37) ∧
      J (decide (x26 ≤ x37)) w_8
    ) (
      J false w_8
    )
  ) ∧
  ∀ (b8 : Bool) (w_9 : World), J b8 w_9 →
  ∃ (I : Bool → Int → World → Prop) (μ : Bool → Int → World → Nat),
  I b8 0 w_9 ∧
  ∀ (b8_2 : Bool) (x9 : Int) (w_10 : World), I b8_2 x9 w_10 →
  ∃ (J_2 : Bool → World → Prop), (
    br (decide (x9 < x26)) (
      ∃ (x47 : Int), w_10.cell? ⟨g, 1, none⟩ = some (.int .i64 x47) ∧
      J_2 (decide (x47 = 0)) w_10
    ) (
      J_2 false w_10
    )
  ) ∧
  ∀ (b49 : Bool) (w_11 : World), J_2 b49 w_11 →
  br b49 (
    Calls Try.prog 77 #[.pointer (some ⟨g, 0, none⟩), .int .i64 4611686018427387904] w_11 fun e_5 w_12 => KeepG [] w_11 w_12 ∧
    ∃ (x53 : Int),
    e_5 = .returned (.int .i64 x53) ∧
    newO w_12 (.cells #[.int .i64 0, .string ByteArray.empty, .string ByteArray.empty] 116) fun g_3 w_13 =>
    ∀ w_14 : World, BoxSt g_3 w_13 w_14 →
    Calls Try.prog 80 #[.pointer (some ⟨g, 0, none⟩), .int .i64 65536] w_14 fun e_6 w_15 => KeepG [g_3] w_14 w_15 ∧
    ∃ (s56 : ByteArray),
    e_6 = .returned (.string s56) ∧
    ∀ w_16 : World, BoxSt g_3 w_15 w_16 →
    Calls Try.prog 80 #[.pointer (some ⟨g, 0, none⟩), .int .i64 65536] w_16 fun e_7 w_17 => KeepG [g_3] w_16 w_17 ∧
    ∃ (s59 : ByteArray),
    e_7 = .returned (.string s59) ∧
    ∀ w_18 : World, BoxSt g_3 w_17 w_18 →
    ∃ (J_3 : Bool → World → Prop), (
      br (decide (x9 > 0)) (
        drewO w_18 fun w_19 =>
        br b8_2 (
          ∃ (b68 : Bool), w_19.cell? ⟨g_2, 1, none⟩ = some (.bool b68) ∧
          br b68 (
            ∃ (a75 : Option Addr) (n75 : Nat) (c75 : Nat), w_19.cell? ⟨g_2, 2, none⟩ = some (.slice a75 n75 c75) ∧
            withP a75 fun g78 o78 =>
            (0 : Int) ≤ IntKind.i64.wrap (x9 - 1) ∧ IntKind.i64.wrap (x9 - 1) < (((n75 : Nat) : Int) : Int) ∧
            ∃ (x80 : Int), w_19.cell? ⟨g78, o78 + (IntKind.i64.wrap (x9 - 1)).toNat * 3, none⟩ = some (.int .i64 x80) ∧
            br (decide (x53 = (IntKind.i64.wrap (x80 + 1)))) (
              J_3 true w_19
            ) (
              ∃ (b88 : Bool), w_19.cell? ⟨g_2, 1, none⟩ = some (.bool b88) ∧
              br (!b88) (
                ∃ (a96 : Option Addr) (n96 : Nat) (c96 : Nat), w_19.cell? ⟨g_2, 2, none⟩ = some (.slice a96 n96 c96) ∧
                withP a96 fun g99 o99 =>
                (0 : Int) ≤ IntKind.i64.wrap (x9 - 1) ∧ IntKind.i64.wrap (x9 - 1) < (((n96 : Nat) : Int) : Int) ∧
                ∃ (x101 : Int), w_19.cell? ⟨g99, o99 + (IntKind.i64.wrap (x9 - 1)).toNat * 3, none⟩ = some (.int .i64 x101) ∧
                J_3 (decide (x53 > x101)) w_19
              ) (
                J_3 false w_19
              )
            )
          ) (
            ∃ (b88_2 : Bool), w_19.cell? ⟨g_2, 1, none⟩ = some (.bool b88_2) ∧
            br (!b88_2) (
              ∃ (a96_2 : Option Addr) (n96_2 : Nat) (c96_2 : Nat), w_19.cell? ⟨g_2, 2, none⟩ = some (.slice a96_2 n96_2 c96_2) ∧
              withP a96_2 fun g99_2 o99_2 =>
              (0 : Int) ≤ IntKind.i64.wrap (x9 - 1) ∧ IntKind.i64.wrap (x9 - 1) < (((n96_2 : Nat) : Int) : Int) ∧
              ∃ (x101_2 : Int), w_19.cell? ⟨g99_2, o99_2 + (IntKind.i64.wrap (x9 - 1)).toNat * 3, none⟩ = some (.int .i64 x101_2) ∧
              J_3 (decide (x53 > x101_2)) w_19
            ) (
              J_3 false w_19
            )
          )
        ) (
          J_3 false w_19
        )
      ) (
        ∃ (b109 : Bool), w_18.cell? ⟨g_2, 1, none⟩ = some (.bool b109) ∧
        br b109 (
          ∃ (x115 : Int), w_18.cell? ⟨g_2, 0, none⟩ = some (.int .i64 x115) ∧
          br (decide (x26 < x115)) (
            br b8_2 (
              J_3 (decide (x53 = 0)) w_18
            ) (
              J_3 false w_18
            )
          ) (
            J_3 b8_2 w_18
          )
        ) (
          J_3 b8_2 w_18
        )
      )
    ) ∧
    ∀ (b8_3 : Bool) (w_20 : World), J_3 b8_3 w_20 →
    drewO w_20 fun w_21 =>
    ∃ (a128 : Option Addr) (n128 : Nat) (c128 : Nat), w_21.cell? ⟨g_2, 2, none⟩ = some (.slice a128 n128 c128) ∧
    newO w_21 (.cells #[.int .i64 x53, .string s56, .string s59] 116) fun g_4 w_22 =>
    w_22.cell? ⟨g_2, 2, none⟩ = some (.slice a128 n128 c128) ∧
    appO Try.prog [g_3] w_22 116 3 40 59 a128 n128 c128 (.slice (some ⟨g_4, 0, none⟩) 1 1) fun m131 a131 c131 w_23 =>
    stO [g_3] w_23 g_2 2 [.slice a131 (n128 + m131) c131] fun w_24 =>
    I b8_3 (IntKind.i64.wrap (x9 + 1)) w_24 ∧ μ b8_3 (IntKind.i64.wrap (x9 + 1)) w_24 < μ b8_2 x9 w_10
  ) (
    br b8_2 (
      Calls Try.prog 81 #[.pointer (some ⟨g, 0, none⟩)] w_11 fun e_8 w_25 => KeepG [] w_11 w_25 ∧
      ∃ (x138 : Int),
      e_8 = .returned (.int .i64 x138) ∧
      br (decide (x138 = 0)) (
        Calls Try.prog 33 #[.pointer (some ⟨g_2, 0, none⟩)] w_25 fun e_9 w_26 => KeepG [] w_25 w_26 ∧
        ∃ (x144 : Int),
        e_9 = .returned (.int .i64 x144) ∧
        K (.tuple #[.pointer (some ⟨g_2, 0, none⟩), .bool (decide (x24 = x144))]) w_26
      ) (
        K (.tuple #[.pointer (some ⟨g_2, 0, none⟩), .bool false]) w_25
      )
    ) (
      K (.tuple #[.pointer (some ⟨g_2, 0, none⟩), .bool false]) w_11
    )
  )
def rRead_notes : Notes := ⟨[(14, ⟨[0, 1, 3, 7, 15, 31, 63, 127, 255, 127, 639, 1663, 3711, 127, 8319, 32383, 65151, 130687, 261759, 524287, 1048575, 2097151, 4194303, 8388607, 16777215, 33554431, 67108863, 134217727, 268435455, 536870911, 268435455, 1342177279, 3489660927, 7784628223, 268435455, 17448304639, 67914170367, 136633647103, 274072600575, 549755813887, 1099511627775, 2199023255551, 4398046511103, 8796093022207], [], [0, 1, 2, 3, 4, 5, 6, 7, 8, 9, 10, 11, 12, 13, 14, 15, 16, 17, 18, 19, 20, 21, 22, 23, 24, 25, 26, 27, 28, 29, 30, 31, 32, 33, 34, 35, 36, 37, 38, 39, 40, 41, 42, 43]⟩), (17, ⟨[0, 0, 2, 6, 14, 0, 32, 126, 255, 511, 1023], [6, 7, 10], [0, 1, 2, 3, 4, 5, 8, 9]⟩)], [(8, ⟨[(8, .lf (.bool)), (9, .lf (.int .i64))], [], [40, 41, 42, 43, 44, 45, 46, 47, 48, 49, 52, 53, 54, 10, 55, 56, 57, 58, 59, 60, 61, 62, 63, 64, 65, 66, 67, 68, 69, 70, 71, 72, 73, 74, 75, 76, 77, 78, 79, 80, 81, 82, 83, 84, 85, 86, 87, 88, 89, 90, 91, 92, 93, 94, 95, 96, 97, 98, 99, 100, 101, 102, 103, 104, 105, 8, 106, 107, 108, 109, 110, 111, 112, 113, 114, 115, 116, 117, 118, 119, 120, 121, 122, 123, 124, 125, 126, 127, 128, 129, 130, 131, 132, 133, 50, 51, 9], [10]⟩)], [((0, 6), ⟨[(8, .lf (.bool))], [], [27, 28, 29, 30, 31, 32, 33, 34, 35, 36, 37, 38, 39, 8], []⟩), ((0, 8), ⟨[(49, .lf (.bool))], [], [40, 41, 42, 43, 44, 45, 46, 47, 48, 49], []⟩), ((1, 14), ⟨[(8, .lf (.bool))], [], [63, 64, 65, 66, 67, 68, 69, 70, 71, 72, 73, 74, 75, 76, 77, 78, 79, 80, 81, 82, 83, 84, 85, 86, 87, 88, 89, 90, 91, 92, 93, 94, 95, 96, 97, 98, 99, 100, 101, 102, 103, 104, 105, 8, 106, 107, 108, 109, 110, 111, 112, 113, 114, 115, 116, 117, 118, 119, 120, 121, 122, 123], []⟩)]⟩
theorem rRead_calls (s0 : ByteArray) (w : World) (K : Value → World → Prop) (h : rRead_vc s0 w K) : Calls Try.prog 47 #[.string s0] w fun e w' => ∃ v, e = .returned v ∧ K v w' :=
  calls_of_fvc envOk Try.func47 rRead_notes [10] [.string s0] w K (use_vc h (by as_aux_lemma => kernel_rfl))
/-- purser/purserlaw18.WindowReads -/
def lWReads_vc (a0 : Option Addr) (n0 : Nat) (c0 : Nat) (w : World) (K : Value → World → Prop) : Prop :=
  (0 : Int) ≤ min ((n0 : Nat) : Int) 1500 ∧ min ((n0 : Nat) : Int) 1500 ≤ (((c0 : Nat) : Int) : Int) ∧
  Calls Try.prog 46 #[.slice a0 ((min ((n0 : Nat) : Int) 1500).toNat) c0] w fun e w_2 => KeepG [] w w_2 ∧
  ∃ (p16_0 : Option Addr) (x16_1 : Int),
  e = .returned (.tuple #[.pointer p16_0, .int .i64 x16_1]) ∧
  ∃ bs21 : List UInt8, bs21.length = (min ((n0 : Nat) : Int) 1500).toNat ∧ RowAt w_2 a0 (bs21.map bV) ∧
  Calls Try.prog 47 #[.string (strOf bs21)] w_2 fun e_2 w_3 => KeepG [] w_2 w_3 ∧
  ∃ (p22_0 : Option Addr) (b22_1 : Bool),
  e_2 = .returned (.tuple #[.pointer p22_0, .bool b22_1]) ∧
  Calls Try.prog 14 #[] w_3 fun e_3 w_4 => KeepG [] w_3 w_4 ∧
  ∃ (b25 : Bool),
  e_3 = .returned (.bool b25) ∧
  br (!b25) (
    K (.bool false) w_4
  ) (
    br (decide ((decide (x16_1 = 0)) ≠ b22_1)) (
      K (.bool false) w_4
    ) (
      br (!b22_1) (
        br (decide (x16_1 = 2)) (
          K (.bool (Option.isNone p16_0)) w_4
        ) (
          K (.bool false) w_4
        )
      ) (
        Calls Try.prog 30 #[.pointer p16_0] w_4 fun e_4 w_5 => KeepG [] w_4 w_5 ∧
        ∃ (a43_0 : Option Addr) (n43_0 : Nat) (c43_0 : Nat) (x43_1 : Int),
        e_4 = .returned (.tuple #[.slice a43_0 n43_0 c43_0, .int .i64 x43_1]) ∧
        br (decide (x43_1 = 0)) (
          ∃ bs50 : List UInt8, bs50.length = n43_0 ∧ RowAt w_5 a43_0 (bs50.map bV) ∧
          ∃ bs52 : List UInt8, bs52.length = (min ((n0 : Nat) : Int) 1500).toNat ∧ RowAt w_5 a0 (bs52.map bV) ∧
          K (.bool (decide ((strOf bs50) = (strOf bs52)))) w_5
        ) (
          K (.bool false) w_5
        )
      )
    )
  )
def lWReads_notes : Notes := ⟨[], [], []⟩
theorem lWReads_calls (a0 : Option Addr) (n0 : Nat) (c0 : Nat) (w : World) (K : Value → World → Prop) (h : lWReads_vc a0 n0 c0 w K) : Calls Try.prog 11 #[.slice a0 n0 c0] w fun e w' => ∃ v, e = .returned v ∧ K v w' :=
  calls_of_fvc envOk Try.func11 lWReads_notes [] [.slice a0 n0 c0] w K (use_vc h (by as_aux_lemma => kernel_rfl))
/-- purser/purserlaw18.WindowBack -/
def lWBack_vc (x0_0 : Int) (x0_1 : Int) (a1 : Option Addr) (n1 : Nat) (c1 : Nat) (a2 : Option Addr) (n2 : Nat) (c2 : Nat) (w : World) (K : Value → World → Prop) : Prop :=
  newO w (.cells #[.int .i64 x0_0, .int .i64 x0_1] 69) fun g w_2 =>
  drewO w_2 fun w_3 =>
  (9 : Int) ≠ 0 ∧
  (2 : Int) ≠ 0 ∧
  Calls Try.prog 13 #[.int .i64 (IntKind.i64.wrap (1 + (IntKind.i64.wrap (Int.tmod (IntKind.u64.wrap x0_0) 9)))), .bool (decide ((Int.tmod x0_1 2) = 0))] w_3 fun e w_4 => KeepG [g] w_3 w_4 ∧
  ∃ (p31_0 : Option Addr) (x31_1 : Int),
  e = .returned (.tuple #[.pointer p31_0, .int .i64 x31_1]) ∧
  newO w_4 (.cells #[.int .i64 (IntKind.i64.wrap (1 + (IntKind.i64.wrap (Int.tmod (IntKind.u64.wrap x0_0) 9)))), .bool (decide ((Int.tmod x0_1 2) = 0)), .slice none 0 0] 61) fun g_2 w_5 =>
  Calls Try.prog 14 #[] w_5 fun e_2 w_6 => KeepG [g] w_5 w_6 ∧
  ∃ (b38 : Bool),
  e_2 = .returned (.bool b38) ∧
  br (!b38) (
    K (.bool false) w_6
  ) (
    br (decide (x31_1 ≠ 0)) (
      K (.bool false) w_6
    ) (
      ∃ (I : Int → World → Prop) (μ : Int → World → Nat),
      I 0 w_6 ∧
      ∀ (x12 : Int) (w_7 : World), I x12 w_7 →
      ∃ (J : Bool → World → Prop), (
        br (decide (x12 < ((n1 : Nat) : Int))) (
          J (decide (x12 < 60)) w_7
        ) (
          J false w_7
        )
      ) ∧
      ∀ (b51 : Bool) (w_8 : World), J b51 w_8 →
      br b51 (
        withP a1 fun g56 o56 =>
        (0 : Int) ≤ x12 ∧ x12 < (((n1 : Nat) : Int) : Int) ∧
        ∃ (b57_0 : Bool) (x57_1 : Int) (b57_2 : Bool) (a57_3 : Option Addr) (n57_3 : Nat) (c57_3 : Nat) (a57_4 : Option Addr) (n57_4 : Nat) (c57_4 : Nat),
        cellsAt w_8 g56 (o56 + x12.toNat * 5) [.bool b57_0, .int .i64 x57_1, .bool b57_2, .slice a57_3 n57_3 c57_3, .slice a57_4 n57_4 c57_4] ∧
        Calls Try.prog 32 #[.agg #[.bool b57_0, .int .i64 x57_1, .bool b57_2, .slice a57_3 n57_3 c57_3, .slice a57_4 n57_4 c57_4], .pointer p31_0, .pointer (some ⟨g_2, 0, none⟩)] w_8 fun e_3 w_9 => KeepG [g] w_8 w_9 ∧
        ∃ (b60 : Bool),
        e_3 = .returned (.bool b60) ∧
        br (!b60) (
          K (.bool false) w_9
        ) (
          I (IntKind.i64.wrap (x12 + 1)) w_9 ∧ μ (IntKind.i64.wrap (x12 + 1)) w_9 < μ x12 w_7
        )
      ) (
        Calls Try.prog 30 #[.pointer p31_0] w_8 fun e_4 w_10 => KeepG [g] w_8 w_10 ∧
        ∃ (a64_0 : Option Addr) (n64_0 : Nat) (c64_0 : Nat) (x64_1 : Int),
        e_4 = .returned (.tuple #[.slice a64_0 n64_0 c64_0, .int .i64 x64_1]) ∧
        Calls Try.prog 46 #[.slice a64_0 n64_0 c64_0] w_10 fun e_5 w_11 => KeepG [g] w_10 w_11 ∧
        ∃ (p69_0 : Option Addr) (x69_1 : Int),
        e_5 = .returned (.tuple #[.pointer p69_0, .int .i64 x69_1]) ∧
        drewO w_11 fun w_12 =>
        br (decide (x64_1 ≠ 0)) (
          K (.bool false) w_12
        ) (
          br (decide (x69_1 ≠ 0)) (
            K (.bool false) w_12
          ) (
            ∃ bs80 : List UInt8, bs80.length = n64_0 ∧ RowAt w_12 a64_0 (bs80.map bV) ∧
            Calls Try.prog 48 #[.pointer (some ⟨g_2, 0, none⟩)] w_12 fun e_6 w_13 => KeepG [g] w_12 w_13 ∧
            ∃ (s82 : ByteArray),
            e_6 = .returned (.string s82) ∧
            RowAt w_13 a64_0 (bs80.map bV) ∧
            br (decide ((strOf bs80) ≠ s82)) (
              K (.bool false) w_13
            ) (
              ∃ (I_2 : Int → World → Prop) (μ_2 : Int → World → Nat),
              I_2 0 w_13 ∧
              ∀ (x17 : Int) (w_14 : World), I_2 x17 w_14 →
              ∃ (J_2 : Bool → World → Prop), (
                br (decide (x17 < ((n2 : Nat) : Int))) (
                  J_2 (decide (x17 < 60)) w_14
                ) (
                  J_2 false w_14
                )
              ) ∧
              ∀ (b92 : Bool) (w_15 : World), J_2 b92 w_15 →
              br b92 (
                withP a2 fun g97 o97 =>
                (0 : Int) ≤ x17 ∧ x17 < (((n2 : Nat) : Int) : Int) ∧
                ∃ (b98_0 : Bool) (x98_1 : Int) (b98_2 : Bool) (a98_3 : Option Addr) (n98_3 : Nat) (c98_3 : Nat) (a98_4 : Option Addr) (n98_4 : Nat) (c98_4 : Nat),
                cellsAt w_15 g97 (o97 + x17.toNat * 5) [.bool b98_0, .int .i64 x98_1, .bool b98_2, .slice a98_3 n98_3 c98_3, .slice a98_4 n98_4 c98_4] ∧
                Calls Try.prog 32 #[.agg #[.bool b98_0, .int .i64 x98_1, .bool b98_2, .slice a98_3 n98_3 c98_3, .slice a98_4 n98_4 c98_4], .pointer p69_0, .pointer (some ⟨g_2, 0, none⟩)] w_15 fun e_7 w_16 => KeepG [g] w_15 w_16 ∧
                ∃ (b101 : Bool),
                e_7 = .returned (.bool b101) ∧
                br (!b101) (
                  K (.bool false) w_16
                ) (
                  I_2 (IntKind.i64.wrap (x17 + 1)) w_16 ∧ μ_2 (IntKind.i64.wrap (x17 + 1)) w_16 < μ_2 x17 w_14
                )
              ) (
                Calls Try.prog 17 #[.pointer p69_0] w_15 fun e_8 w_17 => KeepG [g] w_15 w_17 ∧
                ∃ (x104 : Int),
                e_8 = .returned (.int .i64 x104) ∧
                Calls Try.prog 33 #[.pointer (some ⟨g_2, 0, none⟩)] w_17 fun e_9 w_18 => KeepG [g] w_17 w_18 ∧
                ∃ (x106 : Int),
                e_9 = .returned (.int .i64 x106) ∧
                K (.bool (decide (x104 = x106))) w_18
              )
            )
          )
        )
      )
    )
  )
def lWBack_notes : Notes := ⟨[(1, ⟨[0, 1, 3, 7, 15, 31, 0, 64, 192, 448, 63, 2047], [], [0, 1, 2, 3, 4, 5, 6, 7, 8, 9, 10, 11]⟩), (13, ⟨[0, 1, 3, 7, 15, 31, 63, 127, 255, 127, 639, 2047, 4095], [10], [0, 1, 2, 3, 4, 5, 6, 7, 8, 9, 11, 12]⟩)], [(7, ⟨[(12, .lf (.int .i64))], [], [44, 45, 46, 47, 48, 49, 50, 51, 54, 55, 56, 57, 58, 59, 60, 61, 6, 52, 53, 12], []⟩), (16, ⟨[(17, .lf (.int .i64))], [], [85, 86, 87, 88, 89, 90, 91, 92, 95, 96, 97, 98, 99, 100, 101, 102, 6, 93, 94, 17], []⟩)], [((0, 7), ⟨[(51, .lf (.bool))], [], [44, 45, 46, 47, 48, 49, 50, 51], []⟩), ((0, 16), ⟨[(92, .lf (.bool))], [], [85, 86, 87, 88, 89, 90, 91, 92], []⟩)]⟩
theorem lWBack_calls (x0_0 : Int) (x0_1 : Int) (a1 : Option Addr) (n1 : Nat) (c1 : Nat) (a2 : Option Addr) (n2 : Nat) (c2 : Nat) (w : World) (K : Value → World → Prop) (h : lWBack_vc x0_0 x0_1 a1 n1 c1 a2 n2 c2 w K) : Calls Try.prog 12 #[.agg #[.int .i64 x0_0, .int .i64 x0_1], .slice a1 n1 c1, .slice a2 n2 c2] w fun e w' => ∃ v, e = .returned v ∧ K v w' :=
  calls_of_fvc envOk Try.func12 lWBack_notes [3] [.agg #[.int .i64 x0_0, .int .i64 x0_1], .slice a1 n1 c1, .slice a2 n2 c2] w K (use_vc h (by as_aux_lemma => kernel_rfl))
end GWinWr
end Go.Proofs.Ytjjmhmbmjpedkaa
end
section
/- The bytes of numbers: the plain law. No program in sight. -/
namespace Go.Proofs.Ytjjmhmbmjpedkaa
open Go.RowKit
/-- The groups of a number without a sign. -/
def grp (u : Nat) : List UInt8 := if u < 128 then [UInt8.ofNat u] else UInt8.ofNat (u % 128 + 128) :: grp (u / 128)
termination_by u
decreasing_by omega
theorem grp_lt {u : Nat} (h : u < 128) : grp u = [UInt8.ofNat u] := by rw [grp, if_pos h]
theorem grp_ge {u : Nat} (h : 128 ≤ u) : grp u = UInt8.ofNat (u % 128 + 128) :: grp (u / 128) := by rw [grp, if_neg (by omega)]
theorem grp_len (n : Nat) : ∀ u, u < 128 ^ (n + 1) → (grp u).length ≤ n + 1 := by
  induction n with
  | zero => intro u h; rw [grp_lt (by simpa using h)]; simp
  | succ n ih =>
    intro u h
    by_cases h1 : u < 128
    · rw [grp_lt h1]; simp
    · rw [grp_ge (by omega), List.length_cons]
      have := ih (u / 128) (by rw [Nat.div_lt_iff_lt_mul (by omega), ← Nat.pow_succ]; exact h)
      omega
theorem grp_len64 {u : Nat} (h : u < 18446744073709551616) : (grp u).length ≤ 10 := grp_len 9 u (by omega)
theorem grp_pos (u : Nat) : 0 < (grp u).length := by
  by_cases h : u < 128
  · rw [grp_lt h]; simp
  · rw [grp_ge (by omega)]; simp
/-- An int as a number without a sign: zigzag. -/
def zig (z : Int) : Nat := if 0 ≤ z then (2 * z).toNat else (2 * (-z) - 1).toNat
theorem zig_lt {z : Int} (h1 : -9223372036854775808 ≤ z) (h2 : z ≤ 9223372036854775807) : zig z < 18446744073709551616 := by unfold zig; split <;> omega
def uintB (z : Int) : List UInt8 := if z < 0 then [] else grp z.toNat
def intB (z : Int) : List UInt8 := grp (zig z)
def flagB (b : Bool) : List UInt8 := [if b then 1 else 0]
def textB (bs : List UInt8) : List UInt8 := grp bs.length ++ bs
end Go.Proofs.Ytjjmhmbmjpedkaa
end
section
/- The writer of the codec, walked. -/
namespace Go.Proofs.Ytjjmhmbmjpedkaa
open Go.RowKit
theorem Try.infoB : (Try.prog.info? 5).map (fun i => (i.zero, i.size, i.bytes)) = some (some (.int .u8 0), 1, 1) := by kernel_rfl
theorem wpList_appb {ops : Array Oper} {rest : List Oper} {o : Oper} {a : Act} {w : World} {Q : Exit → Act → World → Prop} (hgd : o.guard = none) (s xo : Operand)
    (hop : o.op = Op.call { callee := Callee.builtin Builtin.append, args := #[s, xo], argTypes := #[30, 30] })
    {base n : Nat} {v : Value} {xs : List Value} (hv : a.eval s = v) (ho : Own w base 5 1 v n xs) (x : Value) (hx : a.eval xo = x) (m : Nat) (news : List Value) (hs : Src Try.prog 1 30 x m news w)
    (hb : n + m ≤ 140737488355328) (hbase : base ≤ w.heap.size)
    (hK : ∀ v' w', Own w' base 5 1 v' (n + m) (xs ++ news) → w.grownBy w' v.ownBlock → (v'.ownBlock = v.ownBlock ∨ ∃ g, v'.ownBlock = some g ∧ w.heap.size ≤ g) → wpList Try.prog ops Q rest (a.put o.dst v') w') :
    wpList Try.prog ops Q (o :: rest) a w := by
  obtain ⟨i0, hi, hz0, hz1, hz2⟩ := info_parts Try.infoB
  exact wpList_app hgd s xo 30 30 hop i0 _ 1 Try.underlying30 hi hz0 hz1 hz2 rfl hv ho x hx m news hs (by unfold maxLen; omega) (by omega) hbase hK
theorem Src.builtB {W : World} (b : UInt8) : Src Try.prog 1 30 (.slice (some ⟨W.heap.size, 0, none⟩) 1 1) 1 [bV b] (W.alloc (.cells #[bV b] 5)) :=
  Src.ofRow Try.underlying30 (some ⟨W.heap.size, 0, none⟩) 1 [bV b] (RowAt.ofWhole (vs := [bV b]) (al_new rfl)) (by intro u hu; rw [List.mem_singleton] at hu; subst hu; rfl)
/-- A writer. -/
structure WAt (w : World) (L : List Nat) (g : Nat) (bs : List UInt8) (bad : Bool) : Prop where
  ex : ∃ v, Bk w g #[v, .bool bad] 76 ∧ Own w 0 5 1 v bs.length (bs.map bV) ∧ ∀ k, v.ownBlock = some k → k ∈ L
  mem : g ∈ L
  under : Under L w.heap.size
theorem WAt.keep {w w' : World} {L : List Nat} {g : Nat} {bs : List UInt8} {bad : Bool} (h : WAt w L g bs bad) (hk : ∀ k ∈ L, w'.heap[k]? = w.heap[k]?) (hs : w.heap.size ≤ w'.heap.size) : WAt w' L g bs bad := by
  obtain ⟨⟨v, h1, h2, h3⟩, h4, h5⟩ := h
  exact ⟨⟨v, h1.keep (hk g h4), h2.keep fun k hv => hk k (h3 k hv), h3⟩, h4, h5.mono hs⟩
theorem WAt.fr {w w' : World} {L M : List Nat} {g : Nat} {bs : List UInt8} {bad : Bool} (h : WAt w L g bs bad) (hf : Fr M w w') (ha : Apart L M) : WAt w' L g bs bad := h.keep (hf.keep ha h.under) hf.size
theorem WAt.make {w : World} {g : Nat} {v : Value} {bs : List UInt8} {bad : Bool} (h1 : Bk w g #[v, .bool bad] 76) (h2 : Own w 0 5 1 v bs.length (bs.map bV)) : WAt w (g :: v.ownBlock.toList) g bs bad :=
  ⟨⟨v, h1, h2, fun k hk => by simp [hk]⟩, by simp, fun k hk => by
    rcases List.mem_cons.1 hk with rfl | hk
    · exact h1.lt
    · exact (h2.lt k (by simpa using hk)).2⟩
theorem own_far {w : World} {g : Nat} {v : Value} {cs : Array Value} {n : Nat} {xs : List Value} {t : TypeId} (h1 : Bk w g cs t) (h2 : Own w 0 5 1 v n xs) (hne : t ≠ 5) : v.ownBlock ≠ some g := by
  intro h
  rcases h2.2 with ⟨rfl, _⟩ | ⟨g', off, cap, cur, rfl, hb, hg, _⟩
  · cases h
  · simp [Value.ownBlock] at h
    subst h
    unfold Bk at h1
    rw [h1] at hg
    injection hg with hg
    injection hg with h3 h4 h5
    exact hne h4
theorem u8_of (u : Nat) : IntKind.u8.wrap (u : Int) = ((u % 256 : Nat) : Int) := by rw [IntKind.wrap_u8]; omega
theorem bV_nat (n : Nat) (h : n < 256) : bV (UInt8.ofNat n) = .int .u8 (n : Int) := by
  unfold bV
  rw [show (UInt8.ofNat n).toNat = n % 256 from rfl, Nat.mod_eq_of_lt h]
theorem or128B : ((List.range 256).all fun x => bits BinOp.or IntKind.u8 (x : Int) 128 == ((x % 128 + 128 : Nat) : Int)) = true := by kernel_rfl
theorem or128 (x : Nat) : bits BinOp.or IntKind.u8 ((x : Int) % 256) 128 = ((x % 128 + 128 : Nat) : Int) := by
  have h := List.all_eq_true.1 or128B (x % 256) (List.mem_range.2 (by omega))
  have h2 := eq_of_beq h
  rw [show ((x % 256 : Nat) : Int) = (x : Int) % 256 by omega, show x % 256 % 128 = x % 128 by omega] at h2
  exact h2
/-- One append to a writer, and the store of the slice. -/
theorem w_step {wa w1 : World} {g n m : Nat} {v v1 : Value} {bad : Bool} {xs zs : List Value} (hB : Bk wa g #[v, .bool bad] 76) (hO : Own wa 0 5 1 v n xs) (hg : wa.grownBy w1 v.ownBlock) (ho1 : Own w1 0 5 1 v1 m zs) :
    Bk w1 g #[v, .bool bad] 76 ∧ Bk (w1.setCell ⟨g, 0, none⟩ v1) g #[v1, .bool bad] 76 ∧ Own (w1.setCell ⟨g, 0, none⟩ v1) 0 5 1 v1 m zs := by
  have hne : v.ownBlock ≠ some g := own_far hB hO (by decide)
  have b1 : Bk w1 g #[v, .bool bad] 76 := hB.keep (hg.block g hB.lt (fun e => hne e.symm))
  refine ⟨b1, b1.setCell 0 v1, ho1.keep fun k hk => Below.heap_setCell _ _ _ _ fun e => ?_⟩
  have e2 : k = g := e
  subst e2
  exact own_far b1 ho1 (by decide) hk
theorem own_gr {L : List Nat} {v v1 : Value} {n m : Nat} (hK : ∀ k, v.ownBlock = some k → k ∈ L ∨ n ≤ k) (hn1 : v1.ownBlock = v.ownBlock ∨ ∃ g, v1.ownBlock = some g ∧ m ≤ g) (hnm : n ≤ m) : ∀ k, v1.ownBlock = some k → k ∈ L ∨ n ≤ k := by
  intro k hk
  rcases hn1 with h | ⟨g, h, hg⟩
  · exact hK k (h ▸ hk)
  · rw [h] at hk; injection hk with hk; omega
theorem gr_make {L : List Nat} {v : Value} {n g : Nat} (hg : g ∈ L) (hK : ∀ k, v.ownBlock = some k → k ∈ L ∨ n ≤ k) : Gr L (g :: v.ownBlock.toList) n := by
  intro k hk
  rcases List.mem_cons.1 hk with rfl | hk
  · exact .inl hg
  · exact hK k (by simpa using hk)
set_option maxRecDepth 100000 in
set_option maxHeartbeats 2000000 in
theorem wput_any (g u : Nat) (hu : u < 18446744073709551616) (bs : List UInt8) (bad : Bool) (L : List Nat) (w : World) (h : WAt w L g bs bad) (hl : bs.length ≤ 100000000) :
    Calls Try.prog 68 #[.pointer (some ⟨g, 0, none⟩), .int .u64 u] w fun e w' => e = .returned (.tuple #[]) ∧ ∃ L', WAt w' L' g (bs ++ grp u) bad ∧ Fr L w w' ∧ Gr L L' w.heap.size := by
  obtain ⟨⟨v, h1, h2, h3⟩, h4, h5⟩ := h
  have H1 := Bx.mk h1; have H2 := Bx.mk h2; have H3 := Bx.mk h3; have H4 := Bx.mk h4; have HL := Bx.mk hl; have HU := Bx.mk hu
  have H10 := Bx.mk (grp_len64 hu)
  clear h1 h2 h3 h4 h5 hl hu
  go_enter Try.func68, Try.ntmps68
  go_wp2_with fail
  go_loopw [1,4,5,6,7,8,9,10,11,12,13,14,15,16,17,18,19] (fun t1 _ _ _ _ _ _ _ _ _ _ _ _ _ _ _ _ wr => ∃ (x : Nat) (v : Value) (ys : List UInt8), t1 = .int .u64 x ∧ x ≤ u ∧ Bx (ys ++ grp x = bs ++ grp u) ∧ Bk wr g #[v, .bool bad] 76 ∧ Own wr 0 5 1 v ys.length (ys.map bV) ∧ Bx (∀ k, v.ownBlock = some k → k ∈ L ∨ w.heap.size ≤ k) ∧ Fr L w wr) (fun t1 _ _ _ _ _ _ _ _ _ _ _ _ _ _ _ _ _ => (intOf t1).toNat)
  case atStart => exact ⟨u, v, bs, rfl, Nat.le_refl _, ⟨rfl⟩, H1.out, H2.out, ⟨fun k hk => .inl (H3.out k hk)⟩, Fr.refl _ _⟩
  case round =>
    obtain ⟨x, v, ys, rfl, hxu, hE, hB, hO, hK, hF⟩ := hrel
    have HB := Bx.mk hB; have HO := Bx.mk hO; have HF := Bx.mk hF
    have hlen : ys.length ≤ 100000010 := by
      have := congrArg List.length hE.out; rw [List.length_append, List.length_append] at this; have := HL.out; have := H10.out; omega
    have HLen := Bx.mk hlen
    have hXU := Bx.mk hxu
    have c0 : wr.cell? ⟨g, 0, none⟩ = some v := by rw [hB.cell]; rfl
    clear hB hO hF hlen hxu
    by_cases hge : (128 : Int) ≤ (x : Int)
    · have hG := grp_ge (u := x) (by omega)
      obtain ⟨y, hy⟩ : ∃ y, y = x % 128 + 128 := ⟨_, rfl⟩
      have f2 : bits BinOp.or IntKind.u8 ((x : Int) % 256) 128 = (y : Int) := by rw [or128, hy]
      have f3 : (x : Int) / 128 = ((x / 128 : Nat) : Int) := by omega
      have f4 : IntKind.u64.wrap ((x / 128 : Nat) : Int) = ((x / 128 : Nat) : Int) := by rw [IntKind.wrap_u64]; have := hXU.out; have := HU.out; omega
      rw [← hy] at hG
      have hyb := bV_nat y (by omega)
      have HY := Bx.mk hyb; have HG := Bx.mk hG
      have hdec : x / 128 < x := by omega
      have hdec2 : x / 128 ≤ u := by have := hXU.out; omega
      have HD := Bx.mk hdec; have HD2 := Bx.mk hdec2
      clear hy hyb hG hdec hdec2
      generalize x / 128 = x2 at *
      go_wp2_with (refine wpList_appb rfl (.tmp 10) (.tmp 14) rfl rfl (HO.out.alloc _) _ rfl 1 [bV (UInt8.ofNat y)] (by rw [← HY.out]; exact Src.builtB (UInt8.ofNat y)) (by have := HLen.out; omega) (by omega) ?_)
      intro v1 w1 ho1 hg1 hn1
      obtain ⟨a1, cp1, rfl⟩ := ho1.isSlice
      obtain ⟨b1, b2, b3⟩ := w_step (HB.out.alloc _) (HO.out.alloc _) hg1 ho1
      have hK2 := own_gr hK.out hn1 (show w.heap.size ≤ wr.heap.size + 1 by have := HF.out.size; omega)
      have hF2 := ((HF.out.alloc (.cells #[.int .u8 (y : Int)] 5)).grown hg1 hK.out).setCell (p := ⟨g, 0, none⟩) (.inl H4.out) (.slice a1 (ys.length + 1) cp1)
      have c1 : w1.frozen? ⟨g, 0, none⟩ = false := b1.frozen 0
      have c2 : w1.cell? ⟨g, 0, none⟩ = some v := by rw [b1.cell]; rfl
      have B2 := Bx.mk b2; have B3 := Bx.mk b3; have K2 := Bx.mk hK2; have F2 := Bx.mk hF2
      clear b1 b2 b3 hK2 hF2 ho1 hg1 hn1
      go_wp2
      go_roundw
      case rel => exact ⟨x2, _, ys ++ [UInt8.ofNat y], rfl, HD2.out, ⟨by rw [← hE.out, HG.out, List.append_assoc]; rfl⟩, B2.out, by rw [List.length_append, List.map_append]; exact B3.out, K2, F2.out⟩
      case measure => have := HD.out; simp [intOf]; omega
    · have hG := grp_lt (u := x) (by omega)
      have hyb := bV_nat x (by omega)
      have HY := Bx.mk hyb; have HG := Bx.mk hG
      have f1 : (x : Int) % 256 = (x : Int) := by omega
      clear hyb hG
      go_wp2_with (refine wpList_appb rfl (.tmp 24) (.tmp 27) rfl rfl (HO.out.alloc _) _ rfl 1 [bV (UInt8.ofNat x)] (by rw [← HY.out]; exact Src.builtB (UInt8.ofNat x)) (by have := HLen.out; omega) (by omega) ?_)
      intro v1 w1 ho1 hg1 hn1
      obtain ⟨a1, cp1, rfl⟩ := ho1.isSlice
      obtain ⟨b1, b2, b3⟩ := w_step (HB.out.alloc _) (HO.out.alloc _) hg1 ho1
      have hK2 := own_gr hK.out hn1 (show w.heap.size ≤ wr.heap.size + 1 by have := HF.out.size; omega)
      have hF2 := ((HF.out.alloc (.cells #[.int .u8 (x : Int)] 5)).grown hg1 hK.out).setCell (p := ⟨g, 0, none⟩) (.inl H4.out) (.slice a1 (ys.length + 1) cp1)
      have c1 : w1.frozen? ⟨g, 0, none⟩ = false := b1.frozen 0
      have c2 : w1.cell? ⟨g, 0, none⟩ = some v := by rw [b1.cell]; rfl
      have B2 := Bx.mk b2; have B3 := Bx.mk b3; have K2 := Bx.mk hK2; have F2 := Bx.mk hF2
      clear b1 b2 b3 hK2 hF2 ho1 hg1 hn1
      go_wp2
      go_end0
      refine ⟨rfl, _, ?_, F2.out, gr_make H4.out K2.out⟩
      rw [← hE.out, HG.out]
      exact WAt.make B2.out (by rw [List.length_append, List.map_append]; exact B3.out)
end Go.Proofs.Ytjjmhmbmjpedkaa
end
section
/- The rest of the codec's writer, walked. -/
namespace Go.Proofs.Ytjjmhmbmjpedkaa
open Go.RowKit
def W1 (w : World) (L : List Nat) (g : Nat) (bs : List UInt8) (bad : Bool) (e : Ending) (w' : World) : Prop :=
  e = .returned (.tuple #[]) ∧ ∃ L', WAt w' L' g bs bad ∧ Fr L w w' ∧ Gr L L' w.heap.size
theorem WAt.setBad {w : World} {L : List Nat} {g : Nat} {bs : List UInt8} {bad : Bool} (h : WAt w L g bs bad) : WAt (w.setCell ⟨g, 1, none⟩ (.bool true)) L g bs true := by
  obtain ⟨⟨v, h1, h2, h3⟩, h4, h5⟩ := h
  refine ⟨⟨v, h1.setCell 1 (.bool true), h2.keep fun k hk => Below.heap_setCell _ _ _ _ fun e => ?_, h3⟩, h4, by simpa [Under] using h5⟩
  have e2 : k = g := e
  subst e2
  exact own_far h1 h2 (by decide) hk
set_option maxRecDepth 100000 in
set_option maxHeartbeats 2000000 in
theorem wUint_neg (g : Nat) (z : Int) (hz : z < 0) (bs : List UInt8) (bad : Bool) (L : List Nat) (w : World) (h : WAt w L g bs bad) :
    Calls Try.prog 62 #[.pointer (some ⟨g, 0, none⟩), .int .i64 z] w (W1 w L g bs true) := by
  have HW := Bx.mk h
  obtain ⟨⟨v, h1, h2, h3⟩, h4, h5⟩ := h
  have H4 := Bx.mk h4
  have c1 : w.frozen? ⟨g, 1, none⟩ = false := h1.frozen 1
  have c2 : w.cell? ⟨g, 1, none⟩ = some (.bool bad) := by rw [h1.cell]; rfl
  clear h1 h2 h3 h4 h5
  go_enter Try.func62, Try.ntmps62
  go_wp2
  go_end0
  exact ⟨rfl, L, HW.out.setBad, (Fr.refl _ _).setCell (p := ⟨g, 1, none⟩) (.inl H4.out) _, Gr.refl _ _⟩
set_option maxRecDepth 100000 in
set_option maxHeartbeats 2000000 in
theorem wUint_pos (g n : Nat) (hn : n < 9223372036854775808) (bs : List UInt8) (bad : Bool) (L : List Nat) (w : World) (h : WAt w L g bs bad) (hl : bs.length ≤ 100000000) :
    Calls Try.prog 62 #[.pointer (some ⟨g, 0, none⟩), .int .i64 n] w (W1 w L g (bs ++ grp n) bad) := by
  have HC := fun w h => Bx.mk (wput_any g n (by omega) bs bad L w h hl)
  have HW := Bx.mk h
  have f1 : IntKind.u64.wrap (n : Int) = (n : Int) := by rw [IntKind.wrap_u64]; omega
  have f2 : ¬ (n : Int) < 0 := by omega
  clear h hl hn
  go_enter Try.func62, Try.ntmps62
  go_wp2_with fail
  refine (HC _ HW.out).out.mono ?_
  rintro e w' ⟨rfl, hw'⟩
  go_wp2
  go_end0
  exact ⟨rfl, hw'⟩
theorem wUint_nil (z : Int) (w : World) : Calls Try.prog 62 #[.pointer none, .int .i64 z] w fun e w' => e = .returned (.tuple #[]) ∧ w' = w := by
  go_enter Try.func62, Try.ntmps62
  go_wp2
  go_end0
  exact ⟨rfl, rfl⟩
theorem wUint_any (g : Nat) (z : Int) (hz : z ≤ 9223372036854775807) (bs : List UInt8) (bad : Bool) (L : List Nat) (w : World) (h : WAt w L g bs bad) (hl : bs.length ≤ 100000000) :
    Calls Try.prog 62 #[.pointer (some ⟨g, 0, none⟩), .int .i64 z] w (W1 w L g (bs ++ uintB z) (bad || decide (z < 0))) := by
  by_cases h0 : z < 0
  · rw [show uintB z = [] by unfold uintB; rw [if_pos h0], List.append_nil, decide_eq_true h0, Bool.or_true]
    exact wUint_neg g z h0 bs bad L w h
  · obtain ⟨n, rfl⟩ := Int.eq_ofNat_of_zero_le (show 0 ≤ z by omega)
    rw [show uintB (n : Int) = grp n by unfold uintB; rw [if_neg h0]; rfl, decide_eq_false h0, Bool.or_false]
    exact wUint_pos g n (by omega) bs bad L w h hl
theorem zig_xor_pos (n : Nat) (h : n < 9223372036854775808) : zig (n : Int) = 2 * n := by unfold zig; rw [if_pos (by omega)]; omega
theorem xor_zero (a : Nat) (h : a < 18446744073709551616) : bits BinOp.xor IntKind.u64 (a : Int) 0 = (a : Int) := by
  have := bits_xor_u64_nat a 0 h (by omega)
  simpa using this
theorem nat_xor_ones (a : Nat) (h : a < 2 ^ 64) : a ^^^ (2 ^ 64 - 1) = 2 ^ 64 - 1 - a := by
  apply Nat.eq_of_testBit_eq
  intro i
  rw [Nat.testBit_xor, Nat.testBit_two_pow_sub_one, show 2 ^ 64 - 1 - a = 2 ^ 64 - (a + 1) by omega, Nat.testBit_two_pow_sub_succ h]
  by_cases hi : i < 64
  · simp [hi]
  · simp [hi]
    exact Nat.testBit_lt_two_pow (Nat.lt_of_lt_of_le h (Nat.pow_le_pow_right (by omega) (by omega)))
theorem xor_ones (a : Nat) (h : a < 18446744073709551616) : bits BinOp.xor IntKind.u64 (a : Int) 18446744073709551615 = ((18446744073709551615 - a : Nat) : Int) := by
  have h1 := bits_xor_u64_nat a 18446744073709551615 h (by omega)
  have h2 := nat_xor_ones a h
  rw [show (2 : Nat) ^ 64 - 1 = 18446744073709551615 from rfl] at h2
  rw [h2] at h1
  exact h1
set_option maxRecDepth 100000 in
set_option maxHeartbeats 2000000 in
theorem wInt_pos (g n : Nat) (hn : n < 9223372036854775808) (bs : List UInt8) (bad : Bool) (L : List Nat) (w : World) (h : WAt w L g bs bad) (hl : bs.length ≤ 100000000) :
    Calls Try.prog 38 #[.pointer (some ⟨g, 0, none⟩), .int .i64 n] w (W1 w L g (bs ++ intB n) bad) := by
  unfold intB
  rw [zig_xor_pos n hn]
  obtain ⟨m, hm⟩ : ∃ m, m = 2 * n := ⟨_, rfl⟩
  rw [← hm]
  have HC := fun w h => Bx.mk (wput_any g m (by omega) bs bad L w h hl)
  have HW := Bx.mk h
  have f1 : IntKind.u64.wrap (n : Int) = (n : Int) := by rw [IntKind.wrap_u64]; omega
  have f2 : IntKind.u64.wrap ((n : Int) * 2) = (m : Int) := by rw [IntKind.wrap_u64]; omega
  have f3 : (n : Int) / 9223372036854775808 = 0 := by omega
  have f4 := xor_zero m (by omega)
  clear h hl hn hm
  go_enter Try.func38, Try.ntmps38
  go_wp2_with fail
  refine (HC _ HW.out).out.mono ?_
  rintro e w' ⟨rfl, hw'⟩
  go_wp2
  go_end0
  exact ⟨rfl, hw'⟩
set_option maxRecDepth 100000 in
set_option maxHeartbeats 2000000 in
theorem wInt_neg (g : Nat) (z : Int) (h1 : z < 0) (h2 : -9223372036854775808 ≤ z) (bs : List UInt8) (bad : Bool) (L : List Nat) (w : World) (h : WAt w L g bs bad) (hl : bs.length ≤ 100000000) :
    Calls Try.prog 38 #[.pointer (some ⟨g, 0, none⟩), .int .i64 z] w (W1 w L g (bs ++ intB z) bad) := by
  unfold intB
  obtain ⟨m, hm⟩ : ∃ m : Nat, (m : Int) = 18446744073709551616 + z := ⟨(18446744073709551616 + z).toNat, by omega⟩
  obtain ⟨k, hk⟩ : ∃ k : Nat, k = 2 * m % 18446744073709551616 := ⟨_, rfl⟩
  have hz : zig z = 18446744073709551615 - k := by unfold zig; rw [if_neg (by omega)]; omega
  rw [hz]
  have HC := fun w h => Bx.mk (wput_any g (18446744073709551615 - k) (by omega) bs bad L w h hl)
  have HW := Bx.mk h
  have f1 : IntKind.u64.wrap z = (m : Int) := by rw [IntKind.wrap_u64]; omega
  have f2 : IntKind.u64.wrap ((m : Int) * 2) = (k : Int) := by rw [IntKind.wrap_u64]; omega
  have f3 : z / 9223372036854775808 = -1 := by omega
  have f5 : IntKind.u64.wrap (-1) = 18446744073709551615 := by rw [IntKind.wrap_u64]; rfl
  have f4 := xor_ones k (by omega)
  clear h hl hz hm hk
  generalize 18446744073709551615 - k = r at *
  go_enter Try.func38, Try.ntmps38
  go_wp2_with fail
  refine (HC _ HW.out).out.mono ?_
  rintro e w' ⟨rfl, hw'⟩
  go_wp2
  go_end0
  exact ⟨rfl, hw'⟩
theorem wInt_any (g : Nat) (z : Int) (h1 : -9223372036854775808 ≤ z) (h2 : z ≤ 9223372036854775807) (bs : List UInt8) (bad : Bool) (L : List Nat) (w : World) (h : WAt w L g bs bad) (hl : bs.length ≤ 100000000) :
    Calls Try.prog 38 #[.pointer (some ⟨g, 0, none⟩), .int .i64 z] w (W1 w L g (bs ++ intB z) bad) := by
  by_cases h0 : z < 0
  · exact wInt_neg g z h0 h1 bs bad L w h hl
  · obtain ⟨n, rfl⟩ := Int.eq_ofNat_of_zero_le (show 0 ≤ z by omega)
    exact wInt_pos g n (by omega) bs bad L w h hl
set_option maxRecDepth 100000 in
set_option maxHeartbeats 2000000 in
theorem wFlag_any (g : Nat) (b : Bool) (bs : List UInt8) (bad : Bool) (L : List Nat) (w : World) (h : WAt w L g bs bad) (hl : bs.length ≤ 100000000) :
    Calls Try.prog 63 #[.pointer (some ⟨g, 0, none⟩), .bool b] w (W1 w L g (bs ++ flagB b) bad) := by
  obtain ⟨⟨v, h1, h2, h3⟩, h4, h5⟩ := h
  have H1 := Bx.mk h1; have H2 := Bx.mk h2; have H3 := Bx.mk h3; have H4 := Bx.mk h4; have HL := Bx.mk hl
  have c0 : w.cell? ⟨g, 0, none⟩ = some v := by rw [h1.cell]; rfl
  clear h1 h2 h3 h4 h5 hl
  cases b with
  | true =>
    have HS : ∀ W : World, Src Try.prog 1 30 (.slice (some ⟨W.heap.size, 0, none⟩) 1 1) 1 [bV 1] (W.alloc (.cells #[.int .u8 1] 5)) := fun W => Src.builtB 1
    go_enter Try.func63, Try.ntmps63
    go_wp2_with (refine wpList_appb rfl (.tmp 22) (.tmp 23) rfl rfl (H2.out.alloc _) _ rfl 1 [bV 1] (HS _) (by have := HL.out; omega) (by omega) ?_)
    intro v1 w1 ho1 hg1 hn1
    obtain ⟨a1, cp1, rfl⟩ := ho1.isSlice
    obtain ⟨b1, b2, b3⟩ := w_step (H1.out.alloc _) (H2.out.alloc _) hg1 ho1
    have hK2 := own_gr (fun k hk => Or.inl (H3.out k hk)) hn1 (show w.heap.size ≤ w.heap.size + 1 by omega)
    have hF2 := (((Fr.refl L w).alloc (.cells #[.int .u8 1] 5)).grown hg1 (fun k hk => Or.inl (H3.out k hk))).setCell (p := ⟨g, 0, none⟩) (.inl H4.out) (.slice a1 (bs.length + 1) cp1)
    have e1 : w1.frozen? ⟨g, 0, none⟩ = false := b1.frozen 0
    have e2 : w1.cell? ⟨g, 0, none⟩ = some v := by rw [b1.cell]; rfl
    have B2 := Bx.mk b2; have B3 := Bx.mk b3; have K2 := Bx.mk hK2; have F2 := Bx.mk hF2
    clear b1 b2 b3 hK2 hF2 ho1 hg1 hn1
    go_wp2
    go_end0
    exact ⟨rfl, _, WAt.make B2.out (by rw [List.length_append, List.map_append]; exact B3.out), F2.out, gr_make H4.out K2.out⟩
  | false =>
    have HS : ∀ W : World, Src Try.prog 1 30 (.slice (some ⟨W.heap.size, 0, none⟩) 1 1) 1 [bV 0] (W.alloc (.cells #[.int .u8 0] 5)) := fun W => Src.builtB 0
    go_enter Try.func63, Try.ntmps63
    go_wp2_with (refine wpList_appb rfl (.tmp 8) (.tmp 9) rfl rfl (H2.out.alloc _) _ rfl 1 [bV 0] (HS _) (by have := HL.out; omega) (by omega) ?_)
    intro v1 w1 ho1 hg1 hn1
    obtain ⟨a1, cp1, rfl⟩ := ho1.isSlice
    obtain ⟨b1, b2, b3⟩ := w_step (H1.out.alloc _) (H2.out.alloc _) hg1 ho1
    have hK2 := own_gr (fun k hk => Or.inl (H3.out k hk)) hn1 (show w.heap.size ≤ w.heap.size + 1 by omega)
    have hF2 := (((Fr.refl L w).alloc (.cells #[.int .u8 0] 5)).grown hg1 (fun k hk => Or.inl (H3.out k hk))).setCell (p := ⟨g, 0, none⟩) (.inl H4.out) (.slice a1 (bs.length + 1) cp1)
    have e1 : w1.frozen? ⟨g, 0, none⟩ = false := b1.frozen 0
    have e2 : w1.cell? ⟨g, 0, none⟩ = some v := by rw [b1.cell]; rfl
    have B2 := Bx.mk b2; have B3 := Bx.mk b3; have K2 := Bx.mk hK2; have F2 := Bx.mk hF2
    clear b1 b2 b3 hK2 hF2 ho1 hg1 hn1
    go_wp2
    go_end0
    exact ⟨rfl, _, WAt.make B2.out (by rw [List.length_append, List.map_append]; exact B3.out), F2.out, gr_make H4.out K2.out⟩
/-- The bytes of a slice, in blocks of M. -/
def In (w : World) (M : List Nat) (a : Option Addr) (bs : List UInt8) : Prop := RowAt w a (bs.map bV) ∧ ∀ ad, a = some ad → bs ≠ [] → ad.block ∈ M
theorem In.keep {w w' : World} {M : List Nat} {a : Option Addr} {bs : List UInt8} (h : In w M a bs) (hk : ∀ k ∈ M, w'.heap[k]? = w.heap[k]?) : In w' M a bs := by
  refine ⟨?_, h.2⟩
  rcases h.1 with h1 | ⟨b, off, rfl, h1⟩
  · exact .inl h1
  · by_cases hb : bs = []
    · exact .inl (by rw [hb]; rfl)
    · refine .inr ⟨b, off, rfl, fun i v hv => ?_⟩
      rw [← h1 i v hv]
      exact World.cell?_of_block (a := ⟨b, off + i, none⟩) (hk b (h.2 _ rfl hb))
theorem In.nil (w : World) (M : List Nat) : In w M none [] := ⟨.inl rfl, fun _ h => by cases h⟩
theorem In.src {w : World} {M : List Nat} {a : Option Addr} {bs : List UInt8} (h : In w M a bs) (c : Nat) : Src Try.prog 1 30 (.slice a bs.length c) bs.length (bs.map bV) w := by
  have := Src.ofRow (P := Try.prog) (tx := 30) (w := w) Try.underlying30 a c (bs.map bV) h.1 one_bV
  rwa [List.length_map] at this
set_option maxRecDepth 100000 in
set_option maxHeartbeats 2000000 in
theorem wText_any (g : Nat) (a : Option Addr) (c : Nat) (ts : List UInt8) (M : List Nat) (bs : List UInt8) (bad : Bool) (L : List Nat) (w : World) (h : WAt w L g bs bad) (ht : In w M a ts) (hM : Under M w.heap.size) (hap : Apart M L) (hl : bs.length ≤ 10000000) (htl : ts.length ≤ 10000000) :
    Calls Try.prog 64 #[.pointer (some ⟨g, 0, none⟩), .slice a ts.length c] w (W1 w L g (bs ++ textB ts) bad) := by
  have f1 : IntKind.u64.wrap (ts.length : Int) = (ts.length : Int) := by rw [IntKind.wrap_u64]; omega
  have HC := fun w h => Bx.mk (wput_any g ts.length (by omega) bs bad L w h (by omega))
  have HW := Bx.mk h; have HT := Bx.mk ht; have HM := Bx.mk hM; have HAP := Bx.mk hap; have HL := Bx.mk hl; have HTL := Bx.mk htl
  have H10 := Bx.mk (grp_len64 (u := ts.length) (by omega))
  clear h ht hM hap hl htl
  go_enter Try.func64, Try.ntmps64
  go_wp2_with fail
  refine (HC _ HW.out).out.mono ?_
  rintro e w' ⟨rfl, L1, hW1, hF1, hG1⟩
  have HT1 := Bx.mk (HT.out.keep (hF1.keep HAP.out HM.out))
  have HF1 := Bx.mk hF1; have HG1 := Bx.mk hG1
  obtain ⟨⟨v, h1, h2, h3⟩, h4, h5⟩ := hW1
  have H1 := Bx.mk h1; have H2 := Bx.mk h2; have H3 := Bx.mk h3; have H4 := Bx.mk h4; have H5 := Bx.mk h5
  have c0 : w'.cell? ⟨g, 0, none⟩ = some v := by rw [h1.cell]; rfl
  clear h1 h2 h3 h4 h5 hF1 hG1 HC
  go_wp2_with (refine wpList_appb rfl (.tmp 15) (.tmp 16) rfl rfl H2.out _ rfl ts.length (ts.map bV) (HT1.out.src c) (by have := HL.out; have := HTL.out; have := H10.out; simp only [List.length_append]; omega) (by omega) ?_)
  intro v1 w1 ho1 hg1 hn1
  obtain ⟨a1, cp1, rfl⟩ := ho1.isSlice
  obtain ⟨b1, b2, b3⟩ := w_step H1.out H2.out hg1 ho1
  have hK2 := own_gr (fun k hk => Or.inl (H3.out k hk)) hn1 (Nat.le_refl w'.heap.size)
  have hF2 := ((Fr.refl L1 w').grown hg1 (fun k hk => Or.inl (H3.out k hk))).setCell (p := ⟨g, 0, none⟩) (.inl H4.out) (.slice a1 (bs.length + (grp ts.length).length + ts.length) cp1)
  have e1 : w1.frozen? ⟨g, 0, none⟩ = false := b1.frozen 0
  have e2 : w1.cell? ⟨g, 0, none⟩ = some v := by rw [b1.cell]; rfl
  have B2 := Bx.mk b2; have B3 := Bx.mk b3; have K2 := Bx.mk hK2; have F2 := Bx.mk hF2
  clear b1 b2 b3 hK2 hF2 ho1 hg1 hn1
  go_wp2
  go_end0
  refine ⟨rfl, _, ?_, HF1.out.trans F2.out HG1.out, HG1.out.trans (gr_make H4.out K2.out) HF1.out.size⟩
  unfold textB
  rw [← List.append_assoc]
  exact WAt.make B2.out (by rw [List.length_append, List.length_append, List.map_append (l₂ := ts), List.map_append]; have := B3.out; rw [List.append_assoc]; exact this)
theorem In.ofOwn {w : World} {b : Nat} {a : Option Addr} {c : Nat} {xs : List UInt8} (h : Own w b 5 1 (.slice a xs.length c) xs.length (xs.map bV)) : In w (Value.ownBlock (.slice a xs.length c)).toList a xs := by
  refine ⟨h.row, fun ad had hne => ?_⟩
  rcases h.2 with ⟨he, h0⟩ | ⟨g, off, cap, cur, he, _⟩
  · exact absurd (List.eq_nil_of_length_eq_zero h0) hne
  · injection he with h1 h2 h3
    subst h1
    injection had with had
    subst had
    simp [Value.ownBlock]
end Go.Proofs.Ytjjmhmbmjpedkaa
end
section
/- bytes.Clone, Bytes; the reference's bytes of numbers, walked. -/
namespace Go.Proofs.Ytjjmhmbmjpedkaa
open Go.RowKit
set_option maxRecDepth 100000 in
set_option maxHeartbeats 2000000 in
theorem bClone_any (a : Option Addr) (c : Nat) (bs : List UInt8) (w : World) (h : RowAt w a (bs.map bV)) (hl : bs.length ≤ 100000000) :
    Calls Try.prog 49 #[.slice a bs.length c] w fun e w' => ∃ v, e = .returned v ∧ Own w' w.heap.size 5 1 v bs.length (bs.map bV) ∧ Below w.heap.size w w' := by
  have H := Bx.mk h; have HL := Bx.mk hl
  clear h hl
  cases a with
  | none =>
    have hb : bs = [] := by
      rcases H.out with h | ⟨b, off, h, _⟩
      · simpa using h
      · cases h
    subst hb
    have hnil := fun w => Lib.run_eql_slice_nil (P := Try.prog) w 30 5 none 0 c 0 0 Try.underlying30
    show Calls Try.prog 49 #[.slice none 0 c] w _
    go_enter Try.func49, Try.ntmps49
    go_wp2
    go_ret
    exact ⟨_, rfl, Own.nil _ _ _ _, Below.refl _ _⟩
  | some ad =>
    have hnil := fun w => Lib.run_eql_slice_nil (P := Try.prog) w 30 5 (some ad) bs.length c 0 0 Try.underlying30
    have hnn : (some ad).isNone = false := rfl
    go_enter Try.func49, Try.ntmps49
    go_wp2_with (refine wpList_appb rfl (.tmp 5) (.tmp 6) rfl rfl (Own.fresh0 (w := w) (Nat.le_refl _)) _ rfl bs.length (bs.map bV) ?hs ?hb ?hbase ?_)
    case hs =>
      have := Src.ofRow (P := Try.prog) (tx := 30) Try.underlying30 (some ad) c (bs.map bV) (H.out.alloc (.cells #[] 5)) one_bV
      rwa [List.length_map] at this
    case hb => have := HL.out; omega
    case hbase => simp
    intro v1 w1 ho1 hg1 hn1
    obtain ⟨a1, cp1, rfl⟩ := ho1.isSlice
    have hb := (Below_one (w := w) (.cells #[] 5)).grown hg1 (by simp) (fun g hg => by have h3 : w.heap.size = g := Option.some.inj hg; omega)
    have HB := Bx.mk hb; have HO := Bx.mk ho1
    clear hb ho1 hg1 hn1
    go_wp2
    go_ret
    exact ⟨_, rfl, HO.out, HB.out⟩
/-- What 'Bytes' tells of a writer. -/
def wErr (bad : Bool) : Int := if bad then 1 else 0
set_option maxRecDepth 100000 in
set_option maxHeartbeats 2000000 in
theorem wBytes_any (g : Nat) (bs : List UInt8) (bad : Bool) (L : List Nat) (w : World) (h : WAt w L g bs bad) (hl : bs.length ≤ 100000000) :
    Calls Try.prog 39 #[.pointer (some ⟨g, 0, none⟩)] w fun e w' => ∃ v, e = .returned (.tuple #[v, .int .i64 (wErr bad)]) ∧ Own w' w.heap.size 5 1 v bs.length (bs.map bV) ∧ Below w.heap.size w w' := by
  obtain ⟨⟨v, h1, h2, h3⟩, h4, h5⟩ := h
  obtain ⟨a, c, rfl⟩ := h2.isSlice
  have HR := Bx.mk h2.row
  have c0 : w.cell? ⟨g, 0, none⟩ = some (.slice a bs.length c) := by rw [h1.cell]; rfl
  have c1 : w.cell? ⟨g, 1, none⟩ = some (.bool bad) := by rw [h1.cell]; rfl
  have HL := Bx.mk hl
  clear h1 h2 h3 h4 h5 hl
  cases bad with
  | true =>
    go_enter Try.func39, Try.ntmps39
    go_wp2_with fail
    refine (bClone_any a c bs w HR.out HL.out).mono ?_
    rintro e w' ⟨v, rfl, ho, hb⟩
    have HO := Bx.mk ho; have HB := Bx.mk hb
    clear ho hb
    go_wp2
    go_ret2
    exact ⟨_, rfl, HO.out, HB.out⟩
  | false =>
    go_enter Try.func39, Try.ntmps39
    go_wp2_with fail
    refine (bClone_any a c bs w HR.out HL.out).mono ?_
    rintro e w' ⟨v, rfl, ho, hb⟩
    have HO := Bx.mk ho; have HB := Bx.mk hb
    clear ho hb
    go_wp2
    go_ret2
    exact ⟨_, rfl, HO.out, HB.out⟩
theorem wBytes_nil (w : World) : Calls Try.prog 39 #[.pointer none] w fun e w' => e = .returned (.tuple #[.slice none 0 0, .int .i64 1]) ∧ w' = w := by
  go_enter Try.func39, Try.ntmps39
  go_wp2
  go_ret2
  exact ⟨rfl, rfl⟩
theorem wText_nil (v : Value) (n c : Nat) (hv : v = .slice none n c) (w : World) : Calls Try.prog 64 #[.pointer none, v] w fun e w' => e = .returned (.tuple #[]) ∧ w' = w := by
  subst hv
  go_enter Try.func64, Try.ntmps64
  go_wp2
  go_end0
  exact ⟨rfl, rfl⟩
theorem strOf_app (a b : List UInt8) : strOf a ++ strOf b = strOf (a ++ b) := by
  apply ByteArray.ext
  rw [ByteArray.data_append]
  simp [strOf]
theorem add_str {P : Program} (W : World) (xs ys : List UInt8) (h : xs.length + ys.length ≤ 9000000000000000000) : (Op.stringOp .add (strOf xs) (strOf ys)).run P W = .ok (.string (strOf (xs ++ ys))) W := by
  rw [run_string_add_sum W _ _ (by rw [strOf_size, strOf_size]; omega), strOf_app]
set_option maxRecDepth 100000 in
set_option maxHeartbeats 2000000 in
theorem fOne_any (n : Nat) (h : n < 256) (w : World) : Calls Try.prog 96 #[.int .i64 n] w fun e w' => e = .returned (.string (strOf [UInt8.ofNat n])) ∧ Below w.heap.size w w' := by
  have hb := bV_nat n h
  have hc : ∀ w : World, (convert 30 9 (.slice (some ⟨w.heap.size, 0, none⟩) 1 1)).run Try.prog (w.alloc (.cells #[.int .u8 (n : Int)] 5)) = .ok (.string (strOf [UInt8.ofNat n])) (w.alloc (.cells #[.int .u8 (n : Int)] 5)) := fun w => by
    rw [← hb]
    exact conv_str 30 9 Try.underlying30 Try.underlying5 Try.underlying9 _ (some ⟨w.heap.size, 0, none⟩) 1 [UInt8.ofNat n] (RowAt.ofWhole (vs := [bV (UInt8.ofNat n)]) (al_new rfl))
  clear hb
  go_enter Try.func96, Try.ntmps96
  go_wp2
  go_ret
  exact ⟨rfl, Below_one _⟩
set_option maxRecDepth 100000 in
set_option maxHeartbeats 2000000 in
theorem fgroups_any (u : Nat) (hu : u < 18446744073709551616) (w : World) : Calls Try.prog 93 #[.int .u64 u] w fun e w' => e = .returned (.string (strOf (grp u))) ∧ Below w.heap.size w w' := by
  have HU := Bx.mk hu
  have H10 := Bx.mk (grp_len64 hu)
  clear hu
  go_enter Try.func93, Try.ntmps93
  go_wp2_with fail
  go_loopw [0,3,4,5,6,7,8,9,10,11,12,13,14] (fun t0 t3 _ _ _ _ _ _ _ _ _ _ _ wr => ∃ (x : Nat) (ys : List UInt8), t0 = .int .u64 x ∧ t3 = .string (strOf ys) ∧ x ≤ u ∧ Bx (ys ++ grp x = grp u) ∧ Bx (Below w.heap.size w wr)) (fun t0 _ _ _ _ _ _ _ _ _ _ _ _ _ => (intOf t0).toNat)
  case atStart => exact ⟨u, [], rfl, rfl, Nat.le_refl _, ⟨rfl⟩, ⟨Below.refl _ _⟩⟩
  case round =>
    obtain ⟨x, ys, rfl, rfl, hxu, hE, hB⟩ := hrel
    have hXU := Bx.mk hxu
    have hlen : ys.length ≤ 10 := by
      have := congrArg List.length hE.out; rw [List.length_append] at this; have := H10.out; omega
    have HLen := Bx.mk hlen
    clear hlen hxu
    by_cases hge : (127 : Int) < (x : Int)
    · have hG := grp_ge (u := x) (by omega)
      obtain ⟨y, hy⟩ : ∃ y, y = x % 128 + 128 := ⟨_, rfl⟩
      have f1 : (x : Int) % 128 + 128 = (y : Int) := by omega
      have f3 : (x : Int) / 128 = ((x / 128 : Nat) : Int) := by omega
      rw [← hy] at hG
      have HC := fun w => Bx.mk (fOne_any y (by omega) w)
      have HG := Bx.mk hG
      have hdec : x / 128 < x := by omega
      have hdec2 : x / 128 ≤ u := by have := hXU.out; omega
      have HD := Bx.mk hdec; have HD2 := Bx.mk hdec2
      clear hy hG hdec hdec2
      generalize x / 128 = x2 at *
      have f5 : wrap64 ((x : Int) % 128) = (x : Int) % 128 := by unfold wrap64; omega
      have f6 : IntKind.u64.wrap (x2 : Int) = (x2 : Int) := by rw [IntKind.wrap_u64]; have := HD2.out; have := HU.out; omega
      go_wp2_with fail
      refine (HC _).out.mono ?_
      rintro e w' ⟨rfl, hb⟩
      have HB2 := Bx.mk (hB.out.trans (hb.mono hB.out.size))
      clear hb
      have hap := fun W => add_str (P := Try.prog) W ys [UInt8.ofNat y] (by have := HLen.out; simp; omega)
      go_wp2
      go_roundw
      case rel => exact ⟨x2, ys ++ [UInt8.ofNat y], rfl, rfl, HD2.out, ⟨by rw [← hE.out, HG.out, List.append_assoc]; rfl⟩, HB2⟩
      case measure => have := HD.out; simp [intOf]; omega
    · have hG := grp_lt (u := x) (by omega)
      have HC := fun w => Bx.mk (fOne_any x (by omega) w)
      have HG := Bx.mk hG
      have f5 : wrap64 (x : Int) = (x : Int) := by unfold wrap64; omega
      clear hG
      go_wp2_with fail
      refine (HC _).out.mono ?_
      rintro e w' ⟨rfl, hb⟩
      have HB2 := Bx.mk (hB.out.trans (hb.mono hB.out.size))
      clear hb
      have hap := fun W => add_str (P := Try.prog) W ys [UInt8.ofNat x] (by have := HLen.out; simp; omega)
      go_wp2
      go_ret
      exact ⟨by rw [← hE.out, HG.out]; rfl, HB2.out⟩
theorem fUint_any (z : Int) (h2 : z ≤ 9223372036854775807) (w : World) : Calls Try.prog 82 #[.int .i64 z] w fun e w' => e = .returned (.string (strOf (uintB z))) ∧ Below w.heap.size w w' := by
  by_cases h0 : z < 0
  · rw [show uintB z = [] by unfold uintB; rw [if_pos h0]]
    clear h2
    go_enter Try.func82, Try.ntmps82
    go_wp2
    go_ret
    exact ⟨rfl, Below.refl _ _⟩
  · obtain ⟨n, rfl⟩ := Int.eq_ofNat_of_zero_le (show 0 ≤ z by omega)
    rw [show uintB (n : Int) = grp n by unfold uintB; rw [if_neg h0]; rfl]
    have f1 : IntKind.u64.wrap (n : Int) = (n : Int) := by rw [IntKind.wrap_u64]; omega
    have HC := fun w => Bx.mk (fgroups_any n (by omega) w)
    clear h2
    go_enter Try.func82, Try.ntmps82
    go_wp2_with fail
    refine (HC _).out.mono ?_
    rintro e w' ⟨rfl, hb⟩
    have HB := Bx.mk hb; clear hb
    go_wp2
    go_ret
    exact ⟨rfl, HB.out⟩
theorem fInt_any (z : Int) (h1 : -9223372036854775808 ≤ z) (h2 : z ≤ 9223372036854775807) (w : World) : Calls Try.prog 84 #[.int .i64 z] w fun e w' => e = .returned (.string (strOf (intB z))) ∧ Below w.heap.size w w' := by
  unfold intB
  have hz := zig_lt h1 h2
  obtain ⟨m, hm⟩ : ∃ m, m = zig z := ⟨_, rfl⟩
  rw [← hm]
  have HC := fun w => Bx.mk (fgroups_any m (by omega) w)
  by_cases h0 : 0 ≤ z
  · have hm2 : (m : Int) = 2 * z := by rw [hm]; unfold zig; rw [if_pos h0]; omega
    have f1 : IntKind.u64.wrap z = z := by rw [IntKind.wrap_u64]; omega
    have f2 : IntKind.u64.wrap (2 * z) = (m : Int) := by rw [IntKind.wrap_u64]; omega
    clear hm hm2 h1 h2 hz
    go_enter Try.func84, Try.ntmps84
    go_wp2_with fail
    refine (HC _).out.mono ?_
    rintro e w' ⟨rfl, hb⟩
    have HB := Bx.mk hb; clear hb
    go_wp2
    go_ret
    exact ⟨rfl, HB.out⟩
  · have hm2 : (m : Int) = 2 * (-z) - 1 := by rw [hm]; unfold zig; rw [if_neg h0]; omega
    obtain ⟨k, hk⟩ : ∃ k : Int, k = 18446744073709551616 + z := ⟨_, rfl⟩
    obtain ⟨j, hj⟩ : ∃ j : Int, j = -z := ⟨_, rfl⟩
    have f1 : IntKind.u64.wrap z = k := by rw [IntKind.wrap_u64]; omega
    have f3 : IntKind.u64.wrap (-k) = j := by rw [IntKind.wrap_u64]; omega
    obtain ⟨q, hq⟩ : ∃ q : Int, q = 2 * j % 18446744073709551616 := ⟨_, rfl⟩
    have f4 : IntKind.u64.wrap (2 * j) = q := by rw [IntKind.wrap_u64]; omega
    have f5 : IntKind.u64.wrap (q - 1) = (m : Int) := by rw [IntKind.wrap_u64]; omega
    clear hm hm2 h1 h2 hz hk hj hq
    go_enter Try.func84, Try.ntmps84
    go_wp2_with fail
    refine (HC _).out.mono ?_
    rintro e w' ⟨rfl, hb⟩
    have HB := Bx.mk hb; clear hb
    go_wp2
    go_ret
    exact ⟨rfl, HB.out⟩
theorem fFlag_any (b : Bool) (w : World) : Calls Try.prog 83 #[.bool b] w fun e w' => e = .returned (.string (strOf (flagB b))) ∧ w' = w := by
  cases b with
  | true =>
    go_enter Try.func83, Try.ntmps83
    go_wp2
    go_ret
    exact ⟨rfl, rfl⟩
  | false =>
    go_enter Try.func83, Try.ntmps83
    go_wp2
    go_ret
    exact ⟨rfl, rfl⟩
theorem fText_any (bs : List UInt8) (hl : bs.length ≤ 100000000) (w : World) : Calls Try.prog 85 #[.string (strOf bs)] w fun e w' => e = .returned (.string (strOf (textB bs))) ∧ Below w.heap.size w w' := by
  have hs := strOf_size bs
  have HC := fun w => Bx.mk (fUint_any bs.length (by omega) w)
  have hu : uintB (bs.length : Int) = grp bs.length := by unfold uintB; rw [if_neg (by omega)]; rfl
  rw [hu] at HC
  have hap := fun W => add_str (P := Try.prog) W (grp bs.length) bs (by have := grp_len64 (u := bs.length) (by omega); omega)
  clear hu hl
  go_enter Try.func85, Try.ntmps85
  go_wp2_with fail
  refine (HC _).out.mono ?_
  rintro e w' ⟨rfl, hb⟩
  have HB := Bx.mk hb; clear hb
  go_wp2
  go_ret
  exact ⟨rfl, HB.out⟩
end Go.Proofs.Ytjjmhmbmjpedkaa
end
section
/- Numbers read from bytes: the plain law. No program in sight. -/
namespace Go.Proofs.Ytjjmhmbmjpedkaa
open Go.RowKit
/-- The next number: it, how many bytes it has, and what is wrong (3: it ends too soon; 2: not in form). -/
def tk (most : Nat) : Nat → Nat → List UInt8 → Nat × Nat × Int
  | _, _, [] => (0, 0, 3)
  | i, u, x :: r => if i = most ∨ (x.toNat = 0 ∧ 0 < i) ∨ (i = 9 ∧ 1 < x.toNat) then (0, 0, 2) else
    if 128 ≤ x.toNat then tk most (i + 1) (u + x.toNat % 128 * 128 ^ i) r else (u + x.toNat % 128 * 128 ^ i, i + 1, 0)
theorem tk_nil (most i u : Nat) : tk most i u [] = (0, 0, 3) := rfl
theorem tk_bad {most i u : Nat} {x : UInt8} {r : List UInt8} (h : i = most ∨ (x.toNat = 0 ∧ 0 < i) ∨ (i = 9 ∧ 1 < x.toNat)) : tk most i u (x :: r) = (0, 0, 2) := by unfold tk; rw [if_pos h]
theorem tk_more {most i u : Nat} {x : UInt8} {r : List UInt8} (h : ¬ (i = most ∨ (x.toNat = 0 ∧ 0 < i) ∨ (i = 9 ∧ 1 < x.toNat))) (h2 : 128 ≤ x.toNat) : tk most i u (x :: r) = tk most (i + 1) (u + x.toNat % 128 * 128 ^ i) r := by
  rw [tk, if_neg h, if_pos h2]
theorem tk_last {most i u : Nat} {x : UInt8} {r : List UInt8} (h : ¬ (i = most ∨ (x.toNat = 0 ∧ 0 < i) ∨ (i = 9 ∧ 1 < x.toNat))) (h2 : ¬ 128 ≤ x.toNat) : tk most i u (x :: r) = (u + x.toNat % 128 * 128 ^ i, i + 1, 0) := by
  rw [tk, if_neg h, if_neg h2]
theorem u8_eq {x : UInt8} {n : Nat} (h : x.toNat = n) (hn : n < 256) : UInt8.ofNat n = x := by
  subst h; simp
/-- What is read has just its bytes. -/
theorem tk_enc (most : Nat) : ∀ (bs : List UInt8) (i a u n : Nat), tk most i a bs = (u, n, 0) → ∃ v, u = a + v * 128 ^ i ∧ (0 < i → v ≠ 0) ∧ i < n ∧ n ≤ i + bs.length ∧ bs.take (n - i) = grp v := by
  intro bs
  induction bs with
  | nil => intro i a u n h; rw [tk_nil] at h; injection h with _ h; injection h with _ h; cases h
  | cons x r ih =>
    intro i a u n h
    by_cases hb : i = most ∨ (x.toNat = 0 ∧ 0 < i) ∨ (i = 9 ∧ 1 < x.toNat)
    · rw [tk_bad hb] at h; injection h with _ h; injection h with _ h; cases h
    · by_cases h2 : 128 ≤ x.toNat
      · rw [tk_more hb h2] at h
        obtain ⟨v, h3, h4, h5, h6, h7⟩ := ih _ _ _ _ h
        have hx := x.toNat_lt
        have hv := h4 (by omega)
        refine ⟨x.toNat % 128 + 128 * v, ?_, fun _ => by omega, by omega, by simp; omega, ?_⟩
        · rw [h3, Nat.pow_succ, Nat.add_mul, Nat.add_assoc, Nat.mul_comm (128 ^ i) 128, ← Nat.mul_assoc, Nat.mul_comm v 128]
        · rw [grp_ge (by omega), show n - i = (n - (i + 1)) + 1 by omega, List.take_succ_cons, h7]
          congr 1
          · exact (u8_eq (n := (x.toNat % 128 + 128 * v) % 128 + 128) (by omega) (by omega)).symm
          · congr 1; omega
      · rw [tk_last hb h2] at h
        injection h with h3 h
        injection h with h4 _
        have hx := x.toNat_lt
        refine ⟨x.toNat, by rw [← h3, Nat.mod_eq_of_lt (by omega)], fun h => by omega, by omega, by simp; omega, ?_⟩
        rw [grp_lt (by omega), show n - i = 1 by omega]
        simp
theorem tk_enc0 {most u n : Nat} {bs : List UInt8} (h : tk most 0 0 bs = (u, n, 0)) : 0 < n ∧ n ≤ bs.length ∧ bs.take n = grp u := by
  obtain ⟨v, h1, _, h3, h4, h5⟩ := tk_enc most bs 0 0 u n h
  simp at h1 h4 h5
  subst h1
  exact ⟨h3, h4, h5⟩
/-- What is written is read again. -/
theorem tk_dec (most : Nat) (rest : List UInt8) : ∀ (m v i a : Nat), v ≤ m → v * 128 ^ i < 18446744073709551616 → i ≤ 9 → i + (grp v).length ≤ most → (0 < i → v ≠ 0) →
    tk most i a (grp v ++ rest) = (a + v * 128 ^ i, i + (grp v).length, 0) := by
  intro m
  induction m with
  | zero =>
    intro v i a hv hb hi hm h0
    obtain rfl : v = 0 := by omega
    have hi0 : i = 0 := by
      rcases Nat.eq_zero_or_pos i with h | h
      · exact h
      · exact absurd rfl (h0 h)
    subst hi0
    rw [grp_lt (by omega)] at hm ⊢
    simp at hm
    show tk most 0 a (UInt8.ofNat 0 :: rest) = _
    rw [tk_last (by simp; omega) (by simp)]
    simp
  | succ m ih =>
    intro v i a hv hb hi hm h0
    have h9 : i = 9 → v ≤ 1 := by
      intro h; subst h; omega
    by_cases hlt : v < 128
    · rw [grp_lt hlt] at hm ⊢
      simp at hm
      show tk most i a (UInt8.ofNat v :: rest) = _
      have hx : (UInt8.ofNat v).toNat = v := by show v % 256 = v; omega
      rw [tk_last (by rw [hx]; omega) (by rw [hx]; omega), hx, Nat.mod_eq_of_lt hlt]
      rfl
    · rw [grp_ge (by omega)] at hm ⊢
      rw [List.length_cons] at hm ⊢
      show tk most i a (UInt8.ofNat (v % 128 + 128) :: (grp (v / 128) ++ rest)) = _
      have hx : (UInt8.ofNat (v % 128 + 128)).toNat = v % 128 + 128 := by show (v % 128 + 128) % 256 = _; omega
      have hp := grp_pos (v / 128)
      have hdiv : v / 128 * 128 ^ (i + 1) ≤ v * 128 ^ i := by
        rw [Nat.pow_succ, Nat.mul_comm (128 ^ i) 128, ← Nat.mul_assoc]
        exact Nat.mul_le_mul_right _ (by omega)
      rw [tk_more (by rw [hx]; omega) (by rw [hx]; omega), hx, ih (v / 128) (i + 1) _ (by omega) (by omega) (by omega) (by omega) (by omega)]
      have e : v = 128 * (v / 128) + v % 128 := by omega
      refine Prod.ext ?_ (Prod.ext (by simp; omega) rfl)
      show a + (v % 128 + 128) % 128 * 128 ^ i + v / 128 * 128 ^ (i + 1) = a + v * 128 ^ i
      rw [show (v % 128 + 128) % 128 = v % 128 by omega]
      conv => rhs; rw [e]
      rw [Nat.pow_succ, Nat.add_mul, Nat.mul_comm (128 ^ i) 128, ← Nat.mul_assoc, Nat.mul_comm (v / 128) 128]
      omega
theorem tk_dec0 {most v : Nat} (rest : List UInt8) (hv : v < 18446744073709551616) (hm : (grp v).length ≤ most) : tk most 0 0 (grp v ++ rest) = (v, (grp v).length, 0) := by
  have := tk_dec most rest v v 0 0 (Nat.le_refl _) (by simpa using hv) (by omega) (by omega) (by omega)
  simpa using this
/-- A number without a sign as an int: zigzag, back. -/
def zag (u : Nat) : Int := if u % 2 = 1 then -((u / 2 : Nat) : Int) - 1 else ((u / 2 : Nat) : Int)
theorem zig_zag (u : Nat) : zig (zag u) = u := by unfold zig zag; split <;> (split <;> omega)
theorem zag_zig (z : Int) : zag (zig z) = z := by unfold zag zig; split <;> (split <;> omega)
theorem zag_range {u : Nat} (h : u < 18446744073709551616) : -9223372036854775808 ≤ zag u ∧ zag u ≤ 9223372036854775807 := by unfold zag; split <;> omega
end Go.Proofs.Ytjjmhmbmjpedkaa
end
section
/- The reader of the codec, walked. -/
namespace Go.Proofs.Ytjjmhmbmjpedkaa
open Go.RowKit
/-- A reader. -/
structure RdAt (w : World) (L : List Nat) (g : Nat) (bs : List UInt8) (e : Int) : Prop where
  ex : ∃ a c, Bk w g #[.slice a bs.length c, .int .i64 e] 120 ∧ In w L a bs ∧ bs.length ≤ c
  mem : g ∈ L
  under : Under L w.heap.size
theorem RdAt.keep {w w' : World} {L : List Nat} {g : Nat} {bs : List UInt8} {e : Int} (h : RdAt w L g bs e) (hk : ∀ k ∈ L, w'.heap[k]? = w.heap[k]?) (hs : w.heap.size ≤ w'.heap.size) : RdAt w' L g bs e := by
  obtain ⟨⟨a, c, h1, h2, h3⟩, h4, h5⟩ := h
  exact ⟨⟨a, c, h1.keep (hk g h4), h2.keep hk, h3⟩, h4, h5.mono hs⟩
theorem RdAt.fr {w w' : World} {L M : List Nat} {g : Nat} {bs : List UInt8} {e : Int} (h : RdAt w L g bs e) (hf : Fr M w w') (ha : Apart L M) : RdAt w' L g bs e := h.keep (hf.keep ha h.under) hf.size
theorem RdAt.below {w w' : World} {L : List Nat} {g : Nat} {bs : List UInt8} {e : Int} (h : RdAt w L g bs e) (hb : Below w.heap.size w w') : RdAt w' L g bs e := h.keep (fun k hk => hb.block k (h.under k hk)) hb.size
/-- The bytes are not in the reader's own block. -/
theorem in_other {w : World} {L : List Nat} {a : Option Addr} {bs : List UInt8} {g i : Nat} {cs : Array Value} {v : Value} (hb : Bk w g cs 120) (h : In w L a bs) : In (w.setCell ⟨g, i, none⟩ v) L a bs ∨ ∃ (j : Nat) (x : UInt8), cs[j]? = some (bV x) := by
  rcases h.1 with h1 | ⟨b, off, rfl, h1⟩
  · left; exact ⟨.inl h1, h.2⟩
  · by_cases hg : b = g
    · subst hg
      cases bs with
      | nil => left; exact ⟨.inl rfl, h.2⟩
      | cons x r =>
        right
        have := h1 0 (bV x) rfl
        rw [hb.cell] at this
        exact ⟨_, _, this⟩
    · left
      refine ⟨.inr ⟨b, off, rfl, fun j u hj => ?_⟩, h.2⟩
      rw [← h1 j u hj]
      exact World.cell?_of_block (a := ⟨b, off + j, none⟩) (Below.heap_setCell _ _ _ _ hg)
theorem in_set {w : World} {L : List Nat} {a a0 : Option Addr} {bs : List UInt8} {n0 c0 g i : Nat} {e : Int} {v : Value} (hb : Bk w g #[.slice a0 n0 c0, .int .i64 e] 120) (h : In w L a bs) : In (w.setCell ⟨g, i, none⟩ v) L a bs := by
  rcases in_other (i := i) (v := v) hb h with h | ⟨j, x, hj⟩
  · exact h
  · match j with
    | 0 => cases hj
    | 1 => cases hj
    | j + 2 => simp at hj
theorem RdAt.setErr {w : World} {L : List Nat} {g : Nat} {bs : List UInt8} {e : Int} (h : RdAt w L g bs e) (e' : Int) : RdAt (w.setCell ⟨g, 1, none⟩ (.int .i64 e')) L g bs e' := by
  obtain ⟨⟨a, c, h1, h2, h3⟩, h4, h5⟩ := h
  exact ⟨⟨a, c, h1.setCell 1 (.int .i64 e'), in_set h1 h2, h3⟩, h4, by simpa [Under] using h5⟩
theorem RdAt.setBytes {w : World} {L : List Nat} {g : Nat} {bs bs2 : List UInt8} {e : Int} (h : RdAt w L g bs e) {a2 : Option Addr} {c2 : Nat} (h2 : In w L a2 bs2) (hc : bs2.length ≤ c2) : RdAt (w.setCell ⟨g, 0, none⟩ (.slice a2 bs2.length c2)) L g bs2 e := by
  obtain ⟨⟨a, c, h1, _, h3⟩, h4, h5⟩ := h
  exact ⟨⟨a2, c2, h1.setCell 0 (.slice a2 bs2.length c2), in_set h1 h2, hc⟩, h4, by simpa [Under] using h5⟩
/-- 'b[n:]'. -/
theorem slice_from {w : World} {L : List Nat} {a : Option Addr} {bs : List UInt8} {c n : Nat} (hn : n ≤ bs.length) (hc : bs.length ≤ c) (h : In w L a bs) :
    ∃ a' c', (∀ W : World, (Instr.slice 30 (.slice a bs.length c) (some (.int .i64 (n : Int))) none none).run Try.prog W = .ok (.slice a' (bs.drop n).length c') W) ∧ In w L a' (bs.drop n) ∧ (bs.drop n).length ≤ c' := by
  have hsz : ∀ W : World, (sizeOf 5).run Try.prog W = .ok 1 W := fun W => by kernel_rfl
  refine ⟨if c = n then a else a.map (·.add (n * 1)), c - n, fun W => ?_, ?_, by simp; omega⟩
  · have h1 : (0 : Int) ≤ (n : Int) ∧ (n : Int) ≤ (bs.length : Int) := by omega
    have h2 : ¬ bs.length < n := by omega
    simp [Instr.slice, run_underlying Try.underlying30, Instr.sliceBounds, Instr.sliceBound, asIntOf, h1, h2, hsz]
  · by_cases hcn : c = n
    · rw [if_pos hcn]
      have : bs.drop n = [] := List.drop_eq_nil_of_le (by omega)
      rw [this]
      exact ⟨.inl rfl, fun _ _ h => absurd rfl h⟩
    · rw [if_neg hcn]
      rcases h.1 with h1 | ⟨b, off, rfl, h1⟩
      · have h2 : bs = [] := by simpa using h1
        subst h2
        exact ⟨.inl (by simp), fun _ _ h => absurd (by simp) h⟩
      · refine ⟨?_, fun ad had hne => ?_⟩
        · have := RowAt.drop (w := w) (b := b) (off := off) (vs := bs.map bV) (.inr ⟨b, off, rfl, h1⟩) n
          rw [List.map_drop] 
          simpa [Addr.add_lit] using this
        · simp [Addr.add_lit] at had
          subst had
          exact h.2 ⟨b, off, none⟩ rfl (fun h0 => hne (by rw [h0]; simp))
set_option maxRecDepth 100000 in
set_option maxHeartbeats 2000000 in
theorem cRead_any (a : Option Addr) (c : Nat) (bs : List UInt8) (w : World) (h : RowAt w a (bs.map bV)) (hl : bs.length ≤ 100000000) :
    Calls Try.prog 41 #[.slice a bs.length c] w fun e w' => ∃ g L, e = .returned (.pointer (some ⟨g, 0, none⟩)) ∧ RdAt w' L g bs 0 ∧ From w.heap.size L ∧ Below w.heap.size w w' := by
  have HC := Bx.mk (bClone_any a c bs w h hl)
  clear h hl
  go_enter Try.func41, Try.ntmps41
  go_wp2_with fail
  refine HC.out.mono ?_
  rintro e w1 ⟨v, rfl, ho, hb⟩
  obtain ⟨a1, c1, rfl⟩ := ho.isSlice
  have HO := Bx.mk ho; have HB := Bx.mk hb
  clear ho hb
  go_wp2
  go_ret
  refine ⟨w1.heap.size, w1.heap.size :: (Value.ownBlock (.slice a1 bs.length c1)).toList, rfl, ⟨⟨a1, c1, Bk.new rfl, ?_, HO.out.cap.1⟩, by simp, ?_⟩, ?_, HB.out.alloc HB.out.size _⟩
  · have h1 := In.ofOwn (HO.out.alloc (.cells #[.slice a1 bs.length c1, .int .i64 0] 120))
    exact ⟨h1.1, fun ad had hne => by simp only [List.mem_cons]; exact .inr (h1.2 ad had hne)⟩
  · intro k hk
    rcases List.mem_cons.1 hk with rfl | hk
    · simp
    · have := (HO.out.lt k (by simpa using hk)).2; simp; omega
  · intro k hk
    rcases List.mem_cons.1 hk with rfl | hk
    · exact HB.out.size
    · exact (HO.out.lt k (by simpa using hk)).1
theorem rdead0 {w : World} {L : List Nat} {g : Nat} {bs : List UInt8} (h : RdAt w L g bs 0) : Calls Try.prog 69 #[.pointer (some ⟨g, 0, none⟩)] w fun e w' => e = .returned (.bool false) ∧ w' = w := by
  obtain ⟨⟨a, c, h1, _, _⟩, _, _⟩ := h
  have c1 : w.cell? ⟨g, 1, none⟩ = some (.int .i64 0) := by rw [h1.cell]; rfl
  clear h1
  go_enter Try.func69, Try.ntmps69
  go_wp2
  go_ret
  exact ⟨rfl, rfl⟩
theorem rdead1 {w : World} {L : List Nat} {g : Nat} {bs : List UInt8} {e : Int} (h : RdAt w L g bs e) (he : e ≠ 0) : Calls Try.prog 69 #[.pointer (some ⟨g, 0, none⟩)] w fun r w' => r = .returned (.bool true) ∧ w' = w := by
  obtain ⟨⟨a, c, h1, _, _⟩, _, _⟩ := h
  have c1 : w.cell? ⟨g, 1, none⟩ = some (.int .i64 e) := by rw [h1.cell]; rfl
  have he2 : (e != 0) = true := by simpa using he
  clear h1 he
  go_enter Try.func69, Try.ntmps69
  go_wp2
  go_ret
  exact ⟨rfl, rfl⟩
theorem and127B : ((List.range 256).all fun x => bits BinOp.andNot IntKind.u8 (x : Int) 128 == ((x % 128 : Nat) : Int)) = true := by kernel_rfl
theorem and127 (x : UInt8) : bits BinOp.andNot IntKind.u8 (x.toNat : Int) 128 = ((x.toNat % 128 : Nat) : Int) :=
  eq_of_beq (List.all_eq_true.1 and127B x.toNat (List.mem_range.2 x.toNat_lt))
theorem or_next {u y i : Nat} (hu : u < 128 ^ i) (hs : u + y * 128 ^ i < 18446744073709551616) : bits BinOp.or IntKind.u64 (u : Int) ((y * 128 ^ i : Nat) : Int) = ((u + y * 128 ^ i : Nat) : Int) := by
  have hy : y * 128 ^ i < 18446744073709551616 := by omega
  have e : (128 : Nat) ^ i = 2 ^ (7 * i) := by rw [Nat.pow_mul]
  rw [u64_or_nat _ _ (by omega) hy, Nat.or_comm, nat_join (7 * i) _ _ (by rw [e]; exact Nat.mul_mod_left _ _) (by rw [← e]; exact hu), Nat.add_comm]
set_option maxRecDepth 100000 in
set_option maxHeartbeats 4000000 in
theorem rtake_any (g : Nat) (most : Nat) (hm0 : 0 < most) (hm : most ≤ 10) (bs : List UInt8) (L : List Nat) (w : World) (h : RdAt w L g bs 0) (hl : bs.length ≤ 100000000) (u0 n0 : Nat) (e0 : Int) (hr : tk most 0 0 bs = (u0, n0, e0)) :
    Calls Try.prog 70 #[.pointer (some ⟨g, 0, none⟩), .int .i64 most] w fun e w' => (e0 = 0 ∧ e = .returned (.tuple #[.int .u64 u0, .int .i64 n0]) ∧ w' = w) ∨ (e0 ≠ 0 ∧ e = .returned (.tuple #[.int .u64 0, .int .i64 0]) ∧ w' = w.setCell ⟨g, 1, none⟩ (.int .i64 e0)) := by
  obtain ⟨⟨a, c, h1, h2, h3⟩, h4, h5⟩ := h
  have HI := Bx.mk h2; have HR := Bx.mk hr; have HM := Bx.mk hm; have HL := Bx.mk hl
  have c0 : w.cell? ⟨g, 0, none⟩ = some (.slice a bs.length c) := by rw [h1.cell]; rfl
  have c1 : w.cell? ⟨g, 1, none⟩ = some (.int .i64 0) := by rw [h1.cell]; rfl
  have c2 : w.frozen? ⟨g, 1, none⟩ = false := h1.frozen 1
  have M0 := Bx.mk hm0
  have hmb : ((0 : Int) == (most : Int)) = false := by simp; omega
  clear h1 h2 h3 h4 h5 hr hm hl hm0
  go_enter Try.func70, Try.ntmps70
  go_wp2
  refine wp_scope_jumps 0 (fun a' w' => w' = w ∧ ∃ (i u : Nat) (x8 x9 x10 x11 x12 x13 x14 x15 x16 x17 x18 x19 x20 x21 x22 x23 x24 x25 x26 x27 x28 x29 x30 x31 x32 x33 x34 x35 x36 x37 x38 x39 x40 x41 x42 x43 x44 x45 x46 x47 x48 x49 x50 x51 x52 x53 x54 x55 x56 x57 x58 x59 x60 x61 : Value), a' = { tmps := #[.pointer (some ⟨g, 0, none⟩), .int .i64 most, undef, undef, .int .u64 0, .int .i64 0, .int .u64 u, .int .i64 i, x8, x9, x10, x11, x12, x13, x14, x15, x16, x17, x18, x19, x20, x21, x22, x23, x24, x25, x26, x27, x28, x29, x30, x31, x32, x33, x34, x35, x36, x37, x38, x39, x40, x41, x42, x43, x44, x45, x46, x47, x48, x49, x50, x51, x52, x53, x54, x55, x56, x57, x58, x59, x60, x61], defers := [] } ∧ Bx (tk most i u (bs.drop i) = (u0, n0, e0) ∧ u < 128 ^ i ∧ i ≤ 9 ∧ i ≤ bs.length)) (fun a' _ => 10 - (intOf (a'.tmps.getD 7 undef)).toNat) rfl ?first ?pass
  case first =>
    go_wp2
    go_step3
    by_cases hb0 : bs.length = 0
    · have h0 : bs = [] := List.eq_nil_of_length_eq_zero hb0
      have HE := Bx.mk (show ((0, 0, 3) : Nat × Nat × Int) = (u0, n0, e0) by rw [← HR.out, h0]; rfl)
      have hl0 : ((0 : Int) == (bs.length : Int)) = true := by rw [hb0]; rfl
      clear HR HI h0 hb0
      go_wp2
      dsimp only [Exit.jump]
      go_ret2
      have h := HE.out
      injection h with h1 h2
      injection h2 with h2 h3
      subst h1; subst h2; subst h3
      exact .inr ⟨by decide, rfl, rfl⟩
    · obtain ⟨b, off, rfl, hc⟩ := RowAt.byte HI.out.1 (k := 0) (by omega)
      rw [Nat.add_zero] at hc
      have hd : bs = bs[0] :: bs.drop 1 := by rw [← List.drop_eq_getElem_cons (by omega)]; rfl
      have HD := Bx.mk hd
      have hn0 : ((0 : Int) == (bs.length : Int)) = false := by simp; omega
      have l0 : (0 : Int) < (bs.length : Int) := by omega
      have hx : bs[0].toNat < 256 := bs[0].toNat_lt
      obtain ⟨y, hy⟩ : ∃ y, y = bs[0].toNat % 128 := ⟨_, rfl⟩
      have ha := and127 bs[0]
      rw [← hy] at ha
      have hor : bits BinOp.or IntKind.u64 0 (y : Int) = (y : Int) := by
        have := u64_or_nat 0 y (by omega) (by omega)
        simpa using this
      have hyw : IntKind.u64.wrap (y : Int) = (y : Int) := by rw [IntKind.wrap_u64]; omega
      generalize bs[0] = x at *
      clear hd
      have HX := Bx.mk hx; have HY := Bx.mk hy; have HY2 := Bx.mk (show y < 128 by omega)
      by_cases h2 : (128 : Int) ≤ (x.toNat : Int)
      · have ht : tk most 1 y (bs.drop 1) = (u0, n0, e0) := by
          have h := HR.out
          rw [HD.out, tk_more (by have := M0.out; omega) (by omega), ← hy] at h
          simpa using h
        have HT := Bx.mk ht
        have HL1 := Bx.mk (show 1 ≤ bs.length by omega)
        have hxb : ((x.toNat : Int) == 0) = false := by simp; omega
        clear ht HR hy hx
        go_wp2
        go_step3
        refine ⟨rfl, rfl, ?_⟩
        refine ⟨1, y, ?_⟩
        repeat apply Exists.intro
        exact ⟨rfl, ⟨HT.out, by have := HY2.out; simpa using this, by omega, HL1.out⟩⟩
      · have ht : (y, 1, (0 : Int)) = (u0, n0, e0) := by
          have h := HR.out
          rw [HD.out, tk_last (by have := M0.out; omega) (by omega), ← hy] at h
          simpa using h
        injection ht with h1 h3
        injection h3 with h3 h4
        subst h1; subst h3; subst h4
        by_cases hx0 : x.toNat = 0
        · have hy0 : y = 0 := by omega
          subst hy0
          rw [hx0] at hc ha
          have ha0 : bits BinOp.andNot IntKind.u8 0 128 = 0 := ha
          have hor0 : bits BinOp.or IntKind.u64 0 0 = 0 := hor
          clear HR hy hx ha hor h2 hx0
          go_wp2
          dsimp only [Exit.jump]
          go_ret2
          exact .inl ⟨rfl, rfl, rfl⟩
        · have hxb : ((x.toNat : Int) == 0) = false := by simpa using hx0
          clear HR hy hx hx0
          go_wp2
          dsimp only [Exit.jump]
          go_ret2
          exact .inl ⟨rfl, rfl, rfl⟩
  case pass =>
    rintro a' w' ⟨hw, i, u, hx⟩
    subst hw
    obtain ⟨x8, hx⟩ := hx
    obtain ⟨x9, hx⟩ := hx
    obtain ⟨x10, hx⟩ := hx
    obtain ⟨x11, hx⟩ := hx
    obtain ⟨x12, hx⟩ := hx
    obtain ⟨x13, hx⟩ := hx
    obtain ⟨x14, hx⟩ := hx
    obtain ⟨x15, hx⟩ := hx
    obtain ⟨x16, hx⟩ := hx
    obtain ⟨x17, hx⟩ := hx
    obtain ⟨x18, hx⟩ := hx
    obtain ⟨x19, hx⟩ := hx
    obtain ⟨x20, hx⟩ := hx
    obtain ⟨x21, hx⟩ := hx
    obtain ⟨x22, hx⟩ := hx
    obtain ⟨x23, hx⟩ := hx
    obtain ⟨x24, hx⟩ := hx
    obtain ⟨x25, hx⟩ := hx
    obtain ⟨x26, hx⟩ := hx
    obtain ⟨x27, hx⟩ := hx
    obtain ⟨x28, hx⟩ := hx
    obtain ⟨x29, hx⟩ := hx
    obtain ⟨x30, hx⟩ := hx
    obtain ⟨x31, hx⟩ := hx
    obtain ⟨x32, hx⟩ := hx
    obtain ⟨x33, hx⟩ := hx
    obtain ⟨x34, hx⟩ := hx
    obtain ⟨x35, hx⟩ := hx
    obtain ⟨x36, hx⟩ := hx
    obtain ⟨x37, hx⟩ := hx
    obtain ⟨x38, hx⟩ := hx
    obtain ⟨x39, hx⟩ := hx
    obtain ⟨x40, hx⟩ := hx
    obtain ⟨x41, hx⟩ := hx
    obtain ⟨x42, hx⟩ := hx
    obtain ⟨x43, hx⟩ := hx
    obtain ⟨x44, hx⟩ := hx
    obtain ⟨x45, hx⟩ := hx
    obtain ⟨x46, hx⟩ := hx
    obtain ⟨x47, hx⟩ := hx
    obtain ⟨x48, hx⟩ := hx
    obtain ⟨x49, hx⟩ := hx
    obtain ⟨x50, hx⟩ := hx
    obtain ⟨x51, hx⟩ := hx
    obtain ⟨x52, hx⟩ := hx
    obtain ⟨x53, hx⟩ := hx
    obtain ⟨x54, hx⟩ := hx
    obtain ⟨x55, hx⟩ := hx
    obtain ⟨x56, hx⟩ := hx
    obtain ⟨x57, hx⟩ := hx
    obtain ⟨x58, hx⟩ := hx
    obtain ⟨x59, hx⟩ := hx
    obtain ⟨x60, hx⟩ := hx
    obtain ⟨x61, hx⟩ := hx
    obtain ⟨ha, hJ⟩ := hx
    subst ha
    obtain ⟨hr, hu, hi9, hil⟩ := hJ.out
    clear hJ HR hmb
    have HR := Bx.mk hr; have HU := Bx.mk hu
    clear hr hu
    by_cases hb0 : i = bs.length
    · have HE := Bx.mk (show ((0, 0, 3) : Nat × Nat × Int) = (u0, n0, e0) by rw [← HR.out, hb0, List.drop_length]; rfl)
      have hl0 : ((i : Int) == (bs.length : Int)) = true := by rw [hb0]; simp
      clear HR HI hb0
      go_wp2
      dsimp only [Exit.jump]
      go_ret2
      have h := HE.out
      injection h with h1 h2
      injection h2 with h2 h3
      subst h1; subst h2; subst h3
      exact .inr ⟨by decide, rfl, rfl⟩
    · have hlt : i < bs.length := by omega
      obtain ⟨b, off, rfl, hc⟩ := RowAt.byte HI.out.1 (k := i) hlt
      have HD := Bx.mk (List.drop_eq_getElem_cons hlt)
      have hn0 : ((i : Int) == (bs.length : Int)) = false := by simp; omega
      have l0 : (i : Int) < (bs.length : Int) := by omega
      have i0 : (0 : Int) ≤ (i : Int) := by omega
      have hx : bs[i].toNat < 256 := bs[i].toNat_lt
      have ha := and127 bs[i]
      generalize bs[i] = x at *
      obtain ⟨z, hz⟩ : ∃ z, z = x.toNat := ⟨_, rfl⟩
      rw [← hz] at hc ha hx
      have HZ := Bx.mk hz
      clear hz
      obtain ⟨bad, hbad⟩ : ∃ bad, bad = decide (i = most ∨ (z = 0 ∧ 0 < i) ∨ (i = 9 ∧ 1 < z)) := ⟨_, rfl⟩
      have HBD := Bx.mk hbad
      go_upto_region 7 with fail
      go_cut [44] (fun t44 wx => t44 = .bool bad ∧ w' = wx)
      case first =>
        clear HR HD HU ha
        by_cases h1 : i = most
        · have h1b : ((i : Int) == (most : Int)) = true := by simp; omega
          rw [decide_eq_true (.inl h1)] at hbad
          clear h1 HBD
          go_wp2
          go_meet
          case rel => exact ⟨by rw [hbad], rfl⟩
        · have h1b : ((i : Int) == (most : Int)) = false := by simp; omega
          by_cases h2 : z = 0
          · subst h2
            by_cases h3 : (0 : Int) < (i : Int)
            · rw [decide_eq_true (.inr (.inl ⟨rfl, by omega⟩))] at hbad
              clear h1 HBD
              go_wp2
              go_meet
              case rel => exact ⟨by rw [hbad], rfl⟩
            · rw [decide_eq_false (by omega)] at hbad
              obtain rfl : i = 0 := by omega
              clear h1 HBD h3 h1b
              have h1c : ((0 : Int) == (most : Int)) = false := by have := M0.out; simp; omega
              go_wp2
              go_meet
              case rel => exact ⟨by rw [hbad], rfl⟩
          · have h2b : ((z : Int) == 0) = false := by simp; omega
            by_cases h4 : i = 9
            · have h4b : ((i : Int) == 9) = true := by simp; omega
              by_cases h5 : (1 : Int) < (z : Int)
              · rw [decide_eq_true (.inr (.inr ⟨h4, by omega⟩))] at hbad
                clear h1 HBD h2 h4
                go_wp2
                go_meet
                case rel => exact ⟨by rw [hbad], rfl⟩
              · rw [decide_eq_false (by omega)] at hbad
                clear h1 HBD h2 h4
                go_wp2
                go_meet
                case rel => exact ⟨by rw [hbad], rfl⟩
            · have h4b : ((i : Int) == 9) = false := by simp; omega
              rw [decide_eq_false (by omega)] at hbad
              clear h1 HBD h2 h4
              go_wp2
              go_meet
              case rel => exact ⟨by rw [hbad], rfl⟩
      case rest =>
        obtain ⟨rfl, rfl⟩ := hcut
        clear hbad
        cases bad with
        | true =>
          have hb := of_decide_eq_true HBD.out.symm
          have hE : ((0, 0, 2) : Nat × Nat × Int) = (u0, n0, e0) := by rw [← HR.out, HD.out, tk_bad (by rw [← HZ.out]; exact hb)]
          injection hE with h1 h2
          injection h2 with h2 h3
          subst h1; subst h2; subst h3
          clear HR HD HU HI hb ha
          go_wp2
          dsimp only [Exit.jump]
          go_ret2
          exact .inr ⟨by decide, rfl, rfl⟩
        | false =>
          have hb := of_decide_eq_false HBD.out.symm
          obtain ⟨y, hy⟩ : ∃ y, y = z % 128 := ⟨_, rfl⟩
          rw [← hy] at ha
          obtain ⟨p, hp⟩ : ∃ p, p = y * 128 ^ i := ⟨_, rfl⟩
          have hpow : 128 ^ i ≤ 128 ^ 9 := Nat.pow_le_pow_right (by omega) hi9
          have hpb : u + p < 18446744073709551616 := by
            by_cases h9 : i = 9
            · subst h9
              have h1 : y ≤ 1 := by omega
              have h2 : y * 128 ^ 9 ≤ 1 * 128 ^ 9 := Nat.mul_le_mul_right _ h1
              have := HU.out
              omega
            · have h3 : 128 ^ i ≤ 128 ^ 8 := Nat.pow_le_pow_right (by omega) (by omega)
              have h2 : y * 128 ^ i ≤ 127 * 128 ^ i := Nat.mul_le_mul_right _ (by omega)
              have := HU.out
              omega
          have hpi : IntKind.u64.wrap (IntKind.u64.wrap (y : Int) * 2 ^ (7 * i)) = (p : Int) := by
            have e : ((y : Int) * 2 ^ (7 * i)) = (p : Int) := by
              have e2 : ((2 : Int) ^ (7 * i)) = ((128 ^ i : Nat) : Int) := by
                rw [show (128 : Nat) = 2 ^ 7 from rfl, ← Nat.pow_mul]; exact (Int.natCast_pow 2 (7 * i)).symm
              rw [hp, e2, ← Int.natCast_mul]
            rw [show IntKind.u64.wrap (y : Int) = (y : Int) by rw [IntKind.wrap_u64]; omega, e, IntKind.wrap_u64]; omega
          have hor : bits BinOp.or IntKind.u64 (u : Int) (p : Int) = ((u + p : Nat) : Int) := by
            rw [hp]; exact or_next HU.out (by rw [← hp]; exact hpb)
          obtain ⟨q, hq⟩ : ∃ q, q = u + p := ⟨_, rfl⟩
          rw [← hq] at hor
          have HB2 := Bx.mk hb; have HY := Bx.mk hy; have HP := Bx.mk hp; have HQ := Bx.mk hq
          have s0 : (0 : Int) ≤ 7 * (i : Int) := by omega
          clear hb hy hp hq hpow hpb
          by_cases hmore : (128 : Int) ≤ (z : Int)
          · have hne9 : i ≠ 9 := fun h => by have := HB2.out; omega
            have ht : tk most (i + 1) q (bs.drop (i + 1)) = (u0, n0, e0) := by
              have h := HR.out
              rw [HD.out, tk_more (by rw [← HZ.out]; exact HB2.out) (by rw [← HZ.out]; omega), ← HZ.out, ← HY.out, ← HP.out, ← HQ.out] at h
              exact h
            have hq2 : q < 128 ^ (i + 1) := by
              have h2 : y * 128 ^ i ≤ 127 * 128 ^ i := Nat.mul_le_mul_right _ (by have := HY.out; omega)
              have h3 := HU.out
              rw [HQ.out, HP.out, Nat.pow_succ]; omega
            have HT := Bx.mk ht; have HQ2 := Bx.mk hq2
            clear ht hq2
            go_wp2
            go_step3
            rw [show ((i : Int) + 1) = ((i + 1 : Nat) : Int) by omega]
            refine ⟨rfl, ⟨rfl, ?_⟩, by simp [intOf]; omega⟩
            refine ⟨i + 1, q, ?_⟩
            repeat apply Exists.intro
            exact ⟨rfl, ⟨HT.out, HQ2.out, by omega, by omega⟩⟩
          · have ht : (q, i + 1, (0 : Int)) = (u0, n0, e0) := by
              have h := HR.out
              rw [HD.out, tk_last (by rw [← HZ.out]; exact HB2.out) (by rw [← HZ.out]; omega), ← HZ.out, ← HY.out, ← HP.out, ← HQ.out] at h
              exact h
            injection ht with h1 h3
            injection h3 with h3 h4
            subst h1; subst h3; subst h4
            go_wp2
            dsimp only [Exit.jump]
            go_ret2
            exact .inl ⟨rfl, rfl, rfl⟩
end Go.Proofs.Ytjjmhmbmjpedkaa
end
section
/- The reader's methods, walked. -/
namespace Go.Proofs.Ytjjmhmbmjpedkaa
open Go.RowKit
theorem grp_bound (n : Nat) : ∀ u, (grp u).length ≤ n → u < 128 ^ n := by
  induction n with
  | zero => intro u h; have := grp_pos u; omega
  | succ n ih =>
    intro u h
    by_cases h1 : u < 128
    · have : 1 ≤ 128 ^ n := Nat.pow_pos (by omega)
      rw [Nat.pow_succ]; omega
    · rw [grp_ge (by omega), List.length_cons] at h
      have := ih (u / 128) (by omega)
      rw [Nat.pow_succ]; omega
theorem tk_n (most : Nat) : ∀ (bs : List UInt8) (i a u n : Nat), i ≤ most → tk most i a bs = (u, n, 0) → n ≤ most := by
  intro bs
  induction bs with
  | nil => intro i a u n _ h; rw [tk_nil] at h; injection h with _ h; injection h with _ h; cases h
  | cons x r ih =>
    intro i a u n hi h
    by_cases hb : i = most ∨ (x.toNat = 0 ∧ 0 < i) ∨ (i = 9 ∧ 1 < x.toNat)
    · rw [tk_bad hb] at h; injection h with _ h; injection h with _ h; cases h
    · by_cases h2 : 128 ≤ x.toNat
      · rw [tk_more hb h2] at h; exact ih _ _ _ _ (by omega) h
      · rw [tk_last hb h2] at h; injection h with _ h; injection h with h _; omega
theorem tk_lt (most : Nat) : ∀ (bs : List UInt8) (i a u n : Nat), i ≤ 9 → a < 128 ^ i → tk most i a bs = (u, n, 0) → u < 18446744073709551616 := by
  intro bs
  induction bs with
  | nil => intro i a u n _ _ h; rw [tk_nil] at h; injection h with _ h; injection h with _ h; cases h
  | cons x r ih =>
    intro i a u n hi ha h
    by_cases hb : i = most ∨ (x.toNat = 0 ∧ 0 < i) ∨ (i = 9 ∧ 1 < x.toNat)
    · rw [tk_bad hb] at h; injection h with _ h; injection h with _ h; cases h
    · by_cases h2 : 128 ≤ x.toNat
      · rw [tk_more hb h2] at h
        refine ih _ _ _ _ (by omega) ?_ h
        have h3 : x.toNat % 128 * 128 ^ i ≤ 127 * 128 ^ i := Nat.mul_le_mul_right _ (by omega)
        rw [Nat.pow_succ]; omega
      · rw [tk_last hb h2] at h
        injection h with h _
        by_cases h9 : i = 9
        · subst h9
          have h3 : x.toNat % 128 * 128 ^ 9 ≤ 1 * 128 ^ 9 := Nat.mul_le_mul_right _ (by omega)
          omega
        · have h4 : 128 ^ i ≤ 128 ^ 8 := Nat.pow_le_pow_right (by omega) (by omega)
          have h3 : x.toNat % 128 * 128 ^ i ≤ 127 * 128 ^ i := Nat.mul_le_mul_right _ (by omega)
          omega
theorem tk9_lt {bs : List UInt8} {u n : Nat} (h : tk 9 0 0 bs = (u, n, 0)) : u < 9223372036854775808 := by
  have h1 := tk_n 9 bs 0 0 u n (by omega) h
  obtain ⟨_, h2, h3⟩ := tk_enc0 h
  have h4 : (grp u).length ≤ 9 := by rw [← h3, List.length_take]; omega
  exact grp_bound 9 u h4
/-- What a reader answers. -/
def rdUint (most : Int) (bs : List UInt8) (e : Int) : Int × List UInt8 × Int :=
  if e ≠ 0 then (0, bs, e) else
  let r := tk 9 0 0 bs
  if r.2.2 ≠ 0 then (0, bs, r.2.2) else if most < 0 ∨ most < r.1 then (0, bs, 5) else (r.1, bs.drop r.2.1, 0)
def rdInt (bs : List UInt8) (e : Int) : Int × List UInt8 × Int :=
  if e ≠ 0 then (0, bs, e) else
  let r := tk 10 0 0 bs
  if r.2.2 ≠ 0 then (0, bs, r.2.2) else (zag r.1, bs.drop r.2.1, 0)
/-- The reader's block alone is written. -/
def R1 (w : World) (L : List Nat) (g : Nat) (v : Value) (bs : List UInt8) (e : Int) (r : Ending) (w' : World) : Prop :=
  r = .returned v ∧ RdAt w' L g bs e ∧ Fr L w w' ∧ Fr [g] w w'
theorem rtake_ok {g most : Nat} (hm0 : 0 < most) (hm : most ≤ 10) {bs : List UInt8} {L : List Nat} {w : World} (h : RdAt w L g bs 0) (hl : bs.length ≤ 100000000) {u n : Nat} (hr : tk most 0 0 bs = (u, n, 0)) :
    Calls Try.prog 70 #[.pointer (some ⟨g, 0, none⟩), .int .i64 most] w fun e w' => e = .returned (.tuple #[.int .u64 u, .int .i64 n]) ∧ w' = w :=
  (rtake_any g most hm0 hm bs L w h hl u n 0 hr).mono fun e w' h => by
    rcases h with ⟨_, h1, h2⟩ | ⟨h1, _⟩
    · exact ⟨h1, h2⟩
    · exact absurd rfl h1
theorem rtake_err {g most : Nat} (hm0 : 0 < most) (hm : most ≤ 10) {bs : List UInt8} {L : List Nat} {w : World} (h : RdAt w L g bs 0) (hl : bs.length ≤ 100000000) {u n : Nat} {e0 : Int} (he : e0 ≠ 0) (hr : tk most 0 0 bs = (u, n, e0)) :
    Calls Try.prog 70 #[.pointer (some ⟨g, 0, none⟩), .int .i64 most] w fun e w' => e = .returned (.tuple #[.int .u64 0, .int .i64 0]) ∧ w' = w.setCell ⟨g, 1, none⟩ (.int .i64 e0) :=
  (rtake_any g most hm0 hm bs L w h hl u n e0 hr).mono fun e w' h => by
    rcases h with ⟨h1, _⟩ | ⟨_, h1, h2⟩
    · exact absurd h1 he
    · exact ⟨h1, h2⟩
theorem rd_err {w : World} {L : List Nat} {g : Nat} {bs : List UInt8} {e : Int} (h : RdAt w L g bs e) (e' : Int) (v : Value) : R1 w L g v bs e' (.returned v) (w.setCell ⟨g, 1, none⟩ (.int .i64 e')) :=
  ⟨rfl, h.setErr e', (Fr.refl _ _).setCell (p := ⟨g, 1, none⟩) (.inl h.mem) _, (Fr.refl _ _).setCell (p := ⟨g, 1, none⟩) (.inl (by simp)) _⟩
theorem rd_bytes {w : World} {L : List Nat} {g : Nat} {bs bs2 : List UInt8} {e : Int} (h : RdAt w L g bs e) {a2 : Option Addr} {c2 : Nat} (h2 : In w L a2 bs2) (hc : bs2.length ≤ c2) (v : Value) :
    R1 w L g v bs2 e (.returned v) (w.setCell ⟨g, 0, none⟩ (.slice a2 bs2.length c2)) :=
  ⟨rfl, h.setBytes h2 hc, (Fr.refl _ _).setCell (p := ⟨g, 0, none⟩) (.inl h.mem) _, (Fr.refl _ _).setCell (p := ⟨g, 0, none⟩) (.inl (by simp)) _⟩
theorem rd_same {w : World} {L : List Nat} {g : Nat} {bs : List UInt8} {e : Int} (h : RdAt w L g bs e) (v : Value) : R1 w L g v bs e (.returned v) w := ⟨rfl, h, Fr.refl _ _, Fr.refl _ _⟩
set_option maxRecDepth 100000 in
set_option maxHeartbeats 4000000 in
theorem rUint_dead (g : Nat) (most : Int) (bs : List UInt8) (e : Int) (L : List Nat) (w : World) (h : RdAt w L g bs e) (he : e ≠ 0) :
    Calls Try.prog 73 #[.pointer (some ⟨g, 0, none⟩), .int .i64 most] w (R1 w L g (.int .i64 0) bs e) := by
  have HD := Bx.mk (rdead1 h he); have H := Bx.mk h
  clear h he
  go_enter Try.func73, Try.ntmps73
  go_wp2_with fail
  refine HD.out.mono ?_
  rintro r w1 ⟨rfl, rfl⟩
  go_wp2
  go_ret
  exact rd_same H.out _
set_option maxRecDepth 100000 in
set_option maxHeartbeats 4000000 in
theorem rUint_err (g : Nat) (most : Int) (bs : List UInt8) (L : List Nat) (w : World) (h : RdAt w L g bs 0) (hl : bs.length ≤ 100000000) (u n : Nat) (e0 : Int) (he : e0 ≠ 0) (hr : tk 9 0 0 bs = (u, n, e0)) :
    Calls Try.prog 73 #[.pointer (some ⟨g, 0, none⟩), .int .i64 most] w (R1 w L g (.int .i64 0) bs e0) := by
  have HD := Bx.mk (rdead0 h); have H := Bx.mk h
  have HC := Bx.mk (rtake_err (by omega) (by omega) h hl he hr)
  have he2 : (e0 != 0) = true := by simpa using he
  obtain ⟨⟨a, c, k1, _, _⟩, _, _⟩ := h
  have c1 : (w.setCell ⟨g, 1, none⟩ (.int .i64 e0)).cell? ⟨g, 1, none⟩ = some (.int .i64 e0) := by rw [(k1.setCell 1 (.int .i64 e0)).cell]; rfl
  clear k1 hl he hr
  go_enter Try.func73, Try.ntmps73
  go_wp2_with fail
  refine HD.out.mono ?_
  rintro r w1 ⟨rfl, rfl⟩
  go_wp2_with fail
  refine HC.out.mono ?_
  rintro r w2 ⟨rfl, hw⟩
  rw [← hw] at c1
  have HW := Bx.mk hw; clear hw
  go_wp2
  go_ret
  rw [HW.out]
  exact rd_err H.out _ _
set_option maxRecDepth 100000 in
set_option maxHeartbeats 4000000 in
theorem rUint_ok (g : Nat) (most : Int) (hm : most ≤ 9223372036854775807) (hm2 : -9223372036854775808 ≤ most) (bs : List UInt8) (L : List Nat) (w : World) (h : RdAt w L g bs 0) (hl : bs.length ≤ 100000000) (u n : Nat) (hr : tk 9 0 0 bs = (u, n, 0)) :
    Calls Try.prog 73 #[.pointer (some ⟨g, 0, none⟩), .int .i64 most] w fun r w' =>
      (most < 0 ∨ most < u → R1 w L g (.int .i64 0) bs 5 r w') ∧ (¬ (most < 0 ∨ most < u) → R1 w L g (.int .i64 u) (bs.drop n) 0 r w') := by
  have HD := Bx.mk (rdead0 h); have H := Bx.mk h
  have HC := Bx.mk (rtake_ok (by omega) (by omega) h hl hr)
  have hu := tk9_lt hr
  have hn := (tk_enc0 hr).2.1
  obtain ⟨⟨a, c, k1, k2, k3⟩, _, _⟩ := h
  have c0 : w.cell? ⟨g, 0, none⟩ = some (.slice a bs.length c) := by rw [k1.cell]; rfl
  have c1 : w.cell? ⟨g, 1, none⟩ = some (.int .i64 0) := by rw [k1.cell]; rfl
  have d0 : w.frozen? ⟨g, 0, none⟩ = false := k1.frozen 0
  have d1 : w.frozen? ⟨g, 1, none⟩ = false := k1.frozen 1
  obtain ⟨a2, c2, hsl, hI, hc2⟩ := slice_from (n := n) hn k3 k2
  have RB := fun v => Bx.mk (rd_bytes H.out hI hc2 v)
  have RE := fun v => Bx.mk (rd_err H.out 5 v)
  have f1 : wrap64 (u : Int) = (u : Int) := by unfold wrap64; omega
  have HU := Bx.mk (show (0 : Int) ≤ (u : Int) ∧ (u : Int) ≤ 9223372036854775807 by omega)
  have HM := Bx.mk (And.intro hm hm2)
  clear k1 k2 k3 hI hc2 hr hn hl hu hm hm2 H
  generalize (bs.drop n).length = m at *
  generalize (u : Int) = u at *
  by_cases hm0 : most < 0
  · go_enter Try.func73, Try.ntmps73
    go_wp2_with fail
    refine HD.out.mono ?_
    rintro r w1 ⟨rfl, rfl⟩
    go_wp2_with fail
    refine HC.out.mono ?_
    rintro r w2 ⟨rfl, rfl⟩
    go_wp2
    go_ret
    exact ⟨fun _ => (RE _).out, fun h => absurd (.inl hm0) h⟩
  · have f2 : IntKind.u64.wrap most = most := by rw [IntKind.wrap_u64]; have := HM.out; omega
    by_cases hmu : most < u
    · go_enter Try.func73, Try.ntmps73
      go_wp2_with fail
      refine HD.out.mono ?_
      rintro r w1 ⟨rfl, rfl⟩
      go_wp2_with fail
      refine HC.out.mono ?_
      rintro r w2 ⟨rfl, rfl⟩
      go_wp2
      go_ret
      exact ⟨fun _ => (RE _).out, fun h => absurd (.inr hmu) h⟩
    · go_enter Try.func73, Try.ntmps73
      go_wp2_with fail
      refine HD.out.mono ?_
      rintro r w1 ⟨rfl, rfl⟩
      go_wp2_with fail
      refine HC.out.mono ?_
      rintro r w2 ⟨rfl, rfl⟩
      go_wp2
      go_ret
      exact ⟨fun h => by omega, fun _ => by show R1 _ _ _ (.int .i64 u) _ 0 (.returned (.int .i64 (wrap64 u))) _; rw [f1]; exact (RB _).out⟩
theorem rUint_any (g : Nat) (most : Int) (hm : most ≤ 9223372036854775807) (hm2 : -9223372036854775808 ≤ most) (bs : List UInt8) (e : Int) (L : List Nat) (w : World) (h : RdAt w L g bs e) (hl : bs.length ≤ 100000000) :
    Calls Try.prog 73 #[.pointer (some ⟨g, 0, none⟩), .int .i64 most] w (R1 w L g (.int .i64 (rdUint most bs e).1) (rdUint most bs e).2.1 (rdUint most bs e).2.2) := by
  unfold rdUint
  by_cases he : e = 0
  · subst he
    rw [if_neg (by simp)]
    obtain ⟨u, n, e1, hr⟩ : ∃ u n e1, tk 9 0 0 bs = (u, n, e1) := ⟨_, _, _, rfl⟩
    rw [hr]
    dsimp only
    by_cases he1 : e1 = 0
    · subst he1
      rw [if_neg (by simp)]
      have hC := rUint_ok g most hm hm2 bs L w h hl u n hr
      by_cases hc : most < 0 ∨ most < (u : Int)
      · rw [if_pos hc]; exact hC.mono fun r w' h => h.1 hc
      · rw [if_neg hc]; exact hC.mono fun r w' h => h.2 hc
    · rw [if_pos he1]; exact rUint_err g most bs L w h hl u n e1 he1 hr
  · rw [if_pos he]; exact rUint_dead g most bs e L w h he
set_option maxRecDepth 100000 in
set_option maxHeartbeats 4000000 in
theorem rInt_dead (g : Nat) (bs : List UInt8) (e : Int) (L : List Nat) (w : World) (h : RdAt w L g bs e) (he : e ≠ 0) :
    Calls Try.prog 42 #[.pointer (some ⟨g, 0, none⟩)] w (R1 w L g (.int .i64 0) bs e) := by
  have HD := Bx.mk (rdead1 h he); have H := Bx.mk h
  clear h he
  go_enter Try.func42, Try.ntmps42
  go_wp2_with fail
  refine HD.out.mono ?_
  rintro r w1 ⟨rfl, rfl⟩
  go_wp2
  go_ret
  exact rd_same H.out _
set_option maxRecDepth 100000 in
set_option maxHeartbeats 4000000 in
theorem rInt_err (g : Nat) (bs : List UInt8) (L : List Nat) (w : World) (h : RdAt w L g bs 0) (hl : bs.length ≤ 100000000) (u n : Nat) (e0 : Int) (he : e0 ≠ 0) (hr : tk 10 0 0 bs = (u, n, e0)) :
    Calls Try.prog 42 #[.pointer (some ⟨g, 0, none⟩)] w (R1 w L g (.int .i64 0) bs e0) := by
  have HD := Bx.mk (rdead0 h); have H := Bx.mk h
  have HC := Bx.mk (rtake_err (by omega) (by omega) h hl he hr)
  have he2 : (e0 != 0) = true := by simpa using he
  obtain ⟨⟨a, c, k1, _, _⟩, _, _⟩ := h
  have c1 : (w.setCell ⟨g, 1, none⟩ (.int .i64 e0)).cell? ⟨g, 1, none⟩ = some (.int .i64 e0) := by rw [(k1.setCell 1 (.int .i64 e0)).cell]; rfl
  clear k1 hl he hr
  go_enter Try.func42, Try.ntmps42
  go_wp2_with fail
  refine HD.out.mono ?_
  rintro r w1 ⟨rfl, rfl⟩
  go_wp2_with fail
  refine HC.out.mono ?_
  rintro r w2 ⟨rfl, hw⟩
  rw [← hw] at c1
  have HW := Bx.mk hw; clear hw
  go_wp2
  go_ret
  rw [HW.out]
  exact rd_err H.out _ _
set_option maxRecDepth 100000 in
set_option maxHeartbeats 4000000 in
theorem rInt_ok (g : Nat) (bs : List UInt8) (L : List Nat) (w : World) (h : RdAt w L g bs 0) (hl : bs.length ≤ 100000000) (u n : Nat) (hr : tk 10 0 0 bs = (u, n, 0)) :
    Calls Try.prog 42 #[.pointer (some ⟨g, 0, none⟩)] w (R1 w L g (.int .i64 (zag u)) (bs.drop n) 0) := by
  have HD := Bx.mk (rdead0 h); have H := Bx.mk h
  have HC := Bx.mk (rtake_ok (by omega) (by omega) h hl hr)
  have hu := tk_lt 10 bs 0 0 u n (by omega) (by omega) hr
  have hn := (tk_enc0 hr).2.1
  obtain ⟨⟨a, c, k1, k2, k3⟩, _, _⟩ := h
  have c0 : w.cell? ⟨g, 0, none⟩ = some (.slice a bs.length c) := by rw [k1.cell]; rfl
  have c1 : w.cell? ⟨g, 1, none⟩ = some (.int .i64 0) := by rw [k1.cell]; rfl
  have d0 : w.frozen? ⟨g, 0, none⟩ = false := k1.frozen 0
  obtain ⟨a2, c2, hsl, hI, hc2⟩ := slice_from (n := n) hn k3 k2
  have RB := fun v => Bx.mk (rd_bytes H.out hI hc2 v)
  have f0 := and_one_u64 (u : Int) (by omega) (by omega)
  obtain ⟨q, hq⟩ : ∃ q, q = u / 2 := ⟨_, rfl⟩
  have f1 : (u : Int) / 2 = (q : Int) := by omega
  have hqb : q < 9223372036854775808 := by omega
  clear k1 k2 k3 hI hc2 hr hn hl H
  generalize (bs.drop n).length = m at *
  by_cases hodd : u % 2 = 1
  · have hz : zag u = -(q : Int) - 1 := by unfold zag; rw [if_pos hodd, hq]
    have f2 : (u : Int) % 2 = 1 := by omega
    rw [f2] at f0
    have f3 : IntKind.u64.wrap (-1) = 18446744073709551615 := by rw [IntKind.wrap_u64]; rfl
    have f4 := xor_ones q (by omega)
    obtain ⟨k, hk⟩ : ∃ k : Int, k = ((18446744073709551615 - q : Nat) : Int) := ⟨_, rfl⟩
    rw [← hk] at f4
    have f5 : wrap64 k = -(q : Int) - 1 := by unfold wrap64; omega
    rw [hz]
    obtain ⟨j, hj⟩ : ∃ j : Int, j = -(q : Int) - 1 := ⟨_, rfl⟩
    rw [← hj] at f5 ⊢
    clear hz f2 hk hodd hq hu hj hqb
    go_enter Try.func42, Try.ntmps42
    go_wp2_with fail
    refine HD.out.mono ?_
    rintro r w1 ⟨rfl, rfl⟩
    go_wp2_with fail
    refine HC.out.mono ?_
    rintro r w2 ⟨rfl, rfl⟩
    go_wp2
    go_ret
    show R1 _ _ _ (.int .i64 j) _ 0 (.returned (.int .i64 (wrap64 k))) _
    rw [f5]
    exact (RB _).out
  · have hz : zag u = (q : Int) := by unfold zag; rw [if_neg hodd, hq]
    have f2 : (u : Int) % 2 = 0 := by omega
    rw [f2] at f0
    have f3 : IntKind.u64.wrap (-0) = 0 := by rw [IntKind.wrap_u64]; rfl
    have f4 := xor_zero q (by omega)
    have f5 : wrap64 (q : Int) = (q : Int) := by unfold wrap64; omega
    rw [hz]
    clear hz f2 hodd hq hu hqb
    go_enter Try.func42, Try.ntmps42
    go_wp2_with fail
    refine HD.out.mono ?_
    rintro r w1 ⟨rfl, rfl⟩
    go_wp2_with fail
    refine HC.out.mono ?_
    rintro r w2 ⟨rfl, rfl⟩
    go_wp2
    go_ret
    show R1 _ _ _ (.int .i64 (q : Int)) _ 0 (.returned (.int .i64 (wrap64 (q : Int)))) _
    rw [f5]
    exact (RB _).out
theorem rInt_any2 (g : Nat) (bs : List UInt8) (e : Int) (L : List Nat) (w : World) (h : RdAt w L g bs e) (hl : bs.length ≤ 100000000) :
    Calls Try.prog 42 #[.pointer (some ⟨g, 0, none⟩)] w (R1 w L g (.int .i64 (rdInt bs e).1) (rdInt bs e).2.1 (rdInt bs e).2.2) := by
  unfold rdInt
  by_cases he : e = 0
  · subst he
    rw [if_neg (by simp)]
    obtain ⟨u, n, e1, hr⟩ : ∃ u n e1, tk 10 0 0 bs = (u, n, e1) := ⟨_, _, _, rfl⟩
    rw [hr]
    dsimp only
    by_cases he1 : e1 = 0
    · subst he1
      rw [if_neg (by simp)]
      exact rInt_ok g bs L w h hl u n hr
    · rw [if_pos he1]; exact rInt_err g bs L w h hl u n e1 he1 hr
  · rw [if_pos he]; exact rInt_dead g bs e L w h he
/-- What 'End' tells. -/
def rdEnd (bs : List UInt8) (e : Int) : Int := if e = 0 ∧ bs ≠ [] then 4 else e
theorem rEnd_any (g : Nat) (bs : List UInt8) (e : Int) (L : List Nat) (w : World) (h : RdAt w L g bs e) (hl : bs.length ≤ 100000000) :
    Calls Try.prog 44 #[.pointer (some ⟨g, 0, none⟩)] w fun r w' => r = .returned (.int .i64 (rdEnd bs e)) ∧ w' = w := by
  obtain ⟨⟨a, c, k1, k2, k3⟩, _, _⟩ := h
  have c0 : w.cell? ⟨g, 0, none⟩ = some (.slice a bs.length c) := by rw [k1.cell]; rfl
  have c1 : w.cell? ⟨g, 1, none⟩ = some (.int .i64 e) := by rw [k1.cell]; rfl
  clear k1 k2 k3
  unfold rdEnd
  by_cases he : e = 0
  · subst he
    by_cases hb : bs = []
    · subst hb
      rw [if_neg (by simp)]
      have c0' : w.cell? ⟨g, 0, none⟩ = some (.slice a 0 c) := c0
      clear c0 hl
      go_enter Try.func44, Try.ntmps44
      go_wp2
      go_ret
      exact ⟨rfl, rfl⟩
    · rw [if_pos ⟨rfl, hb⟩]
      have hlen : (0 : Int) < (bs.length : Int) := by have := List.length_pos_iff.2 hb; omega
      clear hb
      go_enter Try.func44, Try.ntmps44
      go_wp2
      go_ret
      exact ⟨rfl, rfl⟩
  · rw [if_neg (fun h => he h.1)]
    have heb : (e == 0) = false := by simpa using he
    clear he
    go_enter Try.func44, Try.ntmps44
    go_wp2
    go_ret
    exact ⟨rfl, rfl⟩
theorem rdInt_range (bs : List UInt8) (e : Int) : -9223372036854775808 ≤ (rdInt bs e).1 ∧ (rdInt bs e).1 ≤ 9223372036854775807 := by
  unfold rdInt
  split
  · simp
  · obtain ⟨u, n, e1, hr⟩ : ∃ u n e1, tk 10 0 0 bs = (u, n, e1) := ⟨_, _, _, rfl⟩
    rw [hr]
    dsimp only
    split
    · simp
    · rename_i h
      have h0 : e1 = 0 := Classical.not_not.1 h
      subst h0
      exact zag_range (tk_lt 10 bs 0 0 u n (by omega) (by omega) hr)
theorem rdUint_range (most : Int) (bs : List UInt8) (e : Int) : 0 ≤ (rdUint most bs e).1 ∧ (rdUint most bs e).1 ≤ 9223372036854775807 := by
  unfold rdUint
  split
  · simp
  · obtain ⟨u, n, e1, hr⟩ : ∃ u n e1, tk 9 0 0 bs = (u, n, e1) := ⟨_, _, _, rfl⟩
    rw [hr]
    dsimp only
    split
    · simp
    · rename_i h
      have h0 : e1 = 0 := Classical.not_not.1 h
      subst h0
      split
      · simp
      · have := tk9_lt hr
        show 0 ≤ (u : Int) ∧ (u : Int) ≤ _
        omega
theorem rdLen (bs : List UInt8) (e : Int) : (rdInt bs e).2.1.length ≤ bs.length := by
  unfold rdInt
  split
  · simp
  · dsimp only; split
    · simp
    · simp
theorem rdLenU (most : Int) (bs : List UInt8) (e : Int) : (rdUint most bs e).2.1.length ≤ bs.length := by
  unfold rdUint
  split
  · simp
  · dsimp only; split
    · simp
    · split
      · simp
      · simp
end Go.Proofs.Ytjjmhmbmjpedkaa
end
section
/- The reader's flag and text, walked. -/
namespace Go.Proofs.Ytjjmhmbmjpedkaa
open Go.RowKit
def rdFlag (bs : List UInt8) (e : Int) : Bool × List UInt8 × Int :=
  if e ≠ 0 then (false, bs, e) else match bs with
  | [] => (false, [], 3)
  | x :: r => if 1 < x.toNat then (false, x :: r, 2) else (decide (x.toNat = 1), r, 0)
def rdText (most : Int) (bs : List UInt8) (e : Int) : List UInt8 × List UInt8 × Int :=
  if e ≠ 0 then ([], bs, e) else
  let r := rdUint most bs 0
  if r.2.2 ≠ 0 then ([], r.2.1, r.2.2) else if (r.2.1.length : Int) < r.1 then ([], bs, 3) else (r.2.1.take r.1.toNat, r.2.1.drop r.1.toNat, 0)
theorem in_fr {w w' : World} {L : List Nat} {a a0 : Option Addr} {bs : List UInt8} {n0 c0 g : Nat} {e : Int} (hb : Bk w g #[.slice a0 n0 c0, .int .i64 e] 120) (h : In w L a bs) (hu : Under L w.heap.size) (hf : Fr [g] w w') : In w' L a bs := by
  refine ⟨?_, h.2⟩
  rcases h.1 with h1 | ⟨b, off, rfl, h1⟩
  · exact .inl h1
  · cases bs with
    | nil => exact .inl rfl
    | cons x r =>
      have hbg : b ≠ g := by
        rintro rfl
        have := h1 0 (bV x) rfl
        rw [hb.cell] at this
        generalize off + 0 = j at this
        match j with
        | 0 => cases this
        | 1 => cases this
        | j + 2 => simp at this
      have hbL := h.2 _ rfl (by simp)
      refine .inr ⟨b, off, rfl, fun i v hv => ?_⟩
      rw [← h1 i v hv]
      exact World.cell?_of_block (a := ⟨b, off + i, none⟩) (hf.block b (hu b hbL) (by simpa using hbg))
set_option maxRecDepth 100000 in
set_option maxHeartbeats 4000000 in
theorem rFlag_dead (g : Nat) (bs : List UInt8) (e : Int) (L : List Nat) (w : World) (h : RdAt w L g bs e) (he : e ≠ 0) :
    Calls Try.prog 74 #[.pointer (some ⟨g, 0, none⟩)] w (R1 w L g (.bool false) bs e) := by
  have HD := Bx.mk (rdead1 h he); have H := Bx.mk h
  clear h he
  go_enter Try.func74, Try.ntmps74
  go_wp2_with fail
  refine HD.out.mono ?_
  rintro r w1 ⟨rfl, rfl⟩
  go_wp2
  go_ret
  exact rd_same H.out _
set_option maxRecDepth 100000 in
set_option maxHeartbeats 4000000 in
theorem rFlag_short (g : Nat) (L : List Nat) (w : World) (h : RdAt w L g [] 0) :
    Calls Try.prog 74 #[.pointer (some ⟨g, 0, none⟩)] w (R1 w L g (.bool false) [] 3) := by
  have HD := Bx.mk (rdead0 h); have H := Bx.mk h
  obtain ⟨⟨a, c, k1, _, _⟩, _, _⟩ := h
  have c0 : w.cell? ⟨g, 0, none⟩ = some (.slice a 0 c) := by rw [k1.cell]; rfl
  have c1 : w.cell? ⟨g, 1, none⟩ = some (.int .i64 0) := by rw [k1.cell]; rfl
  have d1 : w.frozen? ⟨g, 1, none⟩ = false := k1.frozen 1
  clear k1
  go_enter Try.func74, Try.ntmps74
  go_wp2_with fail
  refine HD.out.mono ?_
  rintro r w1 ⟨rfl, rfl⟩
  go_wp2
  go_ret
  exact rd_err H.out _ _
set_option maxRecDepth 100000 in
set_option maxHeartbeats 4000000 in
theorem rFlag_one (g : Nat) (x : UInt8) (r : List UInt8) (L : List Nat) (w : World) (h : RdAt w L g (x :: r) 0) :
    Calls Try.prog 74 #[.pointer (some ⟨g, 0, none⟩)] w fun q w' => (1 < x.toNat → R1 w L g (.bool false) (x :: r) 2 q w') ∧ (¬ 1 < x.toNat → R1 w L g (.bool (decide (x.toNat = 1))) r 0 q w') := by
  have HD := Bx.mk (rdead0 h); have H := Bx.mk h
  obtain ⟨⟨a, c, k1, k2, k3⟩, _, _⟩ := h
  obtain ⟨bs, hbs⟩ : ∃ bs, bs = x :: r := ⟨_, rfl⟩
  rw [← hbs] at k1 k2 k3 H
  have hlen : 0 < bs.length := by rw [hbs]; simp
  obtain ⟨b, off, rfl, hc⟩ := RowAt.byte k2.1 (k := 0) hlen
  have hx0 : bs[0] = x := by subst hbs; rfl
  rw [hx0, Nat.add_zero] at hc
  have c0 : w.cell? ⟨g, 0, none⟩ = some (.slice (some ⟨b, off, none⟩) bs.length c) := by rw [k1.cell]; rfl
  have c1 : w.cell? ⟨g, 1, none⟩ = some (.int .i64 0) := by rw [k1.cell]; rfl
  have d0 : w.frozen? ⟨g, 0, none⟩ = false := k1.frozen 0
  have d1 : w.frozen? ⟨g, 1, none⟩ = false := k1.frozen 1
  obtain ⟨a2, c2, hsl, hI, hc2⟩ := slice_from (n := 1) (by omega) k3 k2
  have hdr : bs.drop 1 = r := by rw [hbs]; rfl
  rw [hdr] at hsl hI hc2
  have RB := fun v => Bx.mk (rd_bytes H.out hI hc2 v)
  have RE := fun v => Bx.mk (rd_err H.out 2 v)
  rw [hbs] at RE
  have l0 : (0 : Int) < (bs.length : Int) := by omega
  have l1 : ((bs.length : Int) == 0) = false := by rw [beq_eq_false_iff_ne]; omega
  clear k1 k2 k3 hI hc2 hx0 hdr hlen H hbs
  have hsl' : ∀ W : World, (Instr.slice 30 (.slice (some ⟨b, off, none⟩) bs.length c) (some (.int .i64 1)) none none).run Try.prog W = .ok (.slice a2 r.length c2) W := hsl
  clear hsl
  by_cases hm : (1 : Int) < (x.toNat : Int)
  · have HX := Bx.mk (show 1 < x.toNat by omega)
    go_enter Try.func74, Try.ntmps74
    go_wp2_with fail
    refine HD.out.mono ?_
    rintro q w1 ⟨rfl, rfl⟩
    go_wp2
    go_ret
    exact ⟨fun _ => (RE _).out, fun h => absurd HX.out h⟩
  · have hx : x.toNat = 0 ∨ x.toNat = 1 := by omega
    rcases hx with hx | hx
    · have HX := Bx.mk hx
      rw [hx] at hc
      clear hm hx
      go_enter Try.func74, Try.ntmps74
      go_wp2_with fail
      refine HD.out.mono ?_
      rintro q w1 ⟨rfl, rfl⟩
      go_wp2
      go_ret
      exact ⟨fun h => by have := HX.out; omega, fun _ => by rw [HX.out]; exact (RB _).out⟩
    · have HX := Bx.mk hx
      rw [hx] at hc
      clear hm hx
      go_enter Try.func74, Try.ntmps74
      go_wp2_with fail
      refine HD.out.mono ?_
      rintro q w1 ⟨rfl, rfl⟩
      go_wp2
      go_ret
      exact ⟨fun h => by have := HX.out; omega, fun _ => by rw [HX.out]; exact (RB _).out⟩
theorem rFlag_any (g : Nat) (bs : List UInt8) (e : Int) (L : List Nat) (w : World) (h : RdAt w L g bs e) :
    Calls Try.prog 74 #[.pointer (some ⟨g, 0, none⟩)] w (R1 w L g (.bool (rdFlag bs e).1) (rdFlag bs e).2.1 (rdFlag bs e).2.2) := by
  unfold rdFlag
  by_cases he : e = 0
  · subst he
    rw [if_neg (by simp)]
    cases bs with
    | nil => exact rFlag_short g L w h
    | cons x r =>
      dsimp only
      by_cases hx : 1 < x.toNat
      · rw [if_pos hx]; exact (rFlag_one g x r L w h).mono fun q w' h => h.1 hx
      · rw [if_neg hx]; exact (rFlag_one g x r L w h).mono fun q w' h => h.2 hx
  · rw [if_pos he]; exact rFlag_dead g bs e L w h he
/-- What 'Text' does. -/
def T1 (w : World) (L : List Nat) (g : Nat) (ts bs : List UInt8) (e : Int) (r : Ending) (w' : World) : Prop :=
  ∃ v, r = .returned v ∧ Own w' w.heap.size 5 1 v ts.length (ts.map bV) ∧ RdAt w' L g bs e ∧ Fr L w w'
set_option maxRecDepth 100000 in
set_option maxHeartbeats 4000000 in
theorem rText_dead (g : Nat) (most : Int) (bs : List UInt8) (e : Int) (L : List Nat) (w : World) (h : RdAt w L g bs e) (he : e ≠ 0) :
    Calls Try.prog 75 #[.pointer (some ⟨g, 0, none⟩), .int .i64 most] w (T1 w L g [] bs e) := by
  have HD := Bx.mk (rdead1 h he); have H := Bx.mk h
  clear h he
  go_enter Try.func75, Try.ntmps75
  go_wp2_with fail
  refine HD.out.mono ?_
  rintro r w1 ⟨rfl, rfl⟩
  go_wp2
  go_ret
  exact ⟨_, rfl, Own.nil _ _ _ _, H.out, Fr.refl _ _⟩
set_option maxRecDepth 100000 in
set_option maxHeartbeats 4000000 in
theorem rText_live (g : Nat) (most : Int) (hm : most ≤ 9223372036854775807) (hm2 : -9223372036854775808 ≤ most) (bs : List UInt8) (L : List Nat) (w : World) (h : RdAt w L g bs 0) (hl : bs.length ≤ 100000000) :
    Calls Try.prog 75 #[.pointer (some ⟨g, 0, none⟩), .int .i64 most] w (T1 w L g (rdText most bs 0).1 (rdText most bs 0).2.1 (rdText most bs 0).2.2) := by
  have HD := Bx.mk (rdead0 h); have H := Bx.mk h
  have HC := rUint_any g most hm hm2 bs 0 L w h hl
  have hr := rdUint_range most bs 0
  have hlen := rdLenU most bs 0
  unfold rdText
  rw [if_neg (by simp)]
  obtain ⟨n, b1, e1, hd⟩ : ∃ n b1 e1, rdUint most bs 0 = (n, b1, e1) := ⟨_, _, _, rfl⟩
  simp only [hd] at HC hr hlen ⊢
  obtain ⟨⟨a, c, k1, k2, k3⟩, k4, k5⟩ := h
  have c0 : w.cell? ⟨g, 0, none⟩ = some (.slice a bs.length c) := by rw [k1.cell]; rfl
  have K1 := Bx.mk k1; have K2 := Bx.mk k2; have K3 := Bx.mk k3; have K4 := Bx.mk k4; have K5 := Bx.mk k5; have HCC := Bx.mk HC
  have HLn := Bx.mk hlen; have HLl := Bx.mk hl
  clear k1 k2 k3 k4 k5 HC hd hlen hl hm hm2
  by_cases he : e1 = 0
  · subst he
    rw [if_neg (by simp)]
    obtain ⟨m, rfl⟩ := Int.eq_ofNat_of_zero_le hr.1
    have hm63 := Bx.mk hr.2
    clear hr
    by_cases hs : (b1.length : Int) < (m : Int)
    · rw [if_pos hs]
      go_enter Try.func75, Try.ntmps75
      go_wp2_with fail
      refine HD.out.mono ?_
      rintro r w1 ⟨rfl, rfl⟩
      go_wp2_with fail
      refine HCC.out.mono ?_
      rintro r w1 ⟨rfl, hr1, hf, hg⟩
      have HD1 := Bx.mk (rdead0 hr1)
      have HF := Bx.mk hf
      have HB := Bx.mk (hr1.setBytes (in_fr K1.out K2.out K5.out hg) K3.out)
      obtain ⟨⟨a1, c1, j1, _, _⟩, _, _⟩ := hr1
      have e0 : w1.cell? ⟨g, 0, none⟩ = some (.slice a1 b1.length c1) := by rw [j1.cell]; rfl
      have d0 : w1.frozen? ⟨g, 0, none⟩ = false := j1.frozen 0
      have d1 : w1.frozen? ⟨g, 1, none⟩ = false := j1.frozen 1
      have e1 : w1.cell? ⟨g, 1, none⟩ = some (.int .i64 0) := by rw [j1.cell]; rfl
      clear hf hg j1
      go_wp2_with fail
      refine HD1.out.mono ?_
      rintro r w2 ⟨rfl, rfl⟩
      go_wp2
      go_ret
      exact ⟨_, rfl, Own.nil _ _ _ _, HB.out.setErr 3, (HF.out.setCell (p := ⟨g, 0, none⟩) (.inl K4.out) _).setCell (p := ⟨g, 1, none⟩) (.inl K4.out) _⟩
    · rw [if_neg hs]
      have hmle : m ≤ b1.length := by omega
      show Calls _ _ _ _ (T1 w L g (b1.take ((m : Int)).toNat) (b1.drop ((m : Int)).toNat) 0)
      rw [Int.toNat_natCast]
      go_enter Try.func75, Try.ntmps75
      go_wp2_with fail
      refine HD.out.mono ?_
      rintro r w1 ⟨rfl, rfl⟩
      go_wp2_with fail
      refine HCC.out.mono ?_
      rintro r w1 ⟨rfl, hr1, hf, hg⟩
      have HD1 := Bx.mk (rdead0 hr1)
      have HF := Bx.mk hf
      have HR1 := Bx.mk hr1
      obtain ⟨⟨a1, c1, j1, j2, j3⟩, _, _⟩ := hr1
      have e0 : w1.cell? ⟨g, 0, none⟩ = some (.slice a1 b1.length c1) := by rw [j1.cell]; rfl
      obtain ⟨a2, c2, hsl, hI, hc2⟩ := slice_from (n := m) hmle j3 j2
      have ht : (b1.take m).length = m := by rw [List.length_take]; omega
      have HRt := Bx.mk (show RowAt w1 a1 ((b1.take m).map bV) by rw [List.map_take]; exact j2.1.take m)
      have J1 := Bx.mk j1; have HI := Bx.mk hI; have HC2 := Bx.mk hc2
      have q0 : (0 : Int) ≤ (m : Int) := by omega
      have q1 : (m : Int) ≤ (c1 : Int) := by omega
      clear hf hg j1 j2 hI hc2 j3
      go_wp2_with fail
      refine HD1.out.mono ?_
      rintro r w2 ⟨rfl, rfl⟩
      go_wp2_with fail
      have HCl := bClone_any a1 c1 (b1.take m) w2 HRt.out (by have := HLn.out; have := HLl.out; omega)
      rw [ht] at HCl
      refine HCl.mono ?_
      rintro r w3 ⟨v, rfl, ho, hb⟩
      have HO := Bx.mk ho
      have HR3 := Bx.mk (HR1.out.below hb)
      have J3 := Bx.mk (J1.out.keep (hb.block g J1.out.lt))
      have HI3 := Bx.mk (HI.out.keep (fun k hk => hb.block k (HR1.out.under k hk)))
      have HF3 := Bx.mk (HF.out.trans (Fr.ofBelow (L := []) hb) (fun k hk => by cases hk))
      have S3 := Bx.mk HF.out.size
      have e3 : w3.cell? ⟨g, 0, none⟩ = some (.slice a1 b1.length c1) := by rw [J3.out.cell]; rfl
      have d3 : w3.frozen? ⟨g, 0, none⟩ = false := J3.out.frozen 0
      clear ho hb HCl
      go_wp2
      go_ret
      refine ⟨_, rfl, ?_, by have h := HR3.out.setBytes HI3.out HC2.out; rw [List.length_drop] at h; exact h, HF3.out.setCell (p := ⟨g, 0, none⟩) (.inl K4.out) _⟩
      rw [ht]
      refine Own.keep (HO.out.base_le fun k hk => Nat.le_trans S3.out (HO.out.lt k hk).1) fun k hk => Below.heap_setCell _ _ _ _ fun e => ?_
      have e2 : k = g := e
      have := (HO.out.lt k hk).1
      have := HR1.out.under g K4.out
      omega
  · rw [if_pos he]
    go_enter Try.func75, Try.ntmps75
    go_wp2_with fail
    refine HD.out.mono ?_
    rintro r w1 ⟨rfl, rfl⟩
    go_wp2_with fail
    refine HCC.out.mono ?_
    rintro r w1 ⟨rfl, hr1, hf, hg⟩
    have HD1 := Bx.mk (rdead1 hr1 he)
    have HF := Bx.mk hf; have HR1 := Bx.mk hr1
    clear hf hg hr1
    go_wp2_with fail
    refine HD1.out.mono ?_
    rintro r w2 ⟨rfl, rfl⟩
    go_wp2
    go_ret
    exact ⟨_, rfl, Own.nil _ _ _ _, HR1.out, HF.out⟩
theorem rText_any (g : Nat) (most : Int) (hm : most ≤ 9223372036854775807) (hm2 : -9223372036854775808 ≤ most) (bs : List UInt8) (e : Int) (L : List Nat) (w : World) (h : RdAt w L g bs e) (hl : bs.length ≤ 100000000) :
    Calls Try.prog 75 #[.pointer (some ⟨g, 0, none⟩), .int .i64 most] w (T1 w L g (rdText most bs e).1 (rdText most bs e).2.1 (rdText most bs e).2.2) := by
  by_cases he : e = 0
  · subst he; exact rText_live g most hm hm2 bs L w h hl
  · have : rdText most bs e = ([], bs, e) := by unfold rdText; rw [if_pos he]
    rw [this]
    exact rText_dead g most bs e L w h he
end Go.Proofs.Ytjjmhmbmjpedkaa
end
section
/- What is read is what was written, and what is written is read: plain laws of the parts. No program in sight. -/
namespace Go.Proofs.Ytjjmhmbmjpedkaa
theorem dead_uint {most : Int} {bs : List UInt8} {e : Int} (he : e ≠ 0) : rdUint most bs e = (0, bs, e) := by unfold rdUint; rw [if_pos he]
theorem dead_int {bs : List UInt8} {e : Int} (he : e ≠ 0) : rdInt bs e = (0, bs, e) := by unfold rdInt; rw [if_pos he]
theorem dead_flag {bs : List UInt8} {e : Int} (he : e ≠ 0) : rdFlag bs e = (false, bs, e) := by unfold rdFlag; rw [if_pos he]
theorem dead_text {most : Int} {bs : List UInt8} {e : Int} (he : e ≠ 0) : rdText most bs e = ([], bs, e) := by unfold rdText; rw [if_pos he]
theorem un_uint {most : Int} {bs : List UInt8} {e : Int} (h : (rdUint most bs e).2.2 = 0) : e = 0 ∧ 0 ≤ (rdUint most bs e).1 ∧ (rdUint most bs e).1 ≤ most ∧ bs = uintB (rdUint most bs e).1 ++ (rdUint most bs e).2.1 := by
  by_cases he : e = 0
  · refine ⟨he, ?_⟩
    subst he
    revert h
    unfold rdUint
    rw [if_neg (by simp)]
    obtain ⟨u, n, e1, hr⟩ : ∃ u n e1, tk 9 0 0 bs = (u, n, e1) := ⟨_, _, _, rfl⟩
    rw [hr]
    dsimp only
    split
    · rename_i h; intro h1; exact absurd h1 h
    rename_i h
    split
    · intro h1; cases h1
    rename_i hm
    intro _
    have h0 : e1 = 0 := Classical.not_not.1 h
    subst h0
    obtain ⟨_, h3, h4⟩ := tk_enc0 hr
    refine ⟨by dsimp only; omega, by dsimp only; omega, ?_⟩
    dsimp only
    unfold uintB
    rw [if_neg (by omega), Int.toNat_natCast, ← h4, List.take_append_drop]
  · rw [dead_uint he] at h; exact absurd h he
theorem un_int {bs : List UInt8} {e : Int} (h : (rdInt bs e).2.2 = 0) : e = 0 ∧ bs = intB (rdInt bs e).1 ++ (rdInt bs e).2.1 := by
  by_cases he : e = 0
  · refine ⟨he, ?_⟩
    subst he
    revert h
    unfold rdInt
    rw [if_neg (by simp)]
    obtain ⟨u, n, e1, hr⟩ : ∃ u n e1, tk 10 0 0 bs = (u, n, e1) := ⟨_, _, _, rfl⟩
    rw [hr]
    dsimp only
    split
    · rename_i h; intro h1; exact absurd h1 h
    rename_i h
    intro _
    have h0 : e1 = 0 := Classical.not_not.1 h
    subst h0
    obtain ⟨_, h3, h4⟩ := tk_enc0 hr
    dsimp only
    unfold intB
    rw [zig_zag, ← h4, List.take_append_drop]
  · rw [dead_int he] at h; exact absurd h he
theorem un_flag {bs : List UInt8} {e : Int} (h : (rdFlag bs e).2.2 = 0) : e = 0 ∧ bs = flagB (rdFlag bs e).1 ++ (rdFlag bs e).2.1 := by
  by_cases he : e = 0
  · refine ⟨he, ?_⟩
    subst he
    revert h
    unfold rdFlag
    rw [if_neg (by simp)]
    cases bs with
    | nil => intro h; cases h
    | cons x r =>
      dsimp only
      split
      · intro h; cases h
      rename_i hx
      intro _
      unfold flagB
      by_cases h1 : x.toNat = 1
      · rw [if_pos (decide_eq_true h1)]
        rw [show x = 1 from UInt8.toNat_inj.1 h1]
        rfl
      · rw [if_neg (by simp [h1])]
        rw [show x = 0 from UInt8.toNat_inj.1 (by show x.toNat = 0; omega)]
        rfl
  · rw [dead_flag he] at h; exact absurd h he
theorem uint_nat {z : Int} (h : 0 ≤ z) : uintB z = grp z.toNat := by unfold uintB; rw [if_neg (by omega)]
theorem un_text {most : Int} {bs : List UInt8} {e : Int} (h : (rdText most bs e).2.2 = 0) : e = 0 ∧ ((rdText most bs e).1.length : Int) ≤ most ∧ bs = textB (rdText most bs e).1 ++ (rdText most bs e).2.1 := by
  by_cases he : e = 0
  · refine ⟨he, ?_⟩
    subst he
    revert h
    unfold rdText
    rw [if_neg (by simp)]
    have hu := un_uint (most := most) (bs := bs) (e := 0)
    revert hu
    generalize rdUint most bs 0 = q
    obtain ⟨z, cs, e1⟩ := q
    dsimp only
    intro hu
    split
    · rename_i h; intro h1; exact absurd h1 h
    rename_i h
    have h0 : e1 = 0 := Classical.not_not.1 h
    obtain ⟨_, k1, k2, k3⟩ := hu h0
    split
    · intro h1; cases h1
    rename_i h2
    intro _
    dsimp only
    have hl : (cs.take z.toNat).length = z.toNat := by rw [List.length_take]; omega
    refine ⟨by rw [hl]; omega, ?_⟩
    unfold textB
    rw [hl, List.append_assoc, List.take_append_drop, ← uint_nat k1]
    exact k3
  · rw [dead_text he] at h; exact absurd h he
theorem ck_grp {m : Nat} {most : Int} (h : (m : Int) ≤ most) (h1 : m < 9223372036854775808) (rest : List UInt8) : rdUint most (grp m ++ rest) 0 = ((m : Int), rest, 0) := by
  unfold rdUint
  rw [if_neg (by simp), tk_dec0 rest (by omega) (grp_len 8 m (by omega))]
  dsimp only
  rw [if_neg (by simp), if_neg (by omega), List.drop_left]
theorem ck_uint {n most : Int} (h0 : 0 ≤ n) (h1 : n ≤ 9223372036854775807) (h2 : n ≤ most) (rest : List UInt8) : rdUint most (uintB n ++ rest) 0 = (n, rest, 0) := by
  rw [uint_nat h0, ck_grp (by omega) (by omega), Int.toNat_of_nonneg h0]
theorem ck_int {n : Int} (h0 : -9223372036854775808 ≤ n) (h1 : n ≤ 9223372036854775807) (rest : List UInt8) : rdInt (intB n ++ rest) 0 = (n, rest, 0) := by
  unfold rdInt intB
  rw [if_neg (by simp), tk_dec0 rest (zig_lt h0 h1) (grp_len64 (zig_lt h0 h1))]
  dsimp only
  rw [if_neg (by simp), List.drop_left, zag_zig]
theorem ck_flag (y : Bool) (rest : List UInt8) : rdFlag (flagB y ++ rest) 0 = (y, rest, 0) := by
  cases y <;> rfl
theorem ck_text {ts : List UInt8} {most : Int} (h : (ts.length : Int) ≤ most) (h2 : ts.length ≤ 100000000) (rest : List UInt8) : rdText most (textB ts ++ rest) 0 = (ts, rest, 0) := by
  unfold rdText textB
  rw [if_neg (by simp), List.append_assoc, ck_grp h (by omega)]
  dsimp only
  rw [if_neg (by simp), if_neg (by rw [List.length_append]; omega), Int.toNat_natCast, List.take_left, List.drop_left]
theorem end_zero {bs : List UInt8} {e : Int} (h : rdEnd bs e = 0) : e = 0 ∧ bs = [] := by
  unfold rdEnd at h
  split at h
  · cases h
  · rename_i h2
    subst h
    exact ⟨rfl, Classical.byContradiction fun h3 => h2 ⟨rfl, h3⟩⟩
theorem end_dead {bs : List UInt8} {e : Int} (h : e ≠ 0) : rdEnd bs e = e := by unfold rdEnd; rw [if_neg (fun h2 => h h2.1)]
theorem end_nil : rdEnd [] 0 = 0 := rfl
theorem uint_le {most : Int} {bs : List UInt8} {e : Int} (h : 0 ≤ most) : (rdUint most bs e).1 ≤ most := by
  unfold rdUint
  split
  · exact h
  dsimp only
  split
  · exact h
  split
  · exact h
  · dsimp only; omega
theorem text_le {most : Int} {bs : List UInt8} {e : Int} (h : 0 ≤ most) : ((rdText most bs e).1.length : Int) ≤ most := by
  unfold rdText
  split
  · exact h
  have hu := uint_le (bs := bs) (e := 0) h
  have hr := (rdUint_range most bs 0).1
  generalize rdUint most bs 0 = q at *
  dsimp only
  split
  · exact h
  split
  · exact h
  · rw [List.length_take]; omega
theorem text_len {most : Int} {bs : List UInt8} {e : Int} : (rdText most bs e).1.length ≤ bs.length ∧ (rdText most bs e).2.1.length ≤ bs.length := by
  have hu := rdLenU most bs 0
  unfold rdText
  split
  · exact ⟨Nat.zero_le _, Nat.le_refl _⟩
  dsimp only
  split
  · exact ⟨Nat.zero_le _, hu⟩
  split
  · exact ⟨Nat.zero_le _, Nat.le_refl _⟩
  · dsimp only
    rw [List.length_take, List.length_drop]
    omega
theorem uint_len10 {n : Int} (h : n ≤ 9223372036854775807) : (uintB n).length ≤ 10 := by
  unfold uintB
  split
  · exact Nat.zero_le _
  · exact grp_len64 (by omega)
theorem int_len10 {n : Int} (h1 : -9223372036854775808 ≤ n) (h2 : n ≤ 9223372036854775807) : (intB n).length ≤ 10 := grp_len64 (zig_lt h1 h2)
theorem textB_len {ts : List UInt8} (h : ts.length ≤ 100000000) : (textB ts).length ≤ ts.length + 10 := by
  unfold textB
  rw [List.length_append]
  have := grp_len64 (u := ts.length) (by omega)
  omega
theorem flag_len {bs : List UInt8} {e : Int} : (rdFlag bs e).2.1.length ≤ bs.length := by
  unfold rdFlag
  split
  · exact Nat.le_refl _
  cases bs with
  | nil => exact Nat.le_refl _
  | cons x r =>
    dsimp only
    split
    · exact Nat.le_refl _
    · simp
end Go.Proofs.Ytjjmhmbmjpedkaa
end
