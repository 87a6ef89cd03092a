import Derived.Test.YtamlgnhnmilbdaaProg
import Derived.Test.YtamlgnhnmilbdaaMCrB2
import Derived.Test.YtamlgnhnmilbdaaMCrB5
import Derived.Test.YtamlgnhnmilbdaaMCrB3
set_option linter.unusedVariables false
section
/- Conditions of functions, printed by a program of this claim's own (vcgen.py) out of the loaded code; each is proved to be enough. -/
set_option maxRecDepth 100000
namespace Go.Proofs.Ytamlgnhnmilbdaa
open Go.RowKit
namespace GCredR
def env : Env := ⟨[(3, ⟨.int .i64, 1, .int .i64 0, 8, [.int .i64]⟩), (4, ⟨.bool, 1, .bool false, 1, [.bool]⟩), (5, ⟨.int .u8, 1, .int .u8 0, 1, [.int .u8]⟩), (9, ⟨.str, 1, .string ByteArray.empty, 16, [.str]⟩), (24, ⟨.ptr, 1, .pointer none, 8, [.ptr]⟩), (25, ⟨.int .i64, 1, .int .i64 0, 8, [.int .i64]⟩), (42, ⟨.slice 5, 1, .slice none 0 0, 24, [.slice]⟩), (48, ⟨.slice 53, 1, .slice none 0 0, 24, [.slice]⟩), (50, ⟨.struct [(0, 3), (1, 3), (2, 48)], 3, .agg #[.int .i64 0, .int .i64 0, .slice none 0 0], 40, [.int .i64, .int .i64, .slice]⟩), (51, ⟨.slice 161, 1, .slice none 0 0, 24, [.slice]⟩), (53, ⟨.struct [(0, 3), (1, 3), (2, 3), (3, 3), (4, 51)], 5, .agg #[.int .i64 0, .int .i64 0, .int .i64 0, .int .i64 0, .slice none 0 0], 56, [.int .i64, .int .i64, .int .i64, .int .i64, .slice]⟩), (151, ⟨.struct [(0, 9), (1, 25)], 2, .agg #[.string ByteArray.empty, .int .i64 0], 24, [.str, .int .i64]⟩), (161, ⟨.struct [(0, 3), (1, 3), (2, 3), (3, 4)], 4, .agg #[.int .i64 0, .int .i64 0, .int .i64 0, .bool false], 32, [.int .i64, .int .i64, .int .i64, .bool]⟩)], [(12, [.lf (.bool)]), (20, [.lf (.slice), .lf (.int .i64)]), (25, [.lf (.bool)]), (38, [.lf (.ptr), .lf (.int .i64)]), (39, [.lf (.ptr), .lf (.bool)]), (78, [.lf (.int .i64)]), (83, [.lf (.int .i64)]), (87, [.lf (.bool)]), (88, [.lf (.bool)]), (89, [.lf (.bool)])], []⟩
theorem ty3 : TyOk Try.prog 3 ⟨.int .i64, 1, .int .i64 0, 8, [.int .i64]⟩ := tyok (by kernel_rfl) (by kernel_rfl)
theorem ty4 : TyOk Try.prog 4 ⟨.bool, 1, .bool false, 1, [.bool]⟩ := tyok (by kernel_rfl) (by kernel_rfl)
theorem ty5 : TyOk Try.prog 5 ⟨.int .u8, 1, .int .u8 0, 1, [.int .u8]⟩ := tyok (by kernel_rfl) (by kernel_rfl)
theorem ty9 : TyOk Try.prog 9 ⟨.str, 1, .string ByteArray.empty, 16, [.str]⟩ := tyok (by kernel_rfl) (by kernel_rfl)
theorem ty24 : TyOk Try.prog 24 ⟨.ptr, 1, .pointer none, 8, [.ptr]⟩ := tyok (by kernel_rfl) (by kernel_rfl)
theorem ty25 : TyOk Try.prog 25 ⟨.int .i64, 1, .int .i64 0, 8, [.int .i64]⟩ := tyok (by kernel_rfl) (by kernel_rfl)
theorem ty42 : TyOk Try.prog 42 ⟨.slice 5, 1, .slice none 0 0, 24, [.slice]⟩ := tyok (by kernel_rfl) (by kernel_rfl)
theorem ty48 : TyOk Try.prog 48 ⟨.slice 53, 1, .slice none 0 0, 24, [.slice]⟩ := tyok (by kernel_rfl) (by kernel_rfl)
theorem ty50 : TyOk Try.prog 50 ⟨.struct [(0, 3), (1, 3), (2, 48)], 3, .agg #[.int .i64 0, .int .i64 0, .slice none 0 0], 40, [.int .i64, .int .i64, .slice]⟩ := tyok (by kernel_rfl) (by kernel_rfl)
theorem ty51 : TyOk Try.prog 51 ⟨.slice 161, 1, .slice none 0 0, 24, [.slice]⟩ := tyok (by kernel_rfl) (by kernel_rfl)
theorem ty53 : TyOk Try.prog 53 ⟨.struct [(0, 3), (1, 3), (2, 3), (3, 3), (4, 51)], 5, .agg #[.int .i64 0, .int .i64 0, .int .i64 0, .int .i64 0, .slice none 0 0], 56, [.int .i64, .int .i64, .int .i64, .int .i64, .slice]⟩ := tyok (by kernel_rfl) (by kernel_rfl)
theorem ty151 : TyOk Try.prog 151 ⟨.struct [(0, 9), (1, 25)], 2, .agg #[.string ByteArray.empty, .int .i64 0], 24, [.str, .int .i64]⟩ := tyok (by kernel_rfl) (by kernel_rfl)
theorem ty161 : TyOk Try.prog 161 ⟨.struct [(0, 3), (1, 3), (2, 3), (3, 4)], 4, .agg #[.int .i64 0, .int .i64 0, .int .i64 0, .bool false], 32, [.int .i64, .int .i64, .int .i64, .bool]⟩ := tyok (by kernel_rfl) (by kernel_rfl)
theorem fn12 : FnOk Try.prog 12 := fnok Try.func12 (by kernel_rfl) (by kernel_rfl)
theorem fn20 : FnOk Try.prog 20 := fnok Try.func20 (by kernel_rfl) (by kernel_rfl)
theorem fn25 : FnOk Try.prog 25 := fnok Try.func25 (by kernel_rfl) (by kernel_rfl)
theorem fn38 : FnOk Try.prog 38 := fnok Try.func38 (by kernel_rfl) (by kernel_rfl)
theorem fn39 : FnOk Try.prog 39 := fnok Try.func39 (by kernel_rfl) (by kernel_rfl)
theorem fn78 : FnOk Try.prog 78 := fnok Try.func78 (by kernel_rfl) (by kernel_rfl)
theorem fn83 : FnOk Try.prog 83 := fnok Try.func83 (by kernel_rfl) (by kernel_rfl)
theorem fn87 : FnOk Try.prog 87 := fnok Try.func87 (by kernel_rfl) (by kernel_rfl)
theorem fn88 : FnOk Try.prog 88 := fnok Try.func88 (by kernel_rfl) (by kernel_rfl)
theorem fn89 : FnOk Try.prog 89 := fnok Try.func89 (by kernel_rfl) (by kernel_rfl)
theorem envOk : EOk Try.prog env := ⟨(by simp only [env, List.forall_mem_cons, List.not_mem_nil, false_implies, implies_true, and_true]; exact ⟨ty3, ty4, ty5, ty9, ty24, ty25, ty42, ty48, ty50, ty51, ty53, ty151, ty161⟩), (by simp only [env, List.forall_mem_cons, List.not_mem_nil, false_implies, implies_true, and_true]; exact ⟨fn12, fn20, fn25, fn38, fn39, fn78, fn83, fn87, fn88, fn89⟩), by kernel_rfl, (fun _ h => by cases h)⟩
/-- purser/purserref17.Read -/
def rread17_vc (s0 : ByteArray) (w : World) (K : Value → World → Prop) : Prop :=
  newO w (.cells #[.string s0, .int .i64 0] 151) fun g w_2 =>
  Calls Try.prog 78 #[.pointer (some ⟨g, 0, none⟩), .int .i64 4611686018427387904] w_2 fun e w_3 => KeepG [] w_2 w_3 ∧
  ∃ (x18 : Int),
  e = .returned (.int .i64 x18) ∧
  newO w_3 (.cells #[.int .i64 x18, .int .i64 0, .slice none 0 0] 50) fun g_2 w_4 =>
  Calls Try.prog 78 #[.pointer (some ⟨g, 0, none⟩), .int .i64 4611686018427387904] w_4 fun e_2 w_5 => KeepG [] w_4 w_5 ∧
  ∃ (x23 : Int),
  e_2 = .returned (.int .i64 x23) ∧
  stO [] w_5 g_2 1 [.int .i64 x23] fun w_6 =>
  Calls Try.prog 78 #[.pointer (some ⟨g, 0, none⟩), .int .i64 16] w_6 fun e_3 w_7 => KeepG [] w_6 w_7 ∧
  ∃ (x27 : Int),
  e_3 = .returned (.int .i64 x27) ∧
  ∃ (J : Bool → World → Prop), (
    ∃ (x31 : Int), w_7.cell? ⟨g_2, 0, none⟩ = some (.int .i64 x31) ∧
    Calls Try.prog 87 #[.int .i64 x31, .int .i64 1, .int .i64 16] w_7 fun e_4 w_8 => KeepG [] w_7 w_8 ∧
    ∃ (b32 : Bool),
    e_4 = .returned (.bool b32) ∧
    br b32 (
      ∃ (x38 : Int), w_8.cell? ⟨g_2, 0, none⟩ = some (.int .i64 x38) ∧
      J (decide (x27 ≤ x38)) w_8
    ) (
      J false w_8
    )
  ) ∧
  ∀ (b7 : Bool) (w_9 : World), J b7 w_9 →
  ∃ (I : Bool → Int → Int → World → Prop) (μ : Bool → Int → Int → World → Nat),
  I b7 0 0 w_9 ∧
  ∀ (b7_2 : Bool) (x8 : Int) (x9 : Int) (w_10 : World), I b7_2 x8 x9 w_10 →
  ∃ (J_2 : Bool → World → Prop), (
    br (decide (x9 < x27)) (
      ∃ (x48 : Int), w_10.cell? ⟨g, 1, none⟩ = some (.int .i64 x48) ∧
      J_2 (decide (x48 = 0)) w_10
    ) (
      J_2 false w_10
    )
  ) ∧
  ∀ (b50 : Bool) (w_11 : World), J_2 b50 w_11 →
  br b50 (
    Calls Try.prog 78 #[.pointer (some ⟨g, 0, none⟩), .int .i64 4611686018427387904] w_11 fun e_5 w_12 => KeepG [] w_11 w_12 ∧
    ∃ (x54 : Int),
    e_5 = .returned (.int .i64 x54) ∧
    newO w_12 (.cells #[.int .i64 0, .int .i64 0, .int .i64 0, .int .i64 0, .slice none 0 0] 53) fun g_3 w_13 =>
    ∀ w_14 : World, BoxSt g_3 w_13 w_14 →
    Calls Try.prog 78 #[.pointer (some ⟨g, 0, none⟩), .int .i64 4611686018427387904] w_14 fun e_6 w_15 => KeepG [g_3] w_14 w_15 ∧
    ∃ (x57 : Int),
    e_6 = .returned (.int .i64 x57) ∧
    ∀ w_16 : World, BoxSt g_3 w_15 w_16 →
    Calls Try.prog 78 #[.pointer (some ⟨g, 0, none⟩), .int .i64 4611686018427387904] w_16 fun e_7 w_17 => KeepG [g_3] w_16 w_17 ∧
    ∃ (x60 : Int),
    e_7 = .returned (.int .i64 x60) ∧
    ∀ w_18 : World, BoxSt g_3 w_17 w_18 →
    Calls Try.prog 78 #[.pointer (some ⟨g, 0, none⟩), .int .i64 4611686018427387904] w_18 fun e_8 w_19 => KeepG [g_3] w_18 w_19 ∧
    ∃ (x63 : Int),
    e_8 = .returned (.int .i64 x63) ∧
    ∀ w_20 : World, BoxSt g_3 w_19 w_20 →
    Calls Try.prog 78 #[.pointer (some ⟨g, 0, none⟩), .int .i64 4] w_20 fun e_9 w_21 => KeepG [g_3] w_20 w_21 ∧
    ∃ (x66 : Int),
    e_9 = .returned (.int .i64 x66) ∧
    ∃ (I_2 : Int → Int → Int → Int → Int → Option Addr → Nat → Nat → World → Prop) (μ_2 : Int → Int → Int → Int → Int → Option Addr → Nat → Nat → World → Nat),
    I_2 0 x54 x57 x60 x63 none 0 0 w_21 ∧
    ∀ (x12 : Int) (x10_0 : Int) (x10_1 : Int) (x10_2 : Int) (x10_3 : Int) (a10_4 : Option Addr) (n10_4 : Nat) (c10_4 : Nat) (w_22 : World), I_2 x12 x10_0 x10_1 x10_2 x10_3 a10_4 n10_4 c10_4 w_22 →
    ∃ (J_3 : Bool → World → Prop), (
      br (decide (x12 < x66)) (
        ∃ (x74 : Int), w_22.cell? ⟨g, 1, none⟩ = some (.int .i64 x74) ∧
        J_3 (decide (x74 = 0)) w_22
      ) (
        J_3 false w_22
      )
    ) ∧
    ∀ (b76 : Bool) (w_23 : World), J_3 b76 w_23 →
    br b76 (
      Calls Try.prog 78 #[.pointer (some ⟨g, 0, none⟩), .int .i64 4611686018427387904] w_23 fun e_10 w_24 => KeepG [g_3] w_23 w_24 ∧
      ∃ (x80 : Int),
      e_10 = .returned (.int .i64 x80) ∧
      newO w_24 (.cells #[.int .i64 0, .int .i64 0, .int .i64 0, .bool false] 161) fun g_4 w_25 =>
      ∀ w_26 : World, BoxSt g_4 w_25 w_26 →
      Calls Try.prog 78 #[.pointer (some ⟨g, 0, none⟩), .int .i64 4611686018427387904] w_26 fun e_11 w_27 => KeepG [g_4, g_3] w_26 w_27 ∧
      ∃ (x83 : Int),
      e_11 = .returned (.int .i64 x83) ∧
      ∀ w_28 : World, BoxSt g_4 w_27 w_28 →
      Calls Try.prog 78 #[.pointer (some ⟨g, 0, none⟩), .int .i64 4611686018427387904] w_28 fun e_12 w_29 => KeepG [g_4, g_3] w_28 w_29 ∧
      ∃ (x86 : Int),
      e_12 = .returned (.int .i64 x86) ∧
      ∀ w_30 : World, BoxSt g_4 w_29 w_30 →
      Calls Try.prog 88 #[.pointer (some ⟨g, 0, none⟩)] w_30 fun e_13 w_31 => KeepG [g_4, g_3] w_30 w_31 ∧
      ∃ (b89 : Bool),
      e_13 = .returned (.bool b89) ∧
      ∀ w_32 : World, BoxSt g_4 w_31 w_32 →
      newO w_32 (.cells #[.int .i64 x80, .int .i64 x83, .int .i64 x86, .bool b89] 161) fun g_5 w_33 =>
      appO Try.prog [g_4, g_3] w_33 161 4 32 51 a10_4 n10_4 c10_4 (.slice (some ⟨g_5, 0, none⟩) 1 1) fun m95 a95 c95 w_34 =>
      ∀ w_35 : World, BoxSt g_3 w_34 w_35 →
      I_2 (IntKind.i64.wrap (x12 + 1)) x10_0 x10_1 x10_2 x10_3 a95 (n10_4 + m95) c95 w_35 ∧ μ_2 (IntKind.i64.wrap (x12 + 1)) x10_0 x10_1 x10_2 x10_3 a95 (n10_4 + m95) c95 w_35 < μ_2 x12 x10_0 x10_1 x10_2 x10_3 a10_4 n10_4 c10_4 w_22
    ) (
      ∃ (J_4 : Bool → World → Prop), (
        drewO w_23 fun w_36 =>
        br b7_2 (
          Calls Try.prog 89 #[.agg #[.int .i64 x10_0, .int .i64 x10_1, .int .i64 x10_2, .int .i64 x10_3, .slice a10_4 n10_4 c10_4]] w_36 fun e_14 w_37 => KeepG [g_3] w_36 w_37 ∧
          ∃ (b100 : Bool),
          e_14 = .returned (.bool b100) ∧
          br b100 (
            br (decide (x10_0 > x8)) (
              ∃ (x114 : Int), w_37.cell? ⟨g_2, 1, none⟩ = some (.int .i64 x114) ∧
              J_4 (decide (x10_0 ≤ x114)) w_37
            ) (
              J_4 false w_37
            )
          ) (
            J_4 false w_37
          )
        ) (
          J_4 false w_36
        )
      ) ∧
      ∀ (b7_3 : Bool) (w_39 : World), J_4 b7_3 w_39 →
      drewO w_39 fun w_40 =>
      ∃ (a123 : Option Addr) (n123 : Nat) (c123 : Nat), w_40.cell? ⟨g_2, 2, none⟩ = some (.slice a123 n123 c123) ∧
      newO w_40 (.cells #[.int .i64 x10_0, .int .i64 x10_1, .int .i64 x10_2, .int .i64 x10_3, .slice a10_4 n10_4 c10_4] 53) fun g_6 w_41 =>
      w_41.cell? ⟨g_2, 2, none⟩ = some (.slice a123 n123 c123) ∧
      appO Try.prog [g_3] w_41 53 5 56 48 a123 n123 c123 (.slice (some ⟨g_6, 0, none⟩) 1 1) fun m126 a126 c126 w_42 =>
      stO [g_3] w_42 g_2 2 [.slice a126 (n123 + m126) c126] fun w_43 =>
      I b7_3 x10_0 (IntKind.i64.wrap (x9 + 1)) w_43 ∧ μ b7_3 x10_0 (IntKind.i64.wrap (x9 + 1)) w_43 < μ b7_2 x8 x9 w_10
    )
  ) (
    br b7_2 (
      Calls Try.prog 83 #[.pointer (some ⟨g, 0, none⟩)] w_11 fun e_15 w_44 => KeepG [] w_11 w_44 ∧
      ∃ (x133 : Int),
      e_15 = .returned (.int .i64 x133) ∧
      K (.tuple #[.pointer (some ⟨g_2, 0, none⟩), .bool (decide (x133 = 0))]) w_44
    ) (
      K (.tuple #[.pointer (some ⟨g_2, 0, none⟩), .bool false]) w_11
    )
  )
def rread17_notes : Notes := ⟨[(23, ⟨[0, 1, 3, 7, 15, 31, 63, 127, 63, 511, 1023, 2047, 4095, 8191, 4095, 20479, 53247, 118783, 262143, 524287, 1048575], [3], [0, 1, 2, 4, 5, 6, 7, 8, 9, 10, 11, 12, 13, 14, 15, 16, 17, 18, 19, 20]⟩), (25, ⟨[0, 0, 2, 6, 14, 0, 32, 126, 255, 511, 1023], [6, 7, 10], [0, 1, 2, 3, 4, 5, 8, 9]⟩)], [(8, ⟨[(7, .lf (.bool)), (8, .lf (.int .i64)), (9, .lf (.int .i64))], [], [41, 42, 43, 44, 45, 46, 47, 48, 49, 50, 53, 54, 55, 10, 56, 57, 58, 59, 60, 61, 62, 63, 64, 65, 66, 11, 12, 67, 68, 69, 70, 71, 72, 73, 74, 75, 76, 79, 80, 81, 13, 82, 83, 84, 85, 86, 87, 88, 89, 90, 91, 92, 93, 94, 95, 96, 77, 78, 97, 98, 99, 100, 101, 102, 103, 104, 105, 106, 107, 108, 109, 110, 111, 112, 113, 114, 115, 116, 7, 117, 118, 8, 119, 120, 121, 122, 123, 124, 125, 126, 127, 128, 51, 52, 9], [10, 13]⟩), (16, ⟨[(12, .lf (.int .i64))], [(10, [.int .i64, .int .i64, .int .i64, .int .i64, .slice])], [67, 68, 69, 70, 71, 72, 73, 74, 75, 76, 79, 80, 81, 13, 82, 83, 84, 85, 86, 87, 88, 89, 90, 91, 92, 93, 94, 95, 96, 77, 78, 12], [13, 10]⟩)], [((0, 5), ⟨[(7, .lf (.bool))], [], [28, 29, 30, 31, 32, 33, 34, 35, 36, 37, 38, 39, 40, 7], []⟩), ((0, 8), ⟨[(50, .lf (.bool))], [], [41, 42, 43, 44, 45, 46, 47, 48, 49, 50], []⟩), ((0, 16), ⟨[(76, .lf (.bool))], [], [67, 68, 69, 70, 71, 72, 73, 74, 75, 76], []⟩), ((0, 23), ⟨[(7, .lf (.bool))], [], [97, 98, 99, 100, 101, 102, 103, 104, 105, 106, 107, 108, 109, 110, 111, 112, 113, 114, 115, 116, 7], []⟩)]⟩
theorem rread17_calls (s0 : ByteArray) (w : World) (K : Value → World → Prop) (h : rread17_vc s0 w K) : Calls Try.prog 39 #[.string s0] w fun e w' => ∃ v, e = .returned v ∧ K v w' :=
  calls_of_fvc envOk Try.func39 rread17_notes [10, 13] [.string s0] w K (use_vc h (by as_aux_lemma => kernel_rfl))
/-- purser/purserlaw17.CreditReads -/
def creads_vc (a0 : Option Addr) (n0 : Nat) (c0 : Nat) (w : World) (K : Value → World → Prop) : Prop :=
  (0 : Int) ≤ min ((n0 : Nat) : Int) 1500 ∧ min ((n0 : Nat) : Int) 1500 ≤ (((c0 : Nat) : Int) : Int) ∧
  Calls Try.prog 38 #[.slice a0 ((min ((n0 : Nat) : Int) 1500).toNat) c0] w fun e w_2 => KeepG [] w w_2 ∧
  ∃ (p16_0 : Option Addr) (x16_1 : Int),
  e = .returned (.tuple #[.pointer p16_0, .int .i64 x16_1]) ∧
  ∃ bs21 : List UInt8, bs21.length = (min ((n0 : Nat) : Int) 1500).toNat ∧ RowAt w_2 a0 (bs21.map bV) ∧
  Calls Try.prog 39 #[.string (strOf bs21)] w_2 fun e_2 w_3 => KeepG [] w_2 w_3 ∧
  ∃ (p22_0 : Option Addr) (b22_1 : Bool),
  e_2 = .returned (.tuple #[.pointer p22_0, .bool b22_1]) ∧
  Calls Try.prog 12 #[] w_3 fun e_3 w_4 => KeepG [] w_3 w_4 ∧
  ∃ (b25 : Bool),
  e_3 = .returned (.bool b25) ∧
  br (!b25) (
    K (.bool false) w_4
  ) (
    br (decide ((decide (x16_1 = 0)) ≠ b22_1)) (
      K (.bool false) w_4
    ) (
      br (!b22_1) (
        br (decide (x16_1 = 2)) (
          K (.bool (Option.isNone p16_0)) w_4
        ) (
          K (.bool false) w_4
        )
      ) (
        Calls Try.prog 20 #[.pointer p16_0] w_4 fun e_4 w_5 => KeepG [] w_4 w_5 ∧
        ∃ (a43_0 : Option Addr) (n43_0 : Nat) (c43_0 : Nat) (x43_1 : Int),
        e_4 = .returned (.tuple #[.slice a43_0 n43_0 c43_0, .int .i64 x43_1]) ∧
        br (decide (x43_1 = 0)) (
          ∃ bs50 : List UInt8, bs50.length = n43_0 ∧ RowAt w_5 a43_0 (bs50.map bV) ∧
          ∃ bs52 : List UInt8, bs52.length = (min ((n0 : Nat) : Int) 1500).toNat ∧ RowAt w_5 a0 (bs52.map bV) ∧
          br (decide ((strOf bs50) = (strOf bs52))) (
            Calls Try.prog 25 #[.pointer p16_0, .pointer p22_0] w_5 fun e_5 w_6 => KeepG [] w_5 w_6 ∧
            ∃ (b58 : Bool),
            e_5 = .returned (.bool b58) ∧
            K (.bool b58) w_6
          ) (
            K (.bool false) w_5
          )
        ) (
          K (.bool false) w_5
        )
      )
    )
  )
def creads_notes : Notes := ⟨[], [], []⟩
theorem creads_calls (a0 : Option Addr) (n0 : Nat) (c0 : Nat) (w : World) (K : Value → World → Prop) (h : creads_vc a0 n0 c0 w K) : Calls Try.prog 7 #[.slice a0 n0 c0] w fun e w' => ∃ v, e = .returned v ∧ K v w' :=
  calls_of_fvc envOk Try.func7 creads_notes [] [.slice a0 n0 c0] w K (use_vc h (by as_aux_lemma => kernel_rfl))
end GCredR
end Go.Proofs.Ytamlgnhnmilbdaa
end
section
/- A table off any bytes, in plain lists. No program in sight. -/
namespace Go.Proofs.Ytamlgnhnmilbdaa
def F62 : Int := 4611686018427387904
/-- So many numbers further; the number there. -/
def rdk (bs : List UInt8) (e : Int) : Nat → List UInt8 × Int
  | 0 => (bs, e)
  | i + 1 => (rdUint F62 (rdk bs e i).1 (rdk bs e i).2).2
def rdkv (bs : List UInt8) (e : Int) (i : Nat) : Int := (rdUint F62 (rdk bs e i).1 (rdk bs e i).2).1
def rdG (bs : List UInt8) (e : Int) : Gr4 × List UInt8 × Int :=
  (⟨rdkv bs e 0, rdkv bs e 1, rdkv bs e 2, (rdFlag (rdk bs e 3).1 (rdk bs e 3).2).1⟩, (rdFlag (rdk bs e 3).1 (rdk bs e 3).2).2)
def rdGs (bs : List UInt8) (e : Int) : Nat → List Gr4 × List UInt8 × Int
  | 0 => ([], bs, e)
  | n + 1 => ((rdGs bs e n).1 ++ [(rdG (rdGs bs e n).2.1 (rdGs bs e n).2.2).1], (rdG (rdGs bs e n).2.1 (rdGs bs e n).2.2).2)
def rdM (bs : List UInt8) (e : Int) : Int × List UInt8 × Int := rdUint 4 (rdk bs e 4).1 (rdk bs e 4).2
def rdSes (bs : List UInt8) (e : Int) : Ses × List UInt8 × Int :=
  (⟨rdkv bs e 0, rdkv bs e 1, rdkv bs e 2, rdkv bs e 3, (rdGs (rdM bs e).2.1 (rdM bs e).2.2 (rdM bs e).1.toNat).1⟩, (rdGs (rdM bs e).2.1 (rdM bs e).2.2 (rdM bs e).1.toNat).2)
def rdSs (bs : List UInt8) (e : Int) : Nat → List Ses × List UInt8 × Int
  | 0 => ([], bs, e)
  | n + 1 => ((rdSs bs e n).1 ++ [(rdSes (rdSs bs e n).2.1 (rdSs bs e n).2.2).1], (rdSes (rdSs bs e n).2.1 (rdSs bs e n).2.2).2)
def tPl (bs : List UInt8) : Int := rdkv bs 0 0
def tLa (bs : List UInt8) : Int := rdkv bs 0 1
def rdN (bs : List UInt8) : Int × List UInt8 × Int := rdUint 16 (rdk bs 0 2).1 (rdk bs 0 2).2
def tSs (bs : List UInt8) : List Ses × List UInt8 × Int := rdSs (rdN bs).2.1 (rdN bs).2.2 (rdN bs).1.toNat
def TabOk (pl la : Int) (ss : List Ses) : Prop := (1 ≤ pl ∧ pl ≤ 16) ∧ (ss.length : Int) ≤ pl ∧ (∀ s ∈ ss, SesOk s ∧ s.id ≤ la) ∧ Ids ss
def TOk (bs : List UInt8) : Prop := TabOk (tPl bs) (tLa bs) (tSs bs).1 ∧ rdEnd (tSs bs).2.1 (tSs bs).2.2 = 0
theorem rdk_len (bs : List UInt8) (e : Int) : ∀ i, (rdk bs e i).1.length ≤ bs.length
  | 0 => Nat.le_refl _
  | i + 1 => Nat.le_trans (rdLenU _ _ _) (rdk_len bs e i)
theorem rdG_len (bs : List UInt8) (e : Int) : (rdG bs e).2.1.length ≤ bs.length := Nat.le_trans flag_len (rdk_len bs e 3)
theorem rdGs_len (bs : List UInt8) (e : Int) : ∀ n, (rdGs bs e n).2.1.length ≤ bs.length
  | 0 => Nat.le_refl _
  | n + 1 => Nat.le_trans (rdG_len _ _) (rdGs_len bs e n)
theorem rdGs_num (bs : List UInt8) (e : Int) : ∀ n, (rdGs bs e n).1.length = n
  | 0 => rfl
  | n + 1 => by simp [rdGs, rdGs_num bs e n]
theorem rdM_len (bs : List UInt8) (e : Int) : (rdM bs e).2.1.length ≤ bs.length := Nat.le_trans (rdLenU _ _ _) (rdk_len bs e 4)
theorem rdSes_len (bs : List UInt8) (e : Int) : (rdSes bs e).2.1.length ≤ bs.length := Nat.le_trans (rdGs_len _ _ _) (rdM_len bs e)
theorem rdSs_len (bs : List UInt8) (e : Int) : ∀ n, (rdSs bs e n).2.1.length ≤ bs.length
  | 0 => Nat.le_refl _
  | n + 1 => Nat.le_trans (rdSes_len _ _) (rdSs_len bs e n)
theorem rdSs_num (bs : List UInt8) (e : Int) : ∀ n, (rdSs bs e n).1.length = n
  | 0 => rfl
  | n + 1 => by simp [rdSs, rdSs_num bs e n]
theorem rdN_len (bs : List UInt8) : (rdN bs).2.1.length ≤ bs.length := Nat.le_trans (rdLenU _ _ _) (rdk_len bs 0 2)
theorem rdk_dead {bs : List UInt8} {e : Int} (h : e ≠ 0) : ∀ i, rdk bs e i = (bs, e)
  | 0 => rfl
  | i + 1 => by
    show (rdUint F62 (rdk bs e i).1 (rdk bs e i).2).2 = _
    rw [rdk_dead h i, dead_uint h]
theorem rdG_dead {bs : List UInt8} {e : Int} (h : e ≠ 0) : (rdG bs e).2 = (bs, e) := by
  show (rdFlag (rdk bs e 3).1 (rdk bs e 3).2).2 = _
  rw [rdk_dead h 3, dead_flag h]
theorem rdGs_dead {bs : List UInt8} {e : Int} (h : e ≠ 0) : ∀ n, (rdGs bs e n).2 = (bs, e)
  | 0 => rfl
  | n + 1 => by
    show (rdG (rdGs bs e n).2.1 (rdGs bs e n).2.2).2 = _
    rw [rdGs_dead h n, rdG_dead h]
theorem rdGs_add (bs : List UInt8) (e : Int) (i : Nat) : ∀ k, (rdGs bs e (i + k)).2 = (rdGs (rdGs bs e i).2.1 (rdGs bs e i).2.2 k).2
  | 0 => rfl
  | k + 1 => by
    show (rdG (rdGs bs e (i + k)).2.1 (rdGs bs e (i + k)).2.2).2 = (rdG (rdGs (rdGs bs e i).2.1 (rdGs bs e i).2.2 k).2.1 (rdGs (rdGs bs e i).2.1 (rdGs bs e i).2.2 k).2.2).2
    rw [rdGs_add bs e i k]
theorem rdGs_stop {bs : List UInt8} {e : Int} {i n : Nat} (h : (rdGs bs e i).2.2 ≠ 0) (hi : i ≤ n) : (rdGs bs e n).2 = (rdGs bs e i).2 := by
  rw [show n = i + (n - i) by omega, rdGs_add, rdGs_dead h]
theorem rdSes_dead {bs : List UInt8} {e : Int} (h : e ≠ 0) : (rdSes bs e).2 = (bs, e) := by
  have hm : (rdM bs e).2 = (bs, e) := by unfold rdM; rw [rdk_dead h 4, dead_uint h]
  show (rdGs (rdM bs e).2.1 (rdM bs e).2.2 _).2 = _
  rw [hm]
  exact rdGs_dead h _
theorem rdSs_dead {bs : List UInt8} {e : Int} (h : e ≠ 0) : ∀ n, (rdSs bs e n).2 = (bs, e)
  | 0 => rfl
  | n + 1 => by
    show (rdSes (rdSs bs e n).2.1 (rdSs bs e n).2.2).2 = _
    rw [rdSs_dead h n, rdSes_dead h]
theorem rdSs_add (bs : List UInt8) (e : Int) (i : Nat) : ∀ k, (rdSs bs e (i + k)).2 = (rdSs (rdSs bs e i).2.1 (rdSs bs e i).2.2 k).2
  | 0 => rfl
  | k + 1 => by
    show (rdSes (rdSs bs e (i + k)).2.1 (rdSs bs e (i + k)).2.2).2 = (rdSes (rdSs (rdSs bs e i).2.1 (rdSs bs e i).2.2 k).2.1 (rdSs (rdSs bs e i).2.1 (rdSs bs e i).2.2 k).2.2).2
    rw [rdSs_add bs e i k]
theorem rdSs_stop {bs : List UInt8} {e : Int} {i n : Nat} (h : (rdSs bs e i).2.2 ≠ 0) (hi : i ≤ n) : (rdSs bs e n).2 = (rdSs bs e i).2 := by
  rw [show n = i + (n - i) by omega, rdSs_add, rdSs_dead h]
theorem un_k1 {bs : List UInt8} {e : Int} {i : Nat} (h : (rdk bs e (i + 1)).2 = 0) : (rdk bs e i).2 = 0 ∧ In62 (rdkv bs e i) ∧ (rdk bs e i).1 = uintB (rdkv bs e i) ++ (rdk bs e (i + 1)).1 := by
  obtain ⟨h1, h2, h3, h4⟩ := un_uint (most := F62) h
  exact ⟨h1, ⟨h2, h3⟩, h4⟩
theorem un_G {bs : List UInt8} {e : Int} (h : (rdG bs e).2.2 = 0) : e = 0 ∧ bs = grB (rdG bs e).1 ++ (rdG bs e).2.1 := by
  obtain ⟨h1, h2⟩ := un_flag h
  obtain ⟨k1, _, k2⟩ := un_k1 (i := 2) h1
  obtain ⟨k3, _, k4⟩ := un_k1 (i := 1) k1
  obtain ⟨k5, _, k6⟩ := un_k1 (i := 0) k3
  refine ⟨k5, ?_⟩
  show bs = uintB (rdkv bs e 0) ++ uintB (rdkv bs e 1) ++ uintB (rdkv bs e 2) ++ flagB (rdFlag (rdk bs e 3).1 (rdk bs e 3).2).1 ++ (rdFlag (rdk bs e 3).1 (rdk bs e 3).2).2.1
  rw [List.append_assoc, ← h2, List.append_assoc, ← k2, List.append_assoc, ← k4, ← k6]
  rfl
theorem un_Gs {bs : List UInt8} {e : Int} : ∀ n, (rdGs bs e n).2.2 = 0 → e = 0 ∧ bs = (rdGs bs e n).1.flatMap grB ++ (rdGs bs e n).2.1
  | 0, h => ⟨h, by simp [rdGs]⟩
  | n + 1, h => by
    obtain ⟨h1, h2⟩ := un_G (bs := (rdGs bs e n).2.1) (e := (rdGs bs e n).2.2) h
    obtain ⟨h3, h4⟩ := un_Gs n h1
    refine ⟨h3, ?_⟩
    show bs = ((rdGs bs e n).1 ++ [(rdG (rdGs bs e n).2.1 (rdGs bs e n).2.2).1]).flatMap grB ++ (rdG (rdGs bs e n).2.1 (rdGs bs e n).2.2).2.1
    rw [List.flatMap_append, List.append_assoc]
    simp only [List.flatMap_cons, List.flatMap_nil, List.append_nil]
    rw [← h2]
    exact h4
theorem un_Ses {bs : List UInt8} {e : Int} (h : (rdSes bs e).2.2 = 0) : e = 0 ∧ bs = sesB (rdSes bs e).1 ++ (rdSes bs e).2.1 := by
  obtain ⟨h1, h2⟩ := un_Gs _ h
  obtain ⟨m1, m2, m3, m4⟩ := un_uint (most := 4) h1
  obtain ⟨k1, _, k2⟩ := un_k1 (i := 3) m1
  obtain ⟨k3, _, k4⟩ := un_k1 (i := 2) k1
  obtain ⟨k5, _, k6⟩ := un_k1 (i := 1) k3
  obtain ⟨k7, _, k8⟩ := un_k1 (i := 0) k5
  refine ⟨k7, ?_⟩
  have hn : ((rdGs (rdM bs e).2.1 (rdM bs e).2.2 (rdM bs e).1.toNat).1.length : Int) = (rdM bs e).1 := by rw [rdGs_num]; exact Int.toNat_of_nonneg m2
  show bs = (uintB (rdkv bs e 0) ++ uintB (rdkv bs e 1) ++ uintB (rdkv bs e 2) ++ uintB (rdkv bs e 3) ++ uintB ((rdGs (rdM bs e).2.1 (rdM bs e).2.2 (rdM bs e).1.toNat).1.length : Int)) ++ (rdGs (rdM bs e).2.1 (rdM bs e).2.2 (rdM bs e).1.toNat).1.flatMap grB ++ (rdGs (rdM bs e).2.1 (rdM bs e).2.2 (rdM bs e).1.toNat).2.1
  rw [hn, List.append_assoc, ← h2]
  simp only [List.append_assoc]
  have m4' : (rdk bs e 4).1 = uintB (rdM bs e).1 ++ (rdM bs e).2.1 := m4
  rw [← m4', ← k2, ← k4, ← k6, ← k8]
  rfl
theorem un_Ss {bs : List UInt8} {e : Int} : ∀ n, (rdSs bs e n).2.2 = 0 → e = 0 ∧ bs = (rdSs bs e n).1.flatMap sesB ++ (rdSs bs e n).2.1
  | 0, h => ⟨h, by simp [rdSs]⟩
  | n + 1, h => by
    obtain ⟨h1, h2⟩ := un_Ses (bs := (rdSs bs e n).2.1) (e := (rdSs bs e n).2.2) h
    obtain ⟨h3, h4⟩ := un_Ss n h1
    refine ⟨h3, ?_⟩
    show bs = ((rdSs bs e n).1 ++ [(rdSes (rdSs bs e n).2.1 (rdSs bs e n).2.2).1]).flatMap sesB ++ (rdSes (rdSs bs e n).2.1 (rdSs bs e n).2.2).2.1
    rw [List.flatMap_append, List.append_assoc]
    simp only [List.flatMap_cons, List.flatMap_nil, List.append_nil]
    rw [← h2]
    exact h4
theorem un_Tab {bs : List UInt8} (h : TOk bs) : bs = tabB (tPl bs) (tLa bs) (tSs bs).1 ∧ In62 (tPl bs) ∧ In62 (tLa bs) := by
  obtain ⟨_, h⟩ := h
  obtain ⟨h1, h2⟩ := end_zero h
  obtain ⟨h3, h4⟩ := un_Ss _ h1
  obtain ⟨m1, m2, m3, m4⟩ := un_uint (most := 16) h3
  obtain ⟨k5, k9, k6⟩ := un_k1 (i := 1) m1
  obtain ⟨k7, k10, k8⟩ := un_k1 (i := 0) k5
  refine ⟨?_, k10, k9⟩
  have hn : ((tSs bs).1.length : Int) = (rdN bs).1 := by unfold tSs; rw [rdSs_num]; exact Int.toNat_of_nonneg m2
  have h4' : (rdN bs).2.1 = (tSs bs).1.flatMap sesB ++ (tSs bs).2.1 := h4
  have m4' : (rdk bs 0 2).1 = uintB (rdN bs).1 ++ (rdN bs).2.1 := m4
  rw [h2, List.append_nil] at h4'
  unfold tabB tabHd
  rw [hn, ← h4']
  simp only [List.append_assoc]
  rw [← m4']
  show bs = uintB (rdkv bs 0 0) ++ (uintB (rdkv bs 0 1) ++ (rdk bs 0 2).1)
  rw [← k6, ← k8]
  rfl
end Go.Proofs.Ytamlgnhnmilbdaa
end
section
/- A session is read off any bytes; walked. -/
namespace Go.Proofs.Ytamlgnhnmilbdaa
open Go.RowKit
theorem RP.flag {w0 w : World} {L : List Nat} {g : Nat} {bs : List UInt8} {e : Int} (h : RP w0 L w g bs e) {gs : List Nat} {R : Ending → World → Prop} (hg : ∀ x ∈ gs, x ∉ L)
    (k : ∀ w1, RP w0 L w1 g (rdFlag bs e).2.1 (rdFlag bs e).2.2 → Fr L w w1 → R (.returned (.bool (rdFlag bs e).1)) w1) :
    Calls Try.prog 96 #[.pointer (some ⟨g, 0, none⟩)] w fun r w1 => KeepG gs w w1 ∧ R r w1 :=
  (rFlag_any g bs e L w h.at').mono (by
    rintro r w1 ⟨rfl, h1, f1, _⟩
    exact ⟨keepG_fr f1 hg, k w1 ⟨h1, h.fr.trans f1 (Gr.refl _ _), h.un⟩ f1⟩)
def upK (bs : List UInt8) (e : Int) (i j : Nat) : Value := .int .i64 (if j < i then rdkv bs e j else 0)
set_option maxRecDepth 20000 in
theorem session_any {w : World} {L : List Nat} {gr : Nat} (bs : List UInt8) (e : Int) (h : RdAt w L gr bs e) (hl : bs.length ≤ 100000000) :
    Calls Try.prog 85 #[.pointer (some ⟨gr, 0, none⟩)] w fun r w' => ∃ v, r = .returned v ∧ ∃ a c, v = sesV (rdSes bs e).1 a c ∧ Rws g4Cells 4 w.heap.size w' a (rdSes bs e).1.gs ∧ (rdSes bs e).1.gs.length ≤ c ∧ (rdSes bs e).1.gs.length ≤ 4 ∧ RdAt w' L gr (rdSes bs e).2.1 (rdSes bs e).2.2 ∧ Fr L w w' := by
  refine GCredB.session_calls (some ⟨gr, 0, none⟩) w (fun v w' => ∃ a c, v = sesV (rdSes bs e).1 a c ∧ Rws g4Cells 4 w.heap.size w' a (rdSes bs e).1.gs ∧ (rdSes bs e).1.gs.length ≤ c ∧ (rdSes bs e).1.gs.length ≤ 4 ∧ RdAt w' L gr (rdSes bs e).2.1 (rdSes bs e).2.2 ∧ Fr L w w') ?_
  unfold GCredB.session_vc
  have hu := h.under
  refine newB (Bs.refl w) fun g w2 g0 sg n2 z2 b2 B2 => newB B2 fun g2 w3 g20 sg2 n3 z3 b3 B3 => newB B3 fun g3' w4 g30 sg3 n4 z4 b4 B4 => ?_
  have nL : ∀ x, w.heap.size ≤ x → x ∉ L := fun x hx hm => by have := hu x hm; omega
  have kg : ∀ x ∈ [g], x ∉ L := fun x hx => by rw [List.mem_singleton] at hx; subst hx; exact nL _ g0
  have R4 : RP w L w4 gr bs e := (((RP.start h).below b2).below b3).below b4
  refine ⟨fun x wx => ∃ i : Nat, x = i ∧ i ≤ 4 ∧ RP w L wx gr (rdk bs e i).1 (rdk bs e i).2 ∧ Bk wx g2 #[upK bs e i 0, upK bs e i 1, upK bs e i 2, upK bs e i 3, .slice none 0 0] 33 ∧ wx.heap[g3']? = w4.heap[g3']? ∧ w4.heap.size ≤ wx.heap.size, fun x _ => 4 - x.toNat, ⟨0, rfl, by omega, R4, Bk.keep (show Bk w3 g2 _ 33 from n3) (b4.block g2 (by omega)), rfl, by omega⟩, ?_⟩
  rintro x wx ⟨i, rfl, hi, hR, hB, h3, hsz⟩
  have hlen := rdk_len bs e i
  refine br_dec (fun hlt => ?_) fun hge => ?_
  · have hi4 : i < 4 := by omega
    refine ⟨by omega, by omega, some ⟨g2, i, none⟩, ?_, hR.uint 4611686018427387904 (by decide) (by decide) (by omega) kg fun w6 R6 f6 z6 => ⟨_, rfl, ?_⟩⟩
    · rw [Int.toNat_natCast, Nat.zero_add, Nat.mul_one, cell_of_row _ _ _ _ _ _ (h3.trans n4)]
      rcases lt4' hi4 with rfl | rfl | rfl | rfl <;> rfl
    have hB6 := hB.keep (f6.block g2 (by omega) (nL g2 (by omega)))
    refine stO_bk hB6 (by simp; omega) (fun x hx => by rw [List.mem_singleton] at hx; omega) fun w7 B7 f7 z7 => ?_
    rw [wr64 (by omega) (by omega)]
    refine ⟨⟨i + 1, by omega, by omega, R6.st f7 (nL g2 (by omega)) g20, ?_, ?_, by omega⟩, by dsimp only; omega⟩
    · have : (#[upK bs e i 0, upK bs e i 1, upK bs e i 2, upK bs e i 3, .slice none 0 0] : Array Value).setIfInBounds i (.int .i64 (rdUint 4611686018427387904 (rdk bs e i).1 (rdk bs e i).2).1) = #[upK bs e (i + 1) 0, upK bs e (i + 1) 1, upK bs e (i + 1) 2, upK bs e (i + 1) 3, .slice none 0 0] := by
        rcases lt4' hi4 with rfl | rfl | rfl | rfl <;> rfl
      rw [← this]; exact B7
    · exact ((f7.block g3' (by omega) (by rw [List.mem_singleton]; omega)).trans (f6.block g3' (by omega) (nL g3' (by omega)))).trans h3
  obtain rfl : i = 4 := by omega
  have hml := rdM_len bs e
  have hm0 := rdUint_range 4 (rdk bs e 4).1 (rdk bs e 4).2
  have hm4 := uint_le (most := 4) (bs := (rdk bs e 4).1) (e := (rdk bs e 4).2) (by decide)
  refine hR.uint 4 (by decide) (by decide) (by omega) kg fun w8 R8 f8 z8 => ⟨_, rfl, ?_⟩
  have R8 : RP w L w8 gr (rdM bs e).2.1 (rdM bs e).2.2 := R8
  have hS : (rdSes bs e).1 = ⟨rdkv bs e 0, rdkv bs e 1, rdkv bs e 2, rdkv bs e 3, (rdGs (rdM bs e).2.1 (rdM bs e).2.2 (rdM bs e).1.toNat).1⟩ := rfl
  have hS2 : (rdSes bs e).2 = (rdGs (rdM bs e).2.1 (rdM bs e).2.2 (rdM bs e).1.toNat).2 := rfl
  rw [hS, hS2]
  clear hS hS2
  have hB8 : Bk w8 g2 #[.int .i64 (rdkv bs e 0), .int .i64 (rdkv bs e 1), .int .i64 (rdkv bs e 2), .int .i64 (rdkv bs e 3), .slice none 0 0] 33 := hB.keep (f8.block g2 (by omega) (nL g2 (by omega)))
  have en : (rdUint 4 (rdk bs e 4).1 (rdk bs e 4).2).1 = (rdM bs e).1 := rfl
  rw [en] at hm0 hm4 ⊢
  clear en
  generalize rdM bs e = mm at *
  obtain ⟨n, B, E⟩ := mm
  generalize rdkv bs e 0 = v0 at *
  generalize rdkv bs e 1 = v1 at *
  generalize rdkv bs e 2 = v2 at *
  generalize rdkv bs e 3 = v3 at *
  dsimp only at *
  refine ⟨fun x wx => ∃ i : Nat, x = i ∧ (i : Int) ≤ n ∧ ∃ a c, RP w L wx gr (rdGs B E i).2.1 (rdGs B E i).2.2 ∧ Bk wx g2 #[.int .i64 v0, .int .i64 v1, .int .i64 v2, .int .i64 v3, .slice a i c] 33 ∧ Own wx w8.heap.size 115 4 (.slice a i c) i ((rdGs B E i).1.flatMap g4Cells) ∧ w8.heap.size ≤ wx.heap.size, fun x _ => n.toNat - x.toNat, ⟨0, rfl, by omega, none, 0, R8, hB8, Own.nil _ _ _ _, by omega⟩, ?_⟩
  rintro x wx ⟨i, rfl, hi, a, c, hR, hB, hO, hsz⟩
  have klt := fun k hk => hO.lt k hk
  have kLn : ∀ k ∈ L, k < w8.heap.size := fun k hk => by have := hu k hk; omega
  have hgl := rdGs_len B E i
  refine br_dec (fun hlt => ?_) fun hge => ?_
  · have hnext : rdGs B E (i + 1) = ((rdGs B E i).1 ++ [(rdG (rdGs B E i).2.1 (rdGs B E i).2.2).1], (rdG (rdGs B E i).2.1 (rdGs B E i).2.2).2) := rfl
    have hq : rdG (rdGs B E i).2.1 (rdGs B E i).2.2 = (⟨rdkv (rdGs B E i).2.1 (rdGs B E i).2.2 0, rdkv (rdGs B E i).2.1 (rdGs B E i).2.2 1, rdkv (rdGs B E i).2.1 (rdGs B E i).2.2 2, (rdFlag (rdk (rdGs B E i).2.1 (rdGs B E i).2.2 3).1 (rdk (rdGs B E i).2.1 (rdGs B E i).2.2 3).2).1⟩, (rdFlag (rdk (rdGs B E i).2.1 (rdGs B E i).2.2 3).1 (rdk (rdGs B E i).2.1 (rdGs B E i).2.2 3).2).2) := rfl
    rw [hq] at hnext
    clear hq
    generalize (rdGs B E i).2.1 = b1 at *
    generalize (rdGs B E i).2.2 = e1 at *
    refine newO_in fun w10 n10 b10 s10 => newO_in fun w11 n11 b11 s11 => ?_
    have R11 := (hR.below b10).below b11
    have O11 := (hO.below b10 (Nat.le_refl _)).below b11 (Nat.le_refl _)
    have hB11 := (hB.keep (b10.block g2 (by omega))).keep (b11.block g2 (by omega))
    refine ⟨fun x wy => ∃ j : Nat, x = j ∧ j ≤ 3 ∧ RP w L wy gr (rdk b1 e1 j).1 (rdk b1 e1 j).2 ∧ Bk wy wx.heap.size #[upK b1 e1 j 0, upK b1 e1 j 1, upK b1 e1 j 2, .bool false] 115 ∧ wy.heap[w10.heap.size]? = w11.heap[w10.heap.size]? ∧ Bk wy g2 #[.int .i64 v0, .int .i64 v1, .int .i64 v2, .int .i64 v3, .slice a i c] 33 ∧ Own wy w8.heap.size 115 4 (.slice a i c) i ((rdGs B E i).1.flatMap g4Cells) ∧ w11.heap.size ≤ wy.heap.size, fun x _ => 3 - x.toNat,
      ⟨0, rfl, by omega, R11, Bk.keep (show Bk w10 wx.heap.size _ 115 from n10) (b11.block _ (by omega)), rfl, hB11, O11, by omega⟩, ?_⟩
    have ownNe : ∀ k, (Value.slice a i c).ownBlock = some k → k ≠ wx.heap.size := fun k hk => by have := (klt k hk).2; omega
    clear hR hB
    rintro x wy ⟨j, rfl, hj, hR, hQ, hp, hB, hO, hsy⟩
    have hlj := rdk_len b1 e1 j
    refine br_dec (fun hltj => ?_) fun hgej => ?_
    · have hj3 : j < 3 := by omega
      refine ⟨by omega, by omega, some ⟨wx.heap.size, j, none⟩, ?_, hR.uint 4611686018427387904 (by decide) (by decide) (by omega) kg fun w13 R13 f13 z13 => ⟨_, rfl, ?_⟩⟩
      · rw [Int.toNat_natCast, Nat.zero_add, Nat.mul_one, cell_of_row _ _ _ _ _ _ (hp.trans n11)]
        rcases lt3' hj3 with rfl | rfl | rfl <;> rfl
      have hQ13 := hQ.keep (f13.block wx.heap.size (by omega) (nL _ (by omega)))
      refine stO_bk hQ13 (by simp; omega) (fun x hx => by rw [List.mem_singleton] at hx; omega) fun w14 B14 f14 z14 => ?_
      rw [wr64 (by omega) (by omega)]
      refine ⟨⟨j + 1, by omega, by omega, R13.st f14 (nL _ (by omega)) (by omega), ?_, ?_, ?_, ?_, by omega⟩, by dsimp only; omega⟩
      · have : (#[upK b1 e1 j 0, upK b1 e1 j 1, upK b1 e1 j 2, .bool false] : Array Value).setIfInBounds j (.int .i64 (rdUint 4611686018427387904 (rdk b1 e1 j).1 (rdk b1 e1 j).2).1) = #[upK b1 e1 (j + 1) 0, upK b1 e1 (j + 1) 1, upK b1 e1 (j + 1) 2, .bool false] := by
          rcases lt3' hj3 with rfl | rfl | rfl <;> rfl
        rw [← this]; exact B14
      · exact ((f14.block w10.heap.size (by omega) (by rw [List.mem_singleton]; omega)).trans (f13.block w10.heap.size (by omega) (nL _ (by omega)))).trans hp
      · exact (hB.keep (f13.block g2 (by omega) (nL g2 g20))).keep (f14.block g2 (by omega) (by rw [List.mem_singleton]; omega))
      · have o13 := own_fr' hO f13 kLn
        exact o13.keep fun k hk => f14.block k (o13.lt k hk).2 (by rw [List.mem_singleton]; exact ownNe k hk)
    obtain rfl : j = 3 := by omega
    refine hR.flag kg fun w15 R15 f15 => ⟨_, rfl, ?_⟩
    have z15 := f15.size
    have hQ15 := hQ.keep (f15.block wx.heap.size (by omega) (nL _ (by omega)))
    refine stO_bk hQ15 (by simp) (fun x hx => by rw [List.mem_singleton] at hx; omega) fun w16 B16 f16 z16 => ?_
    have B16 : Bk w16 wx.heap.size #[.int .i64 (rdkv b1 e1 0), .int .i64 (rdkv b1 e1 1), .int .i64 (rdkv b1 e1 2), .bool (rdFlag (rdk b1 e1 3).1 (rdk b1 e1 3).2).1] 115 := B16
    have R16 := R15.st f16 (nL _ (by omega)) (by omega)
    have hB16 := (hB.keep (f15.block g2 (by omega) (nL g2 g20))).keep (f16.block g2 (by omega) (by rw [List.mem_singleton]; omega))
    have o15 := own_fr' hO f15 kLn
    have o16 : Own w16 w8.heap.size 115 4 (.slice a i c) i ((rdGs B E i).1.flatMap g4Cells) := o15.keep fun k hk => f16.block k (o15.lt k hk).2 (by rw [List.mem_singleton]; exact ownNe k hk)
    refine ⟨a, i, c, by rw [hB16.cell]; rfl, rdkv b1 e1 0, rdkv b1 e1 1, rdkv b1 e1 2, (rdFlag (rdk b1 e1 3).1 (rdk b1 e1 3).2).1, cellsAt_row B16 (by simp), newO_in fun w17 n17 b17 s17 => ?_⟩
    have O17 := o16.below b17 (Nat.le_refl _)
    have R17 := R16.below b17
    have hB17 := hB16.keep (b17.block g2 (by omega))
    have klt17 := fun k hk => O17.lt k hk
    refine ⟨1, _, _, O17.base_le fun _ _ => Nat.zero_le _, src_block (n := 1) (size := 4) Try.underlying31 n17 rfl rfl, by unfold maxLen; omega, by omega, fun x hx e => ?_, fun a' c' w18 o18 g18 or18 _ => ?_⟩
    · have := klt17 _ e
      simp only [List.mem_cons, List.not_mem_nil, or_false] at hx
      omega
    have z18 := g18.size
    have o18' : Own w18 w8.heap.size 115 4 (.slice a' (i + 1) c') (i + 1) ((rdGs B E i).1.flatMap g4Cells ++ g4Cells ⟨rdkv b1 e1 0, rdkv b1 e1 1, rdkv b1 e1 2, (rdFlag (rdk b1 e1 3).1 (rdk b1 e1 3).2).1⟩) := o18.base_le fun k hk => by
      rcases or18 with q | ⟨y, q, hy⟩
      · rw [q] at hk; exact (klt17 k hk).1
      · rw [q] at hk; injection hk with hk; omega
    have R18 := R17.grown g18 fun k hk => ⟨nL k (by have := klt17 k hk; omega), by have := klt17 k hk; omega⟩
    have hB18 := hB17.keep (g18.block g2 (by have := hB17.lt; omega) fun h => by have := klt17 g2 h.symm; omega)
    refine stO_bk hB18 (by simp) (fun x hx => by rw [List.mem_singleton] at hx; omega) fun w19 B19 f19 z19 => ?_
    rw [wr64 (by omega) (by omega)]
    refine ⟨⟨i + 1, by omega, by omega, a', c', ?_, B19, ?_, by omega⟩, by dsimp only; omega⟩
    · rw [hnext]; exact R18.st f19 (nL g2 g20) g20
    · rw [hnext, List.flatMap_append]
      have := own_fr' o18' f19 fun k hk => by rw [List.mem_singleton] at hk; omega
      simpa using this
  · have hin : i = n.toNat := by omega
    have hln := rdGs_num B E i
    rw [← hin]
    refine ⟨v0, v1, v2, v3, a, i, c, cellsAt_row hB (by simp), fun w20 h20 => ?_⟩
    have R20 := hR.box h20 (nL g g0) g0
    have hRw : Rws g4Cells 4 w8.heap.size wx a (rdGs B E i).1 := Rws.ofOwn (by decide) g4_len hO
    refine ⟨a, c, ?_, (hRw.box h20 (by omega)).low (by omega), by rw [hln]; exact hO.cap.1, by rw [hln]; omega, R20.at', R20.fr⟩
    unfold sesV; dsimp only; rw [hln]
end Go.Proofs.Ytamlgnhnmilbdaa
end
section
/- A table is read off any bytes; walked. -/
namespace Go.Proofs.Ytamlgnhnmilbdaa
open Go.RowKit
theorem tabOk_init {pl la : Int} {es : List Ses} {s : Ses} (h : TabOk pl la (es ++ [s])) : TabOk pl la es := by
  obtain ⟨h1, h2, h3, h4⟩ := h
  rw [List.length_append, List.length_singleton] at h2
  refine ⟨h1, by omega, fun t ht => h3 t (by simp [ht]), fun i j t u hij hi hj => h4 i j t u hij ?_ ?_⟩
  · rw [List.getElem?_append_left (List.getElem?_eq_some_iff.1 hi).1]; exact hi
  · rw [List.getElem?_append_left (List.getElem?_eq_some_iff.1 hj).1]; exact hj
theorem tabOk_snoc {pl la lx : Int} {es : List Ses} {s : Ses} (hx : lx = 0 ∨ ∃ t ∈ es, t.id = lx) (hm : ∀ t ∈ es, t.id ≤ lx) :
    TabOk pl la (es ++ [s]) ↔ TabOk pl la es ∧ (SesOk s ∧ lx < s.id ∧ (es.length : Int) < pl) ∧ s.id ≤ la := by
  constructor
  · intro h
    have h0 := tabOk_init h
    obtain ⟨h1, h2, h3, h4⟩ := h
    rw [List.length_append, List.length_singleton] at h2
    obtain ⟨k1, k2⟩ := h3 s (by simp)
    refine ⟨h0, ⟨k1, ?_, by omega⟩, k2⟩
    rcases hx with rfl | ⟨t, ht, rfl⟩
    · have := k1.1.1; omega
    · obtain ⟨i, hi, he⟩ := List.getElem_of_mem ht
      refine h4 i es.length t s hi ?_ ?_
      · rw [List.getElem?_append_left hi, List.getElem?_eq_getElem hi, he]
      · rw [List.getElem?_append_right (Nat.le_refl _)]; simp
  · rintro ⟨⟨h1, h2, h3, h4⟩, ⟨k1, k2, k3⟩, k4⟩
    refine ⟨h1, by rw [List.length_append, List.length_singleton]; omega, fun t ht => ?_, fun i j t u hij hi hj => ?_⟩
    · rcases List.mem_append.1 ht with ht | ht
      · exact h3 t ht
      · rw [List.mem_singleton] at ht; subst ht; exact ⟨k1, k4⟩
    · have hjl := (List.getElem?_eq_some_iff.1 hj).1
      rw [List.length_append, List.length_singleton] at hjl
      rw [List.getElem?_append_left (by omega)] at hi
      by_cases hj2 : j < es.length
      · rw [List.getElem?_append_left hj2] at hj
        exact h4 i j t u hij hi hj
      · obtain rfl : j = es.length := by omega
        rw [List.getElem?_append_right (Nat.le_refl _)] at hj
        simp at hj
        subst hj
        have := hm t (List.mem_of_getElem? hi)
        omega
theorem addE_iff (pl lx : Int) (es : List Ses) (s : Ses) : addE pl lx es s = 0 ↔ SesOk s ∧ lx < s.id ∧ (es.length : Int) < pl := by
  unfold addE
  constructor
  · intro h
    split at h
    · cases h
    · rename_i h1
      split at h
      · cases h
      · split at h
        · cases h
        · exact ⟨Decidable.not_not.1 h1, by omega, by omega⟩
  · rintro ⟨h1, h2, h3⟩
    rw [if_neg (fun k => k h1), if_neg (by omega), if_neg (by omega)]
set_option maxRecDepth 20000 in
theorem readT_any {w : World} (bs : List UInt8) (hl : bs.length ≤ 100000000) (a : Option Addr) (c : Nat) (hr : RowAt w a (bs.map bV)) :
    Calls Try.prog 38 #[.slice a bs.length c] w fun e w' => ((TOk bs → ∃ u L, e = .returned (.tuple #[.pointer (some ⟨u, 0, none⟩), .int .i64 0]) ∧ TabAt w' L u (tPl bs) (tLa bs) (tSs bs).1 ∧ From w.heap.size L) ∧ (¬ TOk bs → e = .returned (.tuple #[.pointer none, .int .i64 2]))) ∧ Below w.heap.size w w' := by
  refine (GCredB.cread_calls a bs.length c w (fun v w' => ((TOk bs → ∃ u L, v = .tuple #[.pointer (some ⟨u, 0, none⟩), .int .i64 0] ∧ TabAt w' L u (tPl bs) (tLa bs) (tSs bs).1 ∧ From w.heap.size L) ∧ (¬ TOk bs → v = .tuple #[.pointer none, .int .i64 2])) ∧ Below w.heap.size w w') ?_).mono (by
    rintro e w' ⟨v, rfl, ⟨h1, h2⟩, h3⟩
    refine ⟨⟨fun k => ?_, fun k => by rw [h2 k]⟩, h3⟩
    obtain ⟨u, L, rfl, h⟩ := h1 k
    exact ⟨u, L, rfl, h⟩)
  unfold GCredB.cread_vc
  refine (cRead_any a c bs w hr (by omega)).mono ?_
  rintro r w2 ⟨gr, L, rfl, hR2, hF, b2⟩
  have B2 : Bs w w2 := b2
  have b2s := b2.size
  have hu := hR2.under
  have R2 : RP w2 L w2 gr bs 0 := RP.start hR2
  have no : ∀ x ∈ ([] : List Nat), x ∉ L := fun x hx => by cases hx
  have nL : ∀ x, w2.heap.size ≤ x → x ∉ L := fun x hx hm => by have := hu x hm; omega
  have l1 := rdk_len bs 0 1
  have l2 := rdk_len bs 0 2
  refine ⟨keepG_below b2, _, rfl, R2.uint 4611686018427387904 (by decide) (by decide) hl no fun w3 R3 f3 z3 => ⟨_, rfl, newO_in fun w4 n4 b4 s4' => ?_⟩⟩
  have R4 : RP w2 L w4 gr (rdk bs 0 1).1 (rdk bs 0 1).2 := R3.below b4
  refine R4.uint 4611686018427387904 (by decide) (by decide) (by omega) no fun w5 R5 f5 z5 => ⟨_, rfl, ?_⟩
  have R5 : RP w2 L w5 gr (rdk bs 0 2).1 (rdk bs 0 2).2 := R5
  have ePl : (rdUint 4611686018427387904 bs 0).1 = tPl bs := rfl
  have eLa : (rdUint 4611686018427387904 (rdk bs 0 1).1 (rdk bs 0 1).2).1 = tLa bs := rfl
  rw [ePl] at n4
  rw [eLa]
  clear ePl eLa
  have g3n : ∀ x, w3.heap.size ≤ x → x ∉ L := fun x hx => nL x (by omega)
  have T4 : TabAt w4 [w3.heap.size] w3.heap.size (tPl bs) 0 [] := ⟨⟨.slice none 0 0, [], [], n4, Own.nil _ _ _ _, ElsOk.nil, (fun k hk => by cases hk), fun k hk => by simp [Value.ownBlock] at hk⟩, by simp, fun k hk => by rw [List.mem_singleton] at hk; omega⟩
  have ap4 : Apart [w3.heap.size] L := fun k k1 => by rw [List.mem_singleton] at k1; subst k1; exact g3n _ (Nat.le_refl _)
  have T5 := T4.fr sesR f5 ap4
  obtain ⟨kv5, xs5, M5, raw5⟩ := T5.raw 0
  refine ⟨tPl bs, (tab_cell raw5).1, (within_any (tPl bs) 1 16 w5).mono ?_⟩
  rintro r w6 ⟨rfl, rfl⟩
  have hn0 := rdUint_range 16 (rdk bs 0 2).1 (rdk bs 0 2).2
  have hn16 := uint_le (most := 16) (bs := (rdk bs 0 2).1) (e := (rdk bs 0 2).2) (by decide)
  have hnl := rdN_len bs
  refine ⟨fun _ _ _ => rfl, _, rfl, R5.uint 16 (by decide) (by decide) (by omega) no fun w7 R7 f7 z7 => ⟨_, rfl, ?_⟩⟩
  have T7 := T5.fr sesR f7 ap4
  have R7 : RP w2 L w7 gr (rdN bs).2.1 (rdN bs).2.2 := R7
  have eN : (rdUint 16 (rdk bs 0 2).1 (rdk bs 0 2).2).1 = (rdN bs).1 := rfl
  rw [eN] at hn0 hn16 ⊢
  clear eN
  have hTO : TOk bs ↔ TabOk (tPl bs) (tLa bs) (rdSs (rdN bs).2.1 (rdN bs).2.2 (rdN bs).1.toNat).1 ∧ rdEnd (rdSs (rdN bs).2.1 (rdN bs).2.2 (rdN bs).1.toNat).2.1 (rdSs (rdN bs).2.1 (rdN bs).2.2 (rdN bs).1.toNat).2.2 = 0 := Iff.rfl
  have hTS : (tSs bs).1 = (rdSs (rdN bs).2.1 (rdN bs).2.2 (rdN bs).1.toNat).1 := rfl
  rw [hTO, hTS]
  clear hTO hTS
  generalize rdN bs = nn at *
  obtain ⟨n, B, E⟩ := nn
  generalize tPl bs = pl at *
  generalize tLa bs = la at *
  dsimp only at *
  refine ⟨fun b x wx => ∃ i : Nat, x = i ∧ (i : Int) ≤ n ∧ RP w2 L wx gr (rdSs B E i).2.1 (rdSs B E i).2.2 ∧ (∃ lx LT es', TabAt wx LT w3.heap.size pl lx es' ∧ From w3.heap.size LT ∧ (b = true → es' = (rdSs B E i).1 ∧ TabOk pl la es' ∧ (lx = 0 ∨ ∃ t ∈ es', t.id = lx) ∧ ∀ t ∈ es', t.id ≤ lx)) ∧ (b = false → ¬ TabOk pl la (rdSs B E i).1) ∧ w7.heap.size ≤ wx.heap.size, fun _ x _ => n.toNat - x.toNat,
    ⟨0, rfl, by omega, R7, ⟨0, [w3.heap.size], [], T7, (fun k hk => by rw [List.mem_singleton] at hk; omega), fun hb => ⟨rfl, ⟨of_decide_eq_true hb, by have := of_decide_eq_true hb; simp; omega, (fun s hs => by cases hs), fun i j s t _ h => by cases h⟩, .inl rfl, fun t ht => by cases ht⟩⟩, fun hb k => (of_decide_eq_false hb) k.1, by omega⟩, ?_⟩
  rintro b x wx ⟨i, rfl, hi, hR, ⟨lx, LT, es', hT, hLT, hbt⟩, hbf, hsz⟩
  have apT : Apart LT L := fun k hk => g3n k (hLT k hk)
  have hsl := rdSs_len B E i
  have hfs := hR.fr.size
  refine br_dec (fun hlt => ?_) fun hge => ?_
  · have hnext : rdSs B E (i + 1) = ((rdSs B E i).1 ++ [(rdSes (rdSs B E i).2.1 (rdSs B E i).2.2).1], (rdSes (rdSs B E i).2.1 (rdSs B E i).2.2).2) := rfl
    refine (session_any _ _ hR.at' (by omega)).mono ?_
    rintro r w9 ⟨v, rfl, a9, c9, rfl, hg9, hc9, hgl, hR9, f9⟩
    have z9 := f9.size
    have T9 := hT.fr sesR f9 apT
    have R9 : RP w2 L w9 gr (rdSs B E (i + 1)).2.1 (rdSs B E (i + 1)).2.2 := ⟨hR9, hR.fr.trans f9 (Gr.refl _ _), hR.un⟩
    have hs1 : (rdSs B E (i + 1)).1 = (rdSs B E i).1 ++ [(rdSes (rdSs B E i).2.1 (rdSs B E i).2.2).1] := rfl
    clear hnext hR9
    generalize (rdSes (rdSs B E i).2.1 (rdSs B E i).2.2).1 = s at *
    refine ⟨keepG_fr f9 no, s.id, s.node, s.num, s.dl, a9, s.gs.length, c9, rfl, newO_in fun w10 n10 b10 s10 w11 h11 => ?_⟩
    have z11 := h11.2
    have R11 := (R9.below b10).box h11 (nL _ (by omega)) (by omega)
    have lt9 := T9.under
    have T11 : TabAt w11 LT w3.heap.size pl lx es' := T9.keep sesR (fun k hk => (h11.1.block k (by have := lt9 k hk; omega) (by rw [List.mem_singleton]; have := lt9 k hk; omega)).trans (b10.block k (lt9 k hk))) (by omega)
    have g11 := gr_at (hg9.newbox b10 rfl h11)
    cases b with
    | false =>
      refine br_f rfl ?_
      rw [wr64 (by omega) (by omega)]
      exact ⟨⟨i + 1, by omega, by omega, R11, ⟨lx, LT, es', T11, hLT, fun h => by cases h⟩, fun _ h => hbf rfl (tabOk_init (by rw [← hs1]; exact h)), by omega⟩, by dsimp only; omega⟩
    | true =>
      obtain ⟨rfl, hok, hx, hm⟩ := hbt rfl
      have hsn := tabOk_snoc (pl := pl) (la := la) (s := s) hx hm
      rw [← hs1] at hsn
      refine br_t rfl ((add_code T11 hok.2.1 hok.1.2 s a9 c9 g11 hc9 (by omega)).mono ?_)
      rintro r w12 ⟨L12, T12, rfl, f12, gr12⟩
      have z12 := f12.size
      have hF12 : From w3.heap.size L12 := fun k hk => by
        rcases gr12 k hk with q | q
        · exact hLT k q
        · omega
      have R12 := R11.other f12 (fun k hk => ⟨apT k hk, by have := hLT k hk; omega⟩)
      refine ⟨keepG_fr f12 (fun x hx hm => by rw [List.mem_singleton] at hx; subst hx; have := lt9 _ hm; omega), _, rfl, br_dec (fun he => ?_) fun he => ?_⟩
      · have hc := (addE_iff _ _ _ _).1 he
        have e2 : addLa pl lx (rdSs B E i).1 s = s.id := by unfold addLa; rw [if_pos hc]
        have e3 : addEs pl lx (rdSs B E i).1 s = (rdSs B E (i + 1)).1 := by unfold addEs; rw [if_pos hc, hs1]
        rw [e2, e3] at T12
        rw [wr64 (by omega) (by omega)]
        refine ⟨⟨i + 1, by omega, by omega, R12, ⟨s.id, L12, _, T12, hF12, fun hb => ⟨rfl, hsn.2 ⟨hok, hc, of_decide_eq_true hb⟩, .inr ⟨s, by rw [hs1]; simp, rfl⟩, fun t ht => ?_⟩⟩, fun hb k => (of_decide_eq_false hb) (hsn.1 k).2.2, by omega⟩, by dsimp only; omega⟩
        rw [hs1] at ht
        rcases List.mem_append.1 ht with ht | ht
        · have := hm t ht; omega
        · rw [List.mem_singleton] at ht; subst ht; omega
      · rw [wr64 (by omega) (by omega)]
        exact ⟨⟨i + 1, by omega, by omega, R12, ⟨_, L12, _, T12, hF12, fun h => by cases h⟩, fun _ k => he ((addE_iff _ _ _ _).2 (hsn.1 k).2.1), by omega⟩, by dsimp only; omega⟩
  · obtain rfl : i = n.toNat := by omega
    obtain ⟨⟨kv', xs', M', q1, q2, q3, q4, q5⟩, q6, q7⟩ := hT
    have raw2 : TabRaw wx LT 0 w3.heap.size pl lx es' kv' xs' M' := ⟨q1, q2, q3, fun b hb => ⟨.inl (q4 b hb).1, (q4 b hb).2⟩, fun b hb => .inl (q5 b hb), fun b hb => q7 b (q4 b hb).1⟩
    refine stO_set raw2.bk (by simp [tabF]) (fun x hx => by cases hx) ?_
    have raw3 : TabRaw (wx.setCell ⟨w3.heap.size, 1, none⟩ (.int .i64 la)) LT 0 w3.heap.size pl la es' kv' xs' M' := raw2.cell sesR tab_ne (j := 1) (v := .int .i64 la) (f' := tabF pl la) rfl
    have R13 := hR.st (fr_set (w := wx) (g := w3.heap.size) (i := 1) (v := .int .i64 la)) (g3n _ (Nat.le_refl _)) z3
    have T13 : TabAt (wx.setCell ⟨w3.heap.size, 1, none⟩ (.int .i64 la)) LT w3.heap.size pl la es' := ⟨⟨kv', xs', M', raw3.bk, raw3.own, raw3.els, q4, q5⟩, q6, fun k hk => by simpa using q7 k hk⟩
    have Bf := R13.old B2 hF
    cases b with
    | false => exact br_t rfl ⟨⟨fun k => absurd k.1 (hbf rfl), fun _ => rfl⟩, Bf⟩
    | true =>
      obtain ⟨rfl, hok, _, _⟩ := hbt rfl
      refine br_f rfl ((rEnd_any gr _ _ L _ R13.at' (by omega)).mono ?_)
      rintro r w14 ⟨rfl, rfl⟩
      exact ⟨fun _ _ _ => rfl, _, rfl, br_dec (fun he => ⟨⟨fun k => absurd k.2 he, fun _ => rfl⟩, Bf⟩) fun he => ⟨⟨fun _ => ⟨w3.heap.size, LT, rfl, T13, fun k hk => by have := hLT k hk; omega⟩, fun k => absurd ⟨hok, Decidable.not_not.1 he⟩ k⟩, Bf⟩⟩
end Go.Proofs.Ytamlgnhnmilbdaa
end
section
/- A table is read by the document off any bytes; walked. -/
namespace Go.Proofs.Ytamlgnhnmilbdaa
open Go.RowKit
/-- Since w0 only the document's reader, and new blocks, have turned. -/
structure FP (w0 w : World) (g : Nat) (bs : List UInt8) (e : Int) : Prop where
  at' : RfAt w g bs e
  fr : Fr [g] w0 w
  lt : g < w0.heap.size
section
variable {w0 w w1 w2 : World} {g : Nat} {bs : List UInt8} {e : Int}
theorem FP.start (h : RfAt w g bs e) : FP w w g bs e := ⟨h, Fr.refl _ _, Bk.lt h⟩
theorem FP.below (h : FP w0 w g bs e) (b : Below w.heap.size w w1) : FP w0 w1 g bs e := ⟨Bk.keep h.at' (b.block g (Bk.lt h.at')), h.fr.trans (Fr.ofBelow (L := [g]) b) (Gr.refl _ _), h.lt⟩
theorem FP.box (h : FP w0 w g bs e) {x : Nat} (hx : BoxSt x w w1) (hz : w0.heap.size ≤ x) : FP w0 w1 g bs e :=
  ⟨Bk.keep h.at' (hx.1.block g (Bk.lt h.at') (by rw [List.mem_singleton]; have := h.lt; omega)), h.fr.trans hx.1 (fun k hk => by rw [List.mem_singleton] at hk; exact .inr (by omega)), h.lt⟩
theorem FP.uint (h : FP w0 w g bs e) {gs : List Nat} {R : Ending → World → Prop} (most : Int) (hm : most ≤ 9223372036854775807) (hm2 : 0 ≤ most) (hl : bs.length ≤ 100000000) (hg : ∀ x ∈ gs, x ≠ g)
    (k : ∀ w1, FP w0 w1 g (rdUint most bs e).2.1 (rdUint most bs e).2.2 → Fr [g] w w1 → w1.heap.size = w.heap.size → R (.returned (.int .i64 (rdUint most bs e).1)) w1) :
    Calls Try.prog 78 #[.pointer (some ⟨g, 0, none⟩), .int .i64 most] w fun r w1 => KeepG gs w w1 ∧ R r w1 :=
  (fRuint_any g most hm (by omega) bs e w h.at' hl).mono (by
    rintro r w1 ⟨rfl, h1, f1, z1⟩
    exact ⟨keepG_fr f1 fun x hx hm => hg x hx (by simpa using hm), k w1 ⟨h1, h.fr.trans f1 (Gr.refl _ _), h.lt⟩ f1 z1⟩)
end
theorem FP.flag {w0 w : World} {g : Nat} {bs : List UInt8} {e : Int} (h : FP w0 w g bs e) {gs : List Nat} {R : Ending → World → Prop} (hg : ∀ x ∈ gs, x ≠ g)
    (k : ∀ w1, FP w0 w1 g (rdFlag bs e).2.1 (rdFlag bs e).2.2 → Fr [g] w w1 → w1.heap.size = w.heap.size → R (.returned (.bool (rdFlag bs e).1)) w1) :
    Calls Try.prog 88 #[.pointer (some ⟨g, 0, none⟩)] w fun r w1 => KeepG gs w w1 ∧ R r w1 :=
  (fRflag_any g bs e w h.at').mono (by
    rintro r w1 ⟨rfl, h1, f1, z1⟩
    exact ⟨keepG_fr f1 fun x hx hm => hg x hx (by simpa using hm), k w1 ⟨h1, h.fr.trans f1 (Gr.refl _ _), h.lt⟩ f1 z1⟩)
theorem FP.st {w0 w w1 : World} {g x : Nat} {bs : List UInt8} {e : Int} (h : FP w0 w g bs e) (f : Fr [x] w w1) (hn : x ≠ g) (hz : w0.heap.size ≤ x) : FP w0 w1 g bs e :=
  ⟨Bk.keep h.at' (f.block g (Bk.lt h.at') (by rw [List.mem_singleton]; exact fun k => hn k.symm)), h.fr.trans f (fun k hk => by rw [List.mem_singleton] at hk; exact .inr (by omega)), h.lt⟩
theorem FP.grown {w0 w w1 : World} {g : Nat} {bs : List UInt8} {e : Int} (h : FP w0 w g bs e) {r : Option Nat} (f : w.grownBy w1 r) (hn : ∀ k, r = some k → k ≠ g ∧ w0.heap.size ≤ k) : FP w0 w1 g bs e :=
  ⟨Bk.keep h.at' (f.block g (Bk.lt h.at') fun e => (hn g e.symm).1 rfl), h.fr.grown f fun k hk => .inr (hn k hk).2, h.lt⟩
theorem FP.join {w0 wx w : World} {g : Nat} {b b' : List UInt8} {e e' : Int} (h : FP w0 wx g b e) (h2 : FP wx w g b' e') : FP w0 w g b' e' := ⟨h2.at', h.fr.trans h2.fr (Gr.refl _ _), h.lt⟩
theorem rSes_eq (bb : List UInt8) (ee : Int) : rdSes bb ee = (⟨rdkv bb ee 0, rdkv bb ee 1, rdkv bb ee 2, rdkv bb ee 3, (rdGs (rdM bb ee).2.1 (rdM bb ee).2.2 (rdM bb ee).1.toNat).1⟩, (rdGs (rdM bb ee).2.1 (rdM bb ee).2.2 (rdM bb ee).1.toNat).2) := rfl
def RdPost (w : World) (bs : List UInt8) (v : Value) (w' : World) : Prop := (∃ (u : Nat) (ok : Bool), v = .tuple #[.pointer (some ⟨u, 0, none⟩), .bool ok] ∧ (ok = true ↔ TOk bs) ∧ (TOk bs → ∃ L, RTabAt w' L u (tPl bs) (tLa bs) (tSs bs).1 ∧ From w.heap.size L)) ∧ Below w.heap.size w w'
set_option maxRecDepth 20000 in
theorem rReadT_any (bs : List UInt8) (hl : bs.length ≤ 100000000) (w : World) : Calls Try.prog 39 #[.string (strOf bs)] w fun r w' => ∃ v, r = .returned v ∧ RdPost w bs v w' := by
  refine GCredR.rread17_calls (strOf bs) w (RdPost w bs) ?_
  unfold GCredR.rread17_vc
  have l1 := rdk_len bs 0 1
  have l2 := rdk_len bs 0 2
  have no : ∀ {g : Nat}, ∀ x ∈ ([] : List Nat), x ≠ g := fun x hx => by cases hx
  refine newB (Bs.refl w) fun g w2 g0 sg n2 z2 b2 B2 => ?_
  have F2 : FP w2 w2 g bs 0 := FP.start n2
  refine F2.uint 4611686018427387904 (by decide) (by decide) hl no fun w3 F3 f3 z3 => ⟨_, rfl, newO_in fun w4 n4 b4 s4 => ?_⟩
  have F4 : FP w2 w4 g (rdk bs 0 1).1 (rdk bs 0 1).2 := F3.below b4
  refine F4.uint 4611686018427387904 (by decide) (by decide) (by omega) no fun w5 F5 f5 z5 => ⟨_, rfl, ?_⟩
  have F5 : FP w2 w5 g (rdk bs 0 2).1 (rdk bs 0 2).2 := F5
  have ePl : (rdUint 4611686018427387904 bs 0).1 = tPl bs := rfl
  have eLa : (rdUint 4611686018427387904 (rdk bs 0 1).1 (rdk bs 0 1).2).1 = tLa bs := rfl
  rw [ePl] at n4
  rw [eLa]
  clear ePl eLa
  have hB5 : Bk w5 w3.heap.size #[.int .i64 (tPl bs), .int .i64 0, .slice none 0 0] 50 := Bk.keep (show Bk w4 w3.heap.size _ 50 from n4) (f5.block _ (by omega) (by rw [List.mem_singleton]; omega))
  refine stO_bk hB5 (by simp) no fun w6 hB6 f6 z6 => ?_
  have hB6 : Bk w6 w3.heap.size #[.int .i64 (tPl bs), .int .i64 (tLa bs), .slice none 0 0] 50 := hB6
  have hn0 := rdUint_range 16 (rdk bs 0 2).1 (rdk bs 0 2).2
  have hn16 := uint_le (most := 16) (bs := (rdk bs 0 2).1) (e := (rdk bs 0 2).2) (by decide)
  have hnl := rdN_len bs
  refine (F5.st f6 (by omega) (by omega)).uint 16 (by decide) (by decide) (by omega) no fun w7 F7 f7 z7 => ⟨_, rfl, ?_⟩
  have F7 : FP w2 w7 g (rdN bs).2.1 (rdN bs).2.2 := F7
  have eN : (rdUint 16 (rdk bs 0 2).1 (rdk bs 0 2).2).1 = (rdN bs).1 := rfl
  rw [eN] at hn0 hn16 ⊢
  clear eN
  have hTO : TOk bs ↔ TabOk (tPl bs) (tLa bs) (rdSs (rdN bs).2.1 (rdN bs).2.2 (rdN bs).1.toNat).1 ∧ rdEnd (rdSs (rdN bs).2.1 (rdN bs).2.2 (rdN bs).1.toNat).2.1 (rdSs (rdN bs).2.1 (rdN bs).2.2 (rdN bs).1.toNat).2.2 = 0 := Iff.rfl
  have hTS : (tSs bs).1 = (rdSs (rdN bs).2.1 (rdN bs).2.2 (rdN bs).1.toNat).1 := rfl
  unfold RdPost
  rw [hTO, hTS]
  clear hTO hTS
  have hB7 := hB6.keep (f7.block _ (by omega) (by rw [List.mem_singleton]; omega))
  generalize rdN bs = nn at *
  obtain ⟨n, B, E⟩ := nn
  generalize tPl bs = pl at *
  generalize tLa bs = la at *
  dsimp only at *
  refine ⟨fun b wy => b = decide ((1 ≤ pl ∧ pl ≤ 16) ∧ n ≤ pl) ∧ w7 = wy, ⟨pl, by rw [hB7.cell]; rfl, (between_any pl 1 16 w7).mono ?_⟩, ?_⟩
  · rintro r w8 ⟨rfl, rfl⟩
    exact ⟨fun _ _ _ => rfl, _, rfl, br_dec (fun h => ⟨pl, by rw [hB7.cell]; rfl, decide_eq_decide.2 (by omega), rfl⟩) fun h => ⟨(decide_eq_false (fun k => h k.1)).symm, rfl⟩⟩
  rintro b7 w9 ⟨rfl, rfl⟩
  have T7 : RTabAt w7 [w3.heap.size] w3.heap.size pl la [] := ⟨⟨.slice none 0 0, [], [], hB7, Own.nil _ _ _ _, ElsOk.nil, (fun k hk => by cases hk), fun k hk => by simp [Value.ownBlock] at hk⟩, by simp, fun k hk => by rw [List.mem_singleton] at hk; omega⟩
  have hdn : ∀ {i : Nat}, (i : Int) ≤ n → (rdSs B E i).2.2 ≠ 0 → (rdSs B E n.toNat).2.2 ≠ 0 := fun hi h => by rw [rdSs_stop h (by omega)]; exact h
  refine ⟨fun b x8 x wx => ∃ (i : Nat) (bs' : List UInt8) (e' : Int) (es : List Ses) (LT : List Nat), x = i ∧ (i : Int) ≤ n ∧ FP w2 wx g bs' e' ∧ bs'.length ≤ 100000000 ∧ RTabAt wx LT w3.heap.size pl la es ∧ es.length = i ∧ From w3.heap.size LT ∧
      ((bs' = (rdSs B E i).2.1 ∧ e' = (rdSs B E i).2.2 ∧ es = (rdSs B E i).1 ∧ (b = true ↔ n ≤ pl ∧ TabOk pl la es) ∧ (b = true → (x8 = 0 ∨ ∃ t ∈ es, t.id = x8) ∧ ∀ t ∈ es, t.id ≤ x8)) ∨ (e' ≠ 0 ∧ (rdSs B E n.toNat).2.2 ≠ 0)) ∧ w7.heap.size ≤ wx.heap.size, fun _ _ x _ => n.toNat - x.toNat,
    ⟨0, B, E, [], _, rfl, by omega, F7, by omega, T7, rfl, (fun k hk => by rw [List.mem_singleton] at hk; omega), .inl ⟨rfl, rfl, rfl, ⟨fun h => ?_, fun h => decide_eq_true ⟨h.2.1, h.1⟩⟩, fun _ => ⟨.inl rfl, fun t ht => (by cases ht)⟩⟩, by omega⟩, ?_⟩
  · have := of_decide_eq_true h
    exact ⟨this.2, this.1, by simp; omega, (fun s hs => by cases hs), fun i j s t _ h => by cases h⟩
  rintro b x8 x wx ⟨i, bs', e', es, LT, rfl, hi, hF, hbl, hT, hel, hLT, hor, hsz⟩
  have apT : Apart LT [g] := fun k hk => by rw [List.mem_singleton]; have := hLT k hk; omega
  refine ⟨fun q wy => q = decide ((i : Int) < n ∧ e' = 0) ∧ wx = wy, br_dec (fun h => ⟨e', by have := RfAt.c1 hF.at'; simpa using this, decide_eq_decide.2 (by omega), rfl⟩) fun h => ⟨(decide_eq_false (fun k => h k.1)).symm, rfl⟩, ?_⟩
  rintro q wy ⟨rfl, rfl⟩
  refine br_dec (fun hgo => ?_) fun hstop => ?_
  · obtain ⟨hlt, he0⟩ := hgo
    obtain ⟨rfl, rfl, rfl, hbt, hlx⟩ := hor.resolve_right fun k => k.1 he0
    have hse := rSes_eq (rdSs B E i).2.1 (rdSs B E i).2.2
    have hnext : rdSs B E (i + 1) = ((rdSs B E i).1 ++ [(rdSes (rdSs B E i).2.1 (rdSs B E i).2.2).1], (rdSes (rdSs B E i).2.1 (rdSs B E i).2.2).2) := rfl
    generalize hss : (rdSs B E i).1 = es at *
    generalize (rdSs B E i).2.1 = bb at *
    generalize (rdSs B E i).2.2 = ee at *
    have k1 := rdk_len bb ee 1
    have k2 := rdk_len bb ee 2
    have k3 := rdk_len bb ee 3
    have k4 := rdk_len bb ee 4
    have F : FP wx wx g bb ee := FP.start hF.at'
    have hgx := F.lt
    refine F.uint 4611686018427387904 (by decide) (by decide) hbl no fun w12 F12 f12 z12 => ⟨_, rfl, newO_in fun w13 n13 b13 s13 w14 h14 => ?_⟩
    have z14 := h14.2
    have gs3 : ∀ x ∈ [w12.heap.size], x ≠ g := fun x hx => by rw [List.mem_singleton] at hx; omega
    refine ((F12.below b13).box h14 (by omega)).uint 4611686018427387904 (by decide) (by decide) (Nat.le_trans k1 hbl) gs3 fun w15 F15 f15 z15 => ⟨_, rfl, fun w16 h16 => ?_⟩
    have z16 := h16.2
    refine (F15.box h16 (by omega)).uint 4611686018427387904 (by decide) (by decide) (Nat.le_trans k2 hbl) gs3 fun w17 F17 f17 z17 => ⟨_, rfl, fun w18 h18 => ?_⟩
    have z18 := h18.2
    refine (F17.box h18 (by omega)).uint 4611686018427387904 (by decide) (by decide) (Nat.le_trans k3 hbl) gs3 fun w19 F19 f19 z19 => ⟨_, rfl, fun w20 h20 => ?_⟩
    have z20 := h20.2
    refine (F19.box h20 (by omega)).uint 4 (by decide) (by decide) (Nat.le_trans k4 hbl) gs3 fun w21 F21 f21 z21 => ⟨_, rfl, ?_⟩
    have F21 : FP wx w21 g (rdM bb ee).2.1 (rdM bb ee).2.2 := F21
    have hml := rdM_len bb ee
    have hm0 := rdUint_range 4 (rdk bb ee 4).1 (rdk bb ee 4).2
    have hm4 := uint_le (most := 4) (bs := (rdk bb ee 4).1) (e := (rdk bb ee 4).2) (by decide)
    have e0 : (rdUint 4611686018427387904 bb ee).1 = rdkv bb ee 0 := rfl
    have e1 : (rdUint 4611686018427387904 (rdUint 4611686018427387904 bb ee).2.1 (rdUint 4611686018427387904 bb ee).2.2).1 = rdkv bb ee 1 := rfl
    have em : (rdUint 4 (rdk bb ee 4).1 (rdk bb ee 4).2).1 = (rdM bb ee).1 := rfl
    rw [em] at hm0 hm4
    have wrap : ∀ {x : Int}, x < (rdUint 4 (rdk bb ee 4).1 (rdk bb ee 4).2).1 → x < (rdM bb ee).1 := id
    have kO : ∀ k ∈ [g], k < w21.heap.size := fun k hk => by rw [List.mem_singleton] at hk; omega
    refine ⟨fun x v0 v1 v2 v3 a4 n4 c4 wz => ∃ k : Nat, x = k ∧ (k : Int) ≤ (rdM bb ee).1 ∧ v0 = rdkv bb ee 0 ∧ v1 = rdkv bb ee 1 ∧ v2 = rdkv bb ee 2 ∧ v3 = rdkv bb ee 3 ∧ n4 = k ∧ FP wx wz g (rdGs (rdM bb ee).2.1 (rdM bb ee).2.2 k).2.1 (rdGs (rdM bb ee).2.1 (rdM bb ee).2.2 k).2.2 ∧ Own wz w21.heap.size 161 4 (.slice a4 k c4) k ((rdGs (rdM bb ee).2.1 (rdM bb ee).2.2 k).1.flatMap g4Cells) ∧ w21.heap.size ≤ wz.heap.size, fun x _ _ _ _ _ _ _ _ => (rdM bb ee).1.toNat - x.toNat, ⟨0, rfl, by omega, rfl, rfl, rfl, rfl, rfl, F21, Own.nil _ _ _ _, by omega⟩, ?_⟩
    rintro x v0 v1 v2 v3 a4 k c4 wz ⟨k', rfl, hk, rfl, rfl, rfl, rfl, rfl, G, hO, hzz⟩
    have glen := rdGs_len (rdM bb ee).2.1 (rdM bb ee).2.2 k
    have gnum := rdGs_num (rdM bb ee).2.1 (rdM bb ee).2.2 k
    refine ⟨fun q wy => q = decide ((k : Int) < (rdM bb ee).1 ∧ (rdGs (rdM bb ee).2.1 (rdM bb ee).2.2 k).2.2 = 0) ∧ wz = wy, br_dec (fun h => ⟨_, by have := RfAt.c1 G.at'; simpa using this, ?_, rfl⟩) fun h => ⟨(decide_eq_false (fun k => h k.1)).symm, rfl⟩, ?_⟩
    · have h : (k : Int) < (rdM bb ee).1 := h
      exact decide_eq_decide.2 ⟨fun q => ⟨h, q⟩, fun q => q.2⟩
    rintro q wy ⟨rfl, rfl⟩
    have klt := fun k hk => hO.lt k hk
    refine br_dec (fun hgo => ?_) fun hstop => ?_
    · have hgn : rdGs (rdM bb ee).2.1 (rdM bb ee).2.2 (k + 1) = ((rdGs (rdM bb ee).2.1 (rdM bb ee).2.2 k).1 ++ [(rdG (rdGs (rdM bb ee).2.1 (rdM bb ee).2.2 k).2.1 (rdGs (rdM bb ee).2.1 (rdM bb ee).2.2 k).2.2).1], (rdG (rdGs (rdM bb ee).2.1 (rdM bb ee).2.2 k).2.1 (rdGs (rdM bb ee).2.1 (rdM bb ee).2.2 k).2.2).2) := rfl
      obtain ⟨hkm, _⟩ := hgo
      have q1 := rdk_len (rdGs (rdM bb ee).2.1 (rdM bb ee).2.2 k).2.1 (rdGs (rdM bb ee).2.1 (rdM bb ee).2.2 k).2.2 1
      have q2 := rdk_len (rdGs (rdM bb ee).2.1 (rdM bb ee).2.2 k).2.1 (rdGs (rdM bb ee).2.1 (rdM bb ee).2.2 k).2.2 2
      generalize hgl1 : (rdGs (rdM bb ee).2.1 (rdM bb ee).2.2 k).1 = gl at *
      generalize (rdGs (rdM bb ee).2.1 (rdM bb ee).2.2 k).2.1 = b1 at *
      generalize (rdGs (rdM bb ee).2.1 (rdM bb ee).2.2 k).2.2 = e1' at *
      have hb1 : b1.length ≤ 100000000 := by omega
      refine G.uint 4611686018427387904 (by decide) (by decide) hb1 gs3 fun w24 G24 f24 z24 => ⟨_, rfl, newO_in fun w25 n25 b25 s25 w26 h26 => ?_⟩
      have z26 := h26.2
      have gs4 : ∀ x ∈ [w24.heap.size, w12.heap.size], x ≠ g := fun x hx => by
        simp only [List.mem_cons, List.not_mem_nil, or_false] at hx
        omega
      have O26 := (own_fr' hO f24 kO).newbox b25 rfl h26
      have ne4 : ∀ j, (Value.slice a4 k c4).ownBlock = some j → j ≠ w24.heap.size := fun j hj => by have := klt j hj; omega
      refine ((G24.below b25).box h26 (by omega)).uint 4611686018427387904 (by decide) (by decide) (Nat.le_trans q1 hb1) gs4 fun w27 G27 f27 z27 => ⟨_, rfl, fun w28 h28 => ?_⟩
      have z28 := h28.2
      have O28 := (own_fr' O26 f27 kO).box h28 ne4
      refine (G27.box h28 (by omega)).uint 4611686018427387904 (by decide) (by decide) (Nat.le_trans q2 hb1) gs4 fun w29 G29 f29 z29 => ⟨_, rfl, fun w30 h30 => ?_⟩
      have z30 := h30.2
      have O30 := (own_fr' O28 f29 kO).box h30 ne4
      refine (G29.box h30 (by omega)).flag gs4 fun w31 G31 f31 z31 => ⟨_, rfl, fun w32 h32 => newO_in fun w33 n33 b33 s33 => ?_⟩
      have z32 := h32.2
      have O32 := (own_fr' O30 f31 kO).box h32 ne4
      have O33 := O32.below b33 (Nat.le_refl _)
      have G33 : FP wx w33 g (rdG b1 e1').2.1 (rdG b1 e1').2.2 := (G31.box h32 (by omega)).below b33
      refine ⟨1, _, _, O33.base_le fun _ _ => Nat.zero_le _, src_block (n := 1) (size := 4) Try.underlying51 n33 rfl rfl, by unfold maxLen; omega, by omega, fun x hx e => ?_, fun a' c' w34 o34 g34 or34 _ w35 h35 => ?_⟩
      · have := klt _ e
        simp only [List.mem_cons, List.not_mem_nil, or_false] at hx
        omega
      have z34 := g34.size
      have z35 := h35.2
      have o34' : Own w34 w21.heap.size 161 4 (.slice a' (k + 1) c') (k + 1) (gl.flatMap g4Cells ++ g4Cells (rdG b1 e1').1) := o34.base_le fun j hj => by
        rcases or34 with q | ⟨y, q, hy⟩
        · rw [q] at hj; exact (klt j hj).1
        · rw [q] at hj; injection hj with hj; omega
      have G34 := G33.grown g34 fun j hj => by have := klt j hj; exact ⟨by omega, by omega⟩
      rw [wr64 (by omega) (by omega)]
      refine ⟨⟨k + 1, by omega, by omega, rfl, rfl, rfl, rfl, rfl, ?_, ?_, by omega⟩, by dsimp only; omega⟩
      · rw [hgn]; exact G34.box h35 (by omega)
      · rw [hgn, List.flatMap_append]
        have := o34'.box h35 fun j hj => by have := (o34'.lt j hj).1; omega
        simpa using this
    have hse' : ((rdGs (rdM bb ee).2.1 (rdM bb ee).2.2 k).2.2 = 0 → rdSes bb ee = (⟨rdkv bb ee 0, rdkv bb ee 1, rdkv bb ee 2, rdkv bb ee 3, (rdGs (rdM bb ee).2.1 (rdM bb ee).2.2 k).1⟩, (rdGs (rdM bb ee).2.1 (rdM bb ee).2.2 k).2)) ∧ ((rdGs (rdM bb ee).2.1 (rdM bb ee).2.2 k).2.2 ≠ 0 → (rdSes bb ee).2 = (rdGs (rdM bb ee).2.1 (rdM bb ee).2.2 k).2) := by
      refine ⟨fun h0 => ?_, fun h0 => ?_⟩
      · have : ¬ ((k : Int) < (rdM bb ee).1) := fun h => hstop ⟨h, h0⟩
        rw [hse, show (rdM bb ee).1.toNat = k by omega]
      · rw [hse]
        exact rdGs_stop h0 (by omega)
    clear hse
    generalize hgl1 : (rdGs (rdM bb ee).2.1 (rdM bb ee).2.2 k).1 = gl at *
    generalize hG2 : (rdGs (rdM bb ee).2.1 (rdM bb ee).2.2 k).2 = g2' at *
    obtain ⟨b1, e1'⟩ := g2'
    dsimp only at hse' G glen
    have hv : sesV ⟨rdkv bb ee 0, rdkv bb ee 1, rdkv bb ee 2, rdkv bb ee 3, gl⟩ a4 c4 = .agg #[.int .i64 (rdkv bb ee 0), .int .i64 (rdkv bb ee 1), .int .i64 (rdkv bb ee 2), .int .i64 (rdkv bb ee 3), .slice a4 k c4] := by unfold sesV; dsimp only; rw [gnum]
    generalize hS : (⟨rdkv bb ee 0, rdkv bb ee 1, rdkv bb ee 2, rdkv bb ee 3, gl⟩ : Ses) = s at *
    have hsid : s.id = rdkv bb ee 0 := by rw [← hS]
    have hsgs : s.gs = gl := by rw [← hS]
    have hO' : Own wz w21.heap.size 161 4 (.slice a4 s.gs.length c4) s.gs.length (s.gs.flatMap g4Cells) := by rw [hsgs, gnum]; exact hO
    have hgin := gr_own hO'
    have hgz : GrAt wz a4 s.gs := hgin.anywhere
    have Tz := hT.fr sesR G.fr apT
    have hTu := hT.under
    have zx := G.fr.size
    refine ⟨fun q wy => (q = true ↔ b = true ∧ SesOk s ∧ x8 < rdkv bb ee 0 ∧ rdkv bb ee 0 ≤ la) ∧ Bs wz wy, drewB (Bs.refl wz) fun w36 b36 B36 _ => ?_, ?_⟩
    · have hcall := rRight_any s a4 c4 w36 (hgz.below b36) (by rw [hsgs]; omega)
      rw [hv] at hcall
      cases b with
      | false => exact br_f rfl ⟨⟨fun h => (by cases h), fun h => (by cases h.1)⟩, B36⟩
      | true =>
        refine br_t rfl (callB B36 hcall fun w37 b37 B37 => ⟨_, rfl, br_dec (fun h1 => br_dec (fun h2 => ?_) fun h2 => ⟨⟨fun h => (by cases h), fun h => absurd h.2.2.1 h2⟩, B37⟩) fun h1 => ⟨⟨fun h => (by cases h), fun h => absurd h.2.1 h1⟩, B37⟩⟩)
        obtain ⟨kv, xs, M, hr⟩ := (Tz.below sesR B37).raw 0
        exact ⟨la, (rtab_cell hr).2.1, ⟨fun h => ⟨rfl, h1, h2, of_decide_eq_true h⟩, fun h => decide_eq_true h.2.2.2⟩, B37⟩
    rintro b3 w39 ⟨hq, B39⟩
    refine drewB B39 fun w40 b40 B40 _ => ?_
    have T40 := Tz.below sesR B40
    have s40 := B40.size
    obtain ⟨kv, xs, M, hr⟩ := T40.raw w40.heap.size
    obtain ⟨ka, kc, rfl⟩ := hr.own.isSlice
    refine ⟨ka, es.length, kc, (rtab_cell hr).2.2, newO_in fun w41 n41 b41 s41 => ?_⟩
    have hr41 := hr.below sesR b41
    have hown : ∀ j, (Value.slice ka es.length kc).ownBlock = some j → j ∈ LT := fun j hj => (hr.mine j hj).elim id fun h => by have := (hr.own.lt j hj).2; omega
    have hownx : ∀ j, (Value.slice ka es.length kc).ownBlock = some j → w3.heap.size ≤ j ∧ j < wx.heap.size := fun j hj => ⟨hLT j (hown j hj), hTu j (hown j hj)⟩
    have hBb : ∀ j ∈ (Value.slice a4 s.gs.length c4).ownBlock.toList, w21.heap.size ≤ j ∧ j < wz.heap.size := fun j hj => hO'.lt j (by simpa using hj)
    have hp := hTu _ hT.mem
    have hg41 : GrIn w41 (Value.slice a4 s.gs.length c4).ownBlock.toList a4 s.gs := hgin.keep fun j hj => by
      have := hBb j hj
      rw [b41.block j (by omega)]
      exact B40.block j (by omega)
    have hm8 := (hr41.wider (K := LT ++ (Value.slice a4 s.gs.length c4).ownBlock.toList) fun j hj => List.mem_append_left _ hj).more sesR (Value.slice a4 s.gs.length c4).ownBlock.toList fun j hj => ⟨.inl (List.mem_append_right _ hj), by have := hBb j hj; omega, by have := hBb j hj; omega, fun e => by have := hBb j hj; have := hownx j e; omega⟩
    refine ⟨(rtab_cell hr41).2.2, 1, xs, [.int .i64 (rdkv bb ee 0), .int .i64 (rdkv bb ee 1), .int .i64 (rdkv bb ee 2), .int .i64 (rdkv bb ee 3), .slice a4 k c4], hr41.own, src_block Try.underlying48 (n := 1) (size := 5) n41 rfl rfl, by unfold maxLen; omega, by omega, fun x hx e => ?_, ?_⟩
    · rw [List.mem_singleton] at hx; subst hx
      have := hownx _ e
      omega
    intro a9 c9 w42 o42 g42 hor42 _
    have z42 := g42.size
    have hpk : (Value.slice ka es.length kc).ownBlock ≠ some w3.heap.size := own_apart hr41.bk hr41.own rtab_ne
    have hp42 : w42.heap[w3.heap.size]? = w41.heap[w3.heap.size]? := g42.block _ hr41.bk.lt fun e => hpk e.symm
    have hM42 : ∀ j ∈ M ++ (Value.slice a4 s.gs.length c4).ownBlock.toList, w42.heap[j]? = w41.heap[j]? := fun j hj => g42.block j (hm8.under j hj) fun e => (hm8.far j hj).2.2 e.symm
    have hcs : ([.int .i64 (rdkv bb ee 0), .int .i64 (rdkv bb ee 1), .int .i64 (rdkv bb ee 2), .int .i64 (rdkv bb ee 3), .slice a4 k c4] : List Value) = [.int .i64 s.id, .int .i64 s.node, .int .i64 s.num, .int .i64 s.dl, .slice a4 s.gs.length c4] := by rw [hsgs, gnum, ← hS]
    have hE := hm8.els.app sesR (e := s) (cs := [.int .i64 (rdkv bb ee 0), .int .i64 (rdkv bb ee 1), .int .i64 (rdkv bb ee 2), .int .i64 (rdkv bb ee 3), .slice a4 k c4]) (sesR.mono (M := (Value.slice a4 s.gs.length c4).ownBlock.toList) ⟨a4, c4, hcs, hg41, hO'.cap.1⟩ (by simp +contextual))
    have R := hm8.turn sesR rtab_ne (Nat.le_trans (Nat.le_refl _) b41.size) hE (w' := w42) (v1 := .slice a9 (es.length + 1) c9) (by rw [List.length_append]; exact o42) hp42 hM42 g42.size hor42 (j := 2) rfl
    refine stO_set (hr41.bk.keep hp42) (by simp [tabF]) (fun x hx => by rw [List.mem_singleton] at hx; omega) ?_
    obtain ⟨L', hL', hG'⟩ := R.at (List.mem_append_left _ hT.mem)
    have J40 : FP w2 w40 g b1 e1' := (hF.join G).below B40
    have J42 := (J40.below b41).grown g42 fun j hj => by have := hownx j hj; exact ⟨by omega, by omega⟩
    have J43 := J42.st (fr_set (w := w42) (g := w3.heap.size) (i := 2) (v := .slice a9 (es.length + 1) c9)) (by omega) (by omega)
    have hi1 : ((i + 1 : Nat) : Int) ≤ n := by omega
    rw [wr64 (by omega) (by omega)]
    refine ⟨⟨i + 1, b1, e1', es ++ [s], L', by omega, hi1, J43, by omega, hL', by rw [List.length_append, List.length_singleton]; omega, (fun j hj => ?_), ?_, by simp; omega⟩, by dsimp only; omega⟩
    · rcases hG' j hj with q | q
      · rcases List.mem_append.1 q with q | q
        · exact hLT j q
        · have := hBb j q; omega
      · omega
    by_cases h0 : e1' = 0
    · have hs := hse'.1 h0
      rw [hs] at hnext
      have h1 : (rdSs B E (i + 1)).1 = es ++ [s] := by rw [hnext]
      have h2 : (rdSs B E (i + 1)).2 = (b1, e1') := by rw [hnext]
      refine .inl ⟨by rw [h2], by rw [h2], h1.symm, ⟨fun h => ?_, fun h => ?_⟩, fun h => ?_⟩
      · obtain ⟨y1, y2, y3, y4⟩ := hq.1 h
        obtain ⟨y5, y6⟩ := hbt.1 y1
        obtain ⟨y7, y8⟩ := hlx y1
        exact ⟨y5, (tabOk_snoc y7 y8).2 ⟨y6, ⟨y2, by omega, by omega⟩, by omega⟩⟩
      · have y1 := hbt.2 ⟨h.1, tabOk_init h.2⟩
        obtain ⟨y7, y8⟩ := hlx y1
        obtain ⟨_, ⟨y2, y3, _⟩, y4⟩ := (tabOk_snoc y7 y8).1 h.2
        exact hq.2 ⟨y1, y2, by omega, by omega⟩
      · obtain ⟨y1, y2, y3, y4⟩ := hq.1 h
        obtain ⟨y7, y8⟩ := hlx y1
        refine ⟨.inr ⟨s, by simp, hsid⟩, fun t ht => ?_⟩
        rcases List.mem_append.1 ht with ht | ht
        · have := y8 t ht; omega
        · rw [List.mem_singleton] at ht; subst ht; omega
    · refine .inr ⟨h0, hdn hi1 ?_⟩
      have hs := hse'.2 h0
      rw [hnext]
      show (rdSes bb ee).2.2 ≠ 0
      rw [hs]
      exact h0
  · have hEnd : e' ≠ 0 → rdEnd bs' e' ≠ 0 := fun h k => h (end_zero k).1
    have hBf : Bs w wx := B2.trans (hF.fr.below (fun k hk => by rw [List.mem_singleton] at hk; omega) B2.size)
    have hfin : TabOk pl la (rdSs B E n.toNat).1 ∧ rdEnd (rdSs B E n.toNat).2.1 (rdSs B E n.toNat).2.2 = 0 → i = n.toNat ∧ bs' = (rdSs B E n.toNat).2.1 ∧ e' = (rdSs B E n.toNat).2.2 ∧ es = (rdSs B E n.toNat).1 ∧ b = true := fun k => by
      have h0 := (end_zero k.2).1
      rcases hor with ⟨h1, h2, h3, h4, _⟩ | ⟨_, h2⟩
      · have he : e' = 0 := Classical.byContradiction fun h => hdn hi (h2 ▸ h) h0
        obtain rfl : i = n.toNat := by
          have : ¬ ((i : Int) < n) := fun h => hstop ⟨h, he⟩
          omega
        refine ⟨rfl, h1, h2, h3, h4.2 ⟨?_, h3 ▸ k.1⟩⟩
        have := k.1.2.1
        rw [rdSs_num] at this
        omega
      · exact absurd h0 h2
    cases b with
    | true =>
      refine br_t rfl ((fRend_any g bs' e' wx hF.at').mono ?_)
      rintro r w44 ⟨rfl, rfl⟩
      refine ⟨fun _ _ _ => rfl, _, rfl, ⟨w3.heap.size, _, rfl, ⟨fun h => ?_, fun k => ?_⟩, fun k => ?_⟩, hBf⟩
      · have hz := of_decide_eq_true h
        have he := (end_zero hz).1
        obtain ⟨rfl, rfl, rfl, h4, _⟩ := hor.resolve_right fun k => k.1 he
        have : ¬ ((i : Int) < n) := fun h => hstop ⟨h, he⟩
        obtain rfl : i = n.toNat := by omega
        exact ⟨(h4.1 rfl).2, hz⟩
      · obtain ⟨_, h1, h2, _⟩ := hfin k
        rw [h1, h2]
        exact decide_eq_true k.2
      · obtain ⟨_, _, _, h3, _⟩ := hfin k
        exact ⟨LT, h3 ▸ hT, fun k hk => by have := hLT k hk; omega⟩
    | false =>
      refine br_f rfl ⟨⟨w3.heap.size, false, rfl, ⟨fun h => (by cases h), fun k => ?_⟩, fun k => ?_⟩, hBf⟩
      · have := (hfin k).2.2.2.2; cases this
      · have := (hfin k).2.2.2.2; cases this
end Go.Proofs.Ytamlgnhnmilbdaa
end
section
/- CreditReads: of all bytes the table is told, or that they are none's; walked. -/
namespace Go.Proofs.Ytamlgnhnmilbdaa
open Go.RowKit
set_option maxRecDepth 20000 in
theorem lCReads_walk (a : Option Addr) (c : Nat) (bl : List UInt8) (w : World) (hla : bl.length ≤ c) (hra : RowAt w a (bl.map bV)) :
    Calls Try.prog 7 #[.slice a bl.length c] w (Ret (.bool true) w) := by
  have ma : min (bl.length : Int) 1500 = ((bl.take 1500).length : Int) := min_take bl 1500
  have ra : RowAt w a ((bl.take 1500).map bV) := by rw [List.map_take]; exact hra.take 1500
  have la : (bl.take 1500).length ≤ c ∧ (bl.take 1500).length ≤ 1500 := by rw [List.length_take]; omega
  refine ret_in (GCredR.creads_calls a bl.length c w (fun u w' => u = .bool true ∧ Below w.heap.size w w') ?_)
  unfold GCredR.creads_vc
  rw [ma]
  generalize bl.take 1500 = bs at *
  rw [show ((bs.length : Int)).toNat = bs.length from Int.toNat_natCast _]
  have hl : bs.length ≤ 100000000 := by omega
  refine ⟨by omega, by omega, callQ (Bs.refl w) (readT_any bs hl a c ra) ?_⟩
  rintro e w2 ⟨hY, hN⟩ b2 B2
  by_cases hT : TOk bs
  · obtain ⟨u, L, rfl, hTab, hF⟩ := hY hT
    refine ⟨_, _, rfl, bs, rfl, ra.below B2 (Nat.le_refl _), (rReadT_any bs hl w2).mono ?_⟩
    rintro r w3 ⟨v, rfl, ⟨ru, ok, rfl, hok, hR⟩, b3⟩
    obtain ⟨LR, hRT, hFR⟩ := hR hT
    have hok1 : ok = true := hok.2 hT
    subst hok1
    have B3 := B2.to b3
    refine ⟨keepG_below b3, _, _, rfl, (credits_any w3).mono ?_⟩
    rintro r w4 ⟨rfl, b4⟩
    have B4 := B3.to b4
    refine ⟨keepG_below b4, _, rfl, br_f rfl (br_n (by simp) (br_f rfl ?_))⟩
    obtain ⟨hbs, hpl, hla⟩ := un_Tab hT
    obtain ⟨⟨p1, p16⟩, hlen, hall, hids⟩ := hT.1
    have b24 : Below w2.heap.size w2 w4 := ((show Bs w2 w3 from b3).to b4)
    have hTab4 := hTab.below sesR b24
    refine callQ B4 (tWrite_new hTab4 (fun s hs => (hall s hs).1) (by omega) hpl hla) ?_
    rintro e w5 ⟨a', c', rfl, ho⟩ b5 B5
    refine ⟨_, _, _, _, rfl, br_y rfl ⟨tabB (tPl bs) (tLa bs) (tSs bs).1, rfl, ho.row, bs, rfl, ra.below B5 (Nat.le_refl _), br_y (by rw [← hbs]) ?_⟩⟩
    have hu2 := hTab.under
    have hb2 := b2.size
    have C5 : CBoth w5 w.heap.size u ru (tPl bs) (tLa bs) (tSs bs).1 := ⟨⟨L, LR, hTab4.below sesR b5, (hRT.below sesR b4).below sesR b5, (fun k k1 k2 => by have := hu2 k k1; have := hFR k k2; omega), hF, fun k hk => by have := hFR k hk; omega⟩, hids, hall, hlen, p16⟩
    refine (like_any C5).mono ?_
    rintro r w6 ⟨rfl, b6⟩
    exact ⟨keepG_below b6, _, rfl, rfl, B5.to b6⟩
  · obtain rfl := hN hT
    refine ⟨_, _, rfl, bs, rfl, ra.below B2 (Nat.le_refl _), (rReadT_any bs hl w2).mono ?_⟩
    rintro r w3 ⟨v, rfl, ⟨ru, ok, rfl, hok, _⟩, b3⟩
    have hok0 : ok = false := by
      cases ok with
      | false => rfl
      | true => exact absurd (hok.1 rfl) hT
    subst hok0
    have B3 := B2.to b3
    refine ⟨keepG_below b3, _, _, rfl, (credits_any w3).mono ?_⟩
    rintro r w4 ⟨rfl, b4⟩
    exact ⟨keepG_below b4, _, rfl, br_f rfl (br_n (by simp) (br_t rfl (br_y rfl ⟨rfl, B3.to b4⟩)))⟩
end Go.Proofs.Ytamlgnhnmilbdaa
end
section
/- What the row of CreditReads needs, together. -/
namespace Go.Proofs.Ytamlgnhnmilbdaa
end Go.Proofs.Ytamlgnhnmilbdaa
end
