/- Conditions of functions, printed by a program of this claim's own (vcgen.py) out of the loaded code; each is proved to be enough. -/
import Derived.Test.YtjjmhmbmjpedkaaProg
import Derived.Test.YtjjmhmbmjpedkaaVcAnn
set_option maxRecDepth 100000
namespace Go.Proofs.Ytjjmhmbmjpedkaa
open Go.RowKit
namespace GWinActs
def env : Env := ⟨[(3, ⟨.int .i64, 1, .int .i64 0, 8, [.int .i64]⟩), (4, ⟨.bool, 1, .bool false, 1, [.bool]⟩), (5, ⟨.int .u8, 1, .int .u8 0, 1, [.int .u8]⟩), (9, ⟨.str, 1, .string ByteArray.empty, 16, [.str]⟩), (23, ⟨.int .u64, 1, .int .u64 0, 8, [.int .u64]⟩), (24, ⟨.ptr, 1, .pointer none, 8, [.ptr]⟩), (30, ⟨.slice 5, 1, .slice none 0 0, 24, [.slice]⟩), (55, ⟨.slice 63, 1, .slice none 0 0, 24, [.slice]⟩), (59, ⟨.slice 116, 1, .slice none 0 0, 24, [.slice]⟩), (61, ⟨.struct [(0, 3), (1, 4), (2, 59)], 3, .agg #[.int .i64 0, .bool false, .slice none 0 0], 40, [.int .i64, .bool, .slice]⟩), (63, ⟨.struct [(0, 4), (1, 3), (2, 4), (3, 30), (4, 30)], 5, .agg #[.bool false, .int .i64 0, .bool false, .slice none 0 0, .slice none 0 0], 72, [.bool, .int .i64, .bool, .slice, .slice]⟩), (76, ⟨.struct [(0, 30), (1, 4)], 2, .agg #[.slice none 0 0, .bool false], 32, [.slice, .bool]⟩), (91, ⟨.slice 96, 1, .slice none 0 0, 24, [.slice]⟩), (93, ⟨.struct [(0, 3), (1, 4), (2, 3), (3, 91)], 4, .agg #[.int .i64 0, .bool false, .int .i64 0, .slice none 0 0], 48, [.int .i64, .bool, .int .i64, .slice]⟩), (96, ⟨.struct [(0, 3), (1, 30), (2, 30)], 3, .agg #[.int .i64 0, .slice none 0 0, .slice none 0 0], 56, [.int .i64, .slice, .slice]⟩), (116, ⟨.struct [(0, 3), (1, 9), (2, 9)], 3, .agg #[.int .i64 0, .string ByteArray.empty, .string ByteArray.empty], 40, [.int .i64, .str, .str]⟩)], [(13, [.lf (.ptr), .lf (.int .i64)]), (14, [.lf (.bool)]), (15, [.lf (.int .i64)]), (16, [.lf (.slice), .lf (.int .i64)]), (17, [.lf (.int .i64)]), (29, [.lf (.ptr)]), (30, [.lf (.slice), .lf (.int .i64)]), (31, [.lf (.int .i64)]), (32, [.lf (.bool)]), (33, [.lf (.int .i64)]), (34, [.lf (.slice)]), (38, []), (39, [.lf (.slice), .lf (.int .i64)]), (62, []), (63, []), (64, []), (65, [.lf (.int .i64)]), (66, [.lf (.str), .lf (.int .i64)]), (67, [.lf (.int .i64)])]⟩
theorem ty3 : TyOk Try.prog 3 ⟨.int .i64, 1, .int .i64 0, 8, [.int .i64]⟩ := tyok (by kernel_rfl) (by kernel_rfl)
theorem ty4 : TyOk Try.prog 4 ⟨.bool, 1, .bool false, 1, [.bool]⟩ := tyok (by kernel_rfl) (by kernel_rfl)
theorem ty5 : TyOk Try.prog 5 ⟨.int .u8, 1, .int .u8 0, 1, [.int .u8]⟩ := tyok (by kernel_rfl) (by kernel_rfl)
theorem ty9 : TyOk Try.prog 9 ⟨.str, 1, .string ByteArray.empty, 16, [.str]⟩ := tyok (by kernel_rfl) (by kernel_rfl)
theorem ty23 : TyOk Try.prog 23 ⟨.int .u64, 1, .int .u64 0, 8, [.int .u64]⟩ := tyok (by kernel_rfl) (by kernel_rfl)
theorem ty24 : TyOk Try.prog 24 ⟨.ptr, 1, .pointer none, 8, [.ptr]⟩ := tyok (by kernel_rfl) (by kernel_rfl)
theorem ty30 : TyOk Try.prog 30 ⟨.slice 5, 1, .slice none 0 0, 24, [.slice]⟩ := tyok (by kernel_rfl) (by kernel_rfl)
theorem ty55 : TyOk Try.prog 55 ⟨.slice 63, 1, .slice none 0 0, 24, [.slice]⟩ := tyok (by kernel_rfl) (by kernel_rfl)
theorem ty59 : TyOk Try.prog 59 ⟨.slice 116, 1, .slice none 0 0, 24, [.slice]⟩ := tyok (by kernel_rfl) (by kernel_rfl)
theorem ty61 : TyOk Try.prog 61 ⟨.struct [(0, 3), (1, 4), (2, 59)], 3, .agg #[.int .i64 0, .bool false, .slice none 0 0], 40, [.int .i64, .bool, .slice]⟩ := tyok (by kernel_rfl) (by kernel_rfl)
theorem ty63 : TyOk Try.prog 63 ⟨.struct [(0, 4), (1, 3), (2, 4), (3, 30), (4, 30)], 5, .agg #[.bool false, .int .i64 0, .bool false, .slice none 0 0, .slice none 0 0], 72, [.bool, .int .i64, .bool, .slice, .slice]⟩ := tyok (by kernel_rfl) (by kernel_rfl)
theorem ty76 : TyOk Try.prog 76 ⟨.struct [(0, 30), (1, 4)], 2, .agg #[.slice none 0 0, .bool false], 32, [.slice, .bool]⟩ := tyok (by kernel_rfl) (by kernel_rfl)
theorem ty91 : TyOk Try.prog 91 ⟨.slice 96, 1, .slice none 0 0, 24, [.slice]⟩ := tyok (by kernel_rfl) (by kernel_rfl)
theorem ty93 : TyOk Try.prog 93 ⟨.struct [(0, 3), (1, 4), (2, 3), (3, 91)], 4, .agg #[.int .i64 0, .bool false, .int .i64 0, .slice none 0 0], 48, [.int .i64, .bool, .int .i64, .slice]⟩ := tyok (by kernel_rfl) (by kernel_rfl)
theorem ty96 : TyOk Try.prog 96 ⟨.struct [(0, 3), (1, 30), (2, 30)], 3, .agg #[.int .i64 0, .slice none 0 0, .slice none 0 0], 56, [.int .i64, .slice, .slice]⟩ := tyok (by kernel_rfl) (by kernel_rfl)
theorem ty116 : TyOk Try.prog 116 ⟨.struct [(0, 3), (1, 9), (2, 9)], 3, .agg #[.int .i64 0, .string ByteArray.empty, .string ByteArray.empty], 40, [.int .i64, .str, .str]⟩ := tyok (by kernel_rfl) (by kernel_rfl)
theorem fn13 : FnOk Try.prog 13 := fnok Try.func13 (by kernel_rfl) (by kernel_rfl)
theorem fn14 : FnOk Try.prog 14 := fnok Try.func14 (by kernel_rfl) (by kernel_rfl)
theorem fn15 : FnOk Try.prog 15 := fnok Try.func15 (by kernel_rfl) (by kernel_rfl)
theorem fn16 : FnOk Try.prog 16 := fnok Try.func16 (by kernel_rfl) (by kernel_rfl)
theorem fn17 : FnOk Try.prog 17 := fnok Try.func17 (by kernel_rfl) (by kernel_rfl)
theorem fn29 : FnOk Try.prog 29 := fnok Try.func29 (by kernel_rfl) (by kernel_rfl)
theorem fn30 : FnOk Try.prog 30 := fnok Try.func30 (by kernel_rfl) (by kernel_rfl)
theorem fn31 : FnOk Try.prog 31 := fnok Try.func31 (by kernel_rfl) (by kernel_rfl)
theorem fn32 : FnOk Try.prog 32 := fnok Try.func32 (by kernel_rfl) (by kernel_rfl)
theorem fn33 : FnOk Try.prog 33 := fnok Try.func33 (by kernel_rfl) (by kernel_rfl)
theorem fn34 : FnOk Try.prog 34 := fnok Try.func34 (by kernel_rfl) (by kernel_rfl)
theorem fn38 : FnOk Try.prog 38 := fnok Try.func38 (by kernel_rfl) (by kernel_rfl)
theorem fn39 : FnOk Try.prog 39 := fnok Try.func39 (by kernel_rfl) (by kernel_rfl)
theorem fn62 : FnOk Try.prog 62 := fnok Try.func62 (by kernel_rfl) (by kernel_rfl)
theorem fn63 : FnOk Try.prog 63 := fnok Try.func63 (by kernel_rfl) (by kernel_rfl)
theorem fn64 : FnOk Try.prog 64 := fnok Try.func64 (by kernel_rfl) (by kernel_rfl)
theorem fn65 : FnOk Try.prog 65 := fnok Try.func65 (by kernel_rfl) (by kernel_rfl)
theorem fn66 : FnOk Try.prog 66 := fnok Try.func66 (by kernel_rfl) (by kernel_rfl)
theorem fn67 : FnOk Try.prog 67 := fnok Try.func67 (by kernel_rfl) (by kernel_rfl)
theorem envOk : EOk Try.prog env := ⟨(by simp only [env, List.forall_mem_cons, List.not_mem_nil, false_implies, implies_true, and_true]; exact ⟨ty3, ty4, ty5, ty9, ty23, ty24, ty30, ty55, ty59, ty61, ty63, ty76, ty91, ty93, ty96, ty116⟩), (by simp only [env, List.forall_mem_cons, List.not_mem_nil, false_implies, implies_true, and_true]; exact ⟨fn13, fn14, fn15, fn16, fn17, fn29, fn30, fn31, fn32, fn33, fn34, fn38, fn39, fn62, fn63, fn64, fn65, fn66, fn67⟩), by kernel_rfl⟩
/-- (purser/purserlaw18.Act).number -/
def aNumber_vc (b0_0 : Bool) (x0_1 : Int) (b0_2 : Bool) (a0_3 : Option Addr) (n0_3 : Nat) (c0_3 : Nat) (a0_4 : Option Addr) (n0_4 : Nat) (c0_4 : Nat) (x1 : Int) (w : World) (K : Value → World → Prop) : Prop :=
  newO w (.cells #[.bool b0_0, .int .i64 x0_1, .bool b0_2, .slice a0_3 n0_3 c0_3, .slice a0_4 n0_4 c0_4] 63) fun g w_2 =>
  br b0_2 (
    K (.int .i64 x0_1) w_2
  ) (
    (5 : Int) ≠ 0 ∧
    (5 : Int) ≠ 0 ∧
    (2 : Int) ≠ 0 ∧
    K (.int .i64 (IntKind.i64.wrap ((IntKind.i64.wrap ((IntKind.i64.wrap (x1 + 1)) - (IntKind.i64.wrap (Int.tmod (IntKind.u64.wrap x0_1) 5)))) + (IntKind.i64.wrap (Int.tmod (IntKind.u64.wrap (Int.tdiv (IntKind.u64.wrap x0_1) 5)) 2))))) w_2
  )
def aNumber_notes : Notes := ⟨[], [], []⟩
theorem aNumber_calls (b0_0 : Bool) (x0_1 : Int) (b0_2 : Bool) (a0_3 : Option Addr) (n0_3 : Nat) (c0_3 : Nat) (a0_4 : Option Addr) (n0_4 : Nat) (c0_4 : Nat) (x1 : Int) (w : World) (K : Value → World → Prop) (h : aNumber_vc b0_0 x0_1 b0_2 a0_3 n0_3 c0_3 a0_4 n0_4 c0_4 x1 w K) : Calls Try.prog 65 #[.agg #[.bool b0_0, .int .i64 x0_1, .bool b0_2, .slice a0_3 n0_3 c0_3, .slice a0_4 n0_4 c0_4], .int .i64 x1] w fun e w' => ∃ v, e = .returned v ∧ K v w' :=
  calls_of_fvc envOk Try.func65 aNumber_notes [2] [.agg #[.bool b0_0, .int .i64 x0_1, .bool b0_2, .slice a0_3 n0_3 c0_3, .slice a0_4 n0_4 c0_4], .int .i64 x1] w K (use_vc h (by as_aux_lemma => kernel_rfl))
/-- (purser/purserlaw18.Act).do -/
def aDo_vc (b0_0 : Bool) (x0_1 : Int) (b0_2 : Bool) (a0_3 : Option Addr) (n0_3 : Nat) (c0_3 : Nat) (a0_4 : Option Addr) (n0_4 : Nat) (c0_4 : Nat) (p1 : Option Addr) (p2 : Option Addr) (w : World) (K : Value → World → Prop) : Prop :=
  newO w (.cells #[.bool b0_0, .int .i64 x0_1, .bool b0_2, .slice a0_3 n0_3 c0_3, .slice a0_4 n0_4 c0_4] 63) fun g w_2 =>
  ∃ (J : Option Addr → Nat → Nat → Option Addr → Nat → Nat → World → Prop), (
    drewO w_2 fun w_3 =>
    (0 : Int) ≤ min ((n0_3 : Nat) : Int) 300 ∧ min ((n0_3 : Nat) : Int) 300 ≤ (((c0_3 : Nat) : Int) : Int) ∧
    (0 : Int) ≤ min ((n0_4 : Nat) : Int) 300 ∧ min ((n0_4 : Nat) : Int) 300 ≤ (((c0_4 : Nat) : Int) : Int) ∧
    (
      newO w_3 (.cells #[] 5) fun g_2 w_4 =>
      (
        appO Try.prog [g] w_4 5 1 1 30 (some ⟨g_2, 0, none⟩) 0 0 (.slice a0_3 ((min ((n0_3 : Nat) : Int) 300).toNat) c0_3) fun m27 a27 c27 w_5 =>
        newO w_5 (.cells #[] 5) fun g_3 w_6 =>
        appO Try.prog [g] w_6 5 1 1 30 (some ⟨g_3, 0, none⟩) 0 0 (.slice a0_4 ((min ((n0_4 : Nat) : Int) 300).toNat) c0_4) fun m36 a36 c36 w_7 =>
        J a27 (0 + m27) c27 a36 (0 + m36) c36 w_7
      ) ∧
      (
        newO w_4 (.cells #[] 5) fun g_4 w_8 =>
        appO Try.prog [g] w_8 5 1 1 30 (some ⟨g_2, 0, none⟩) 0 0 (.slice a0_3 ((min ((n0_3 : Nat) : Int) 300).toNat) c0_3) fun m27_2 a27_2 c27_2 w_9 =>
        appO Try.prog [g] w_9 5 1 1 30 (some ⟨g_4, 0, none⟩) 0 0 (.slice a0_4 ((min ((n0_4 : Nat) : Int) 300).toNat) c0_4) fun m36_2 a36_2 c36_2 w_10 =>
        J a27_2 (0 + m27_2) c27_2 a36_2 (0 + m36_2) c36_2 w_10
      )
    ) ∧
    (
      newO w_3 (.cells #[] 5) fun g_5 w_11 =>
      newO w_11 (.cells #[] 5) fun g_6 w_12 =>
      appO Try.prog [g] w_12 5 1 1 30 (some ⟨g_6, 0, none⟩) 0 0 (.slice a0_3 ((min ((n0_3 : Nat) : Int) 300).toNat) c0_3) fun m27_3 a27_3 c27_3 w_13 =>
      appO Try.prog [g] w_13 5 1 1 30 (some ⟨g_5, 0, none⟩) 0 0 (.slice a0_4 ((min ((n0_4 : Nat) : Int) 300).toNat) c0_4) fun m36_3 a36_3 c36_3 w_14 =>
      J a27_3 (0 + m27_3) c27_3 a36_3 (0 + m36_3) c36_3 w_14
    )
  ) ∧
  ∀ (a7 : Option Addr) (n7 : Nat) (c7 : Nat) (a8 : Option Addr) (n8 : Nat) (c8 : Nat) (w_15 : World), J a7 n7 c7 a8 n8 c8 w_15 →
  drewO w_15 fun w_16 =>
  Calls Try.prog 33 #[.pointer p2] w_16 fun e w_17 => KeepG [g] w_16 w_17 ∧
  ∃ (x39 : Int),
  e = .returned (.int .i64 x39) ∧
  Calls Try.prog 65 #[.agg #[.bool b0_0, .int .i64 x0_1, .bool b0_2, .slice a0_3 n0_3 c0_3, .slice a0_4 n0_4 c0_4], .int .i64 x39] w_17 fun e_2 w_18 => KeepG [g] w_17 w_18 ∧
  ∃ (x40 : Int),
  e_2 = .returned (.int .i64 x40) ∧
  drewO w_18 fun w_19 =>
  ∃ bs42 : List UInt8, bs42.length = n7 ∧ RowAt w_19 a7 (bs42.map bV) ∧
  ∃ bs44 : List UInt8, bs44.length = n8 ∧ RowAt w_19 a8 (bs44.map bV) ∧
  br (!b0_0) (
    Calls Try.prog 16 #[.pointer p1, .int .i64 x40, .slice a7 n7 c7] w_19 fun e_3 w_20 => KeepG [g] w_19 w_20 ∧
    ∃ (a52_0 : Option Addr) (n52_0 : Nat) (c52_0 : Nat) (x52_1 : Int),
    e_3 = .returned (.tuple #[.slice a52_0 n52_0 c52_0, .int .i64 x52_1]) ∧
    Calls Try.prog 66 #[.pointer p2, .int .i64 x40, .string (strOf bs42)] w_20 fun e_4 w_21 => KeepG [g] w_20 w_21 ∧
    ∃ (s59_0 : ByteArray) (x59_1 : Int),
    e_4 = .returned (.tuple #[.string s59_0, .int .i64 x59_1]) ∧
    br (decide (((n52_0 : Nat) : Int) > 0)) (
      br (decide (((s59_0.size : Nat) : Int) > 0)) (
        withP a52_0 fun g71 o71 =>
        (0 : Int) ≤ 0 ∧ 0 < (((n52_0 : Nat) : Int) : Int) ∧
        ∃ (x72 : Int), w_21.cell? ⟨g71, o71 + (0 : Int).toNat * 1, none⟩ = some (.int .u8 x72) ∧
        withP a52_0 fun g74 o74 =>
        (0 : Int) ≤ 0 ∧ 0 < (((n52_0 : Nat) : Int) : Int) ∧
        stO [g] w_21 g74 (o74 + (0 : Int).toNat * 1) [.int .u8 (bitsV .xor .u8 x72 1)] fun w_22 =>
        drewO w_22 fun w_23 =>
        (0 : Int) ≤ 0 ∧ 0 < (((s59_0.size : Nat) : Int) : Int) ∧
        (0 : Int) ≤ 1 ∧ 1 ≤ (((s59_0.size : Nat) : Int) : Int) ∧
        newO w_23 (.cells #[.int .u8 (bitsV .xor .u8 (byteAt s59_0 0) 1)] 5) fun g_7 w_24 =>
        ∃ bs79 : List UInt8, bs79.length = 1 ∧ RowAt w_24 (some ⟨g_7, 0, none⟩) (bs79.map bV) ∧
        (strOf bs79).size + (s59_0.extract ((1 : Int).toNat) s59_0.size).size ≤ 9223372036854775807 ∧
        ∃ bs84 : List UInt8, bs84.length = n52_0 ∧ RowAt w_24 a52_0 (bs84.map bV) ∧
        br (decide ((strOf bs84) = ((strOf bs79) ++ (s59_0.extract ((1 : Int).toNat) s59_0.size)))) (
          K (.bool (decide (x52_1 = x59_1))) w_24
        ) (
          K (.bool false) w_24
        )
      ) (
        ∃ bs84_2 : List UInt8, bs84_2.length = n52_0 ∧ RowAt w_21 a52_0 (bs84_2.map bV) ∧
        br (decide ((strOf bs84_2) = s59_0)) (
          K (.bool (decide (x52_1 = x59_1))) w_21
        ) (
          K (.bool false) w_21
        )
      )
    ) (
      ∃ bs84_3 : List UInt8, bs84_3.length = n52_0 ∧ RowAt w_21 a52_0 (bs84_3.map bV) ∧
      br (decide ((strOf bs84_3) = s59_0)) (
        K (.bool (decide (x52_1 = x59_1))) w_21
      ) (
        K (.bool false) w_21
      )
    )
  ) (
    Calls Try.prog 15 #[.pointer p1, .int .i64 x40, .slice a7 n7 c7, .slice a8 n8 c8] w_19 fun e_5 w_25 => KeepG [g] w_19 w_25 ∧
    ∃ (x96 : Int),
    e_5 = .returned (.int .i64 x96) ∧
    ∃ (I : Int → World → Prop) (μ : Int → World → Nat),
    I 0 w_25 ∧
    ∀ (x17 : Int) (w_26 : World), I x17 w_26 →
    br (decide (x17 < ((n7 : Nat) : Int))) (
      withP a7 fun g105 o105 =>
      (0 : Int) ≤ x17 ∧ x17 < (((n7 : Nat) : Int) : Int) ∧
      ∃ (x106 : Int), w_26.cell? ⟨g105, o105 + x17.toNat * 1, none⟩ = some (.int .u8 x106) ∧
      withP a7 fun g108 o108 =>
      (0 : Int) ≤ x17 ∧ x17 < (((n7 : Nat) : Int) : Int) ∧
      stO [g] w_26 g108 (o108 + x17.toNat * 1) [.int .u8 (bitsV .xor .u8 x106 3)] fun w_27 =>
      I (IntKind.i64.wrap (x17 + 1)) w_27 ∧ μ (IntKind.i64.wrap (x17 + 1)) w_27 < μ x17 w_26
    ) (
      ∃ (I_2 : Int → World → Prop) (μ_2 : Int → World → Nat),
      I_2 0 w_26 ∧
      ∀ (x18 : Int) (w_28 : World), I_2 x18 w_28 →
      br (decide (x18 < ((n8 : Nat) : Int))) (
        withP a8 fun g117 o117 =>
        (0 : Int) ≤ x18 ∧ x18 < (((n8 : Nat) : Int) : Int) ∧
        ∃ (x118 : Int), w_28.cell? ⟨g117, o117 + x18.toNat * 1, none⟩ = some (.int .u8 x118) ∧
        withP a8 fun g120 o120 =>
        (0 : Int) ≤ x18 ∧ x18 < (((n8 : Nat) : Int) : Int) ∧
        stO [g] w_28 g120 (o120 + x18.toNat * 1) [.int .u8 (bitsV .xor .u8 x118 3)] fun w_29 =>
        I_2 (IntKind.i64.wrap (x18 + 1)) w_29 ∧ μ_2 (IntKind.i64.wrap (x18 + 1)) w_29 < μ_2 x18 w_28
      ) (
        Calls Try.prog 67 #[.pointer p2, .int .i64 x40, .string (strOf bs42), .string (strOf bs44)] w_28 fun e_6 w_30 => KeepG [g] w_28 w_30 ∧
        ∃ (x126 : Int),
        e_6 = .returned (.int .i64 x126) ∧
        K (.bool (decide (x96 = x126))) w_30
      )
    )
  )
def aDo_notes : Notes := ⟨[(1, ⟨[0, 0, 2, 0, 8, 24, 56, 126, 255, 0, 0, 1024, 0, 4096, 12288, 28672, 64512, 131071, 262143, 524287], [0, 8, 9, 17], [1, 2, 3, 4, 5, 6, 7, 10, 11, 12, 13, 14, 15, 16, 18, 19]⟩), (2, ⟨[0, 0, 2, 7, 15], [2, 3], [0, 1, 4]⟩), (3, ⟨[0, 1, 0, 4, 3, 31], [], [0, 1, 2, 3, 4, 5]⟩), (9, ⟨[0, 1, 3, 7, 15, 0, 32, 127, 255], [3], [0, 1, 2, 4, 5, 6, 7, 8]⟩)], [(13, ⟨[(17, .lf (.int .i64))], [], [97, 98, 99, 100, 103, 104, 105, 106, 107, 108, 101, 102, 17], []⟩), (17, ⟨[(18, .lf (.int .i64))], [], [109, 110, 111, 112, 115, 116, 117, 118, 119, 120, 113, 114, 18], []⟩)], [((0, 1), ⟨[(7, .lf (.slice)), (8, .lf (.slice))], [], [19, 20, 21, 22, 23, 24, 25, 26, 27, 28, 29, 30, 31, 32, 33, 34, 35, 36, 7, 8], []⟩)]⟩
theorem aDo_calls (b0_0 : Bool) (x0_1 : Int) (b0_2 : Bool) (a0_3 : Option Addr) (n0_3 : Nat) (c0_3 : Nat) (a0_4 : Option Addr) (n0_4 : Nat) (c0_4 : Nat) (p1 : Option Addr) (p2 : Option Addr) (w : World) (K : Value → World → Prop) (h : aDo_vc b0_0 x0_1 b0_2 a0_3 n0_3 c0_3 a0_4 n0_4 c0_4 p1 p2 w K) : Calls Try.prog 32 #[.agg #[.bool b0_0, .int .i64 x0_1, .bool b0_2, .slice a0_3 n0_3 c0_3, .slice a0_4 n0_4 c0_4], .pointer p1, .pointer p2] w fun e w' => ∃ v, e = .returned v ∧ K v w' :=
  calls_of_fvc envOk Try.func32 aDo_notes [3] [.agg #[.bool b0_0, .int .i64 x0_1, .bool b0_2, .slice a0_3 n0_3 c0_3, .slice a0_4 n0_4 c0_4], .pointer p1, .pointer p2] w K (use_vc h (by as_aux_lemma => kernel_rfl))
/-- purser/purserlaw18.none -/
def lNone_vc  (w : World) (K : Value → World → Prop) : Prop :=
  K (.pointer none) w
def lNone_notes : Notes := ⟨[], [], []⟩
theorem lNone_calls  (w : World) (K : Value → World → Prop) (h : lNone_vc  w K) : Calls Try.prog 29 #[] w fun e w' => ∃ v, e = .returned v ∧ K v w' :=
  calls_of_fvc envOk Try.func29 lNone_notes [] [] w K (use_vc h (by as_aux_lemma => kernel_rfl))
/-- purser/purserlaw18.WindowActs -/
def lActs_vc (x0 : Int) (b1 : Bool) (a2 : Option Addr) (n2 : Nat) (c2 : Nat) (w : World) (K : Value → World → Prop) : Prop :=
  Calls Try.prog 29 #[] w fun e w_2 => KeepG [] w w_2 ∧
  ∃ (p15 : Option Addr),
  e = .returned (.pointer p15) ∧
  Calls Try.prog 16 #[.pointer p15, .int .i64 0, .slice none 0 0] w_2 fun e_2 w_3 => KeepG [] w_2 w_3 ∧
  ∃ (a16_0 : Option Addr) (n16_0 : Nat) (c16_0 : Nat) (x16_1 : Int),
  e_2 = .returned (.tuple #[.slice a16_0 n16_0 c16_0, .int .i64 x16_1]) ∧
  Calls Try.prog 29 #[] w_3 fun e_3 w_4 => KeepG [] w_3 w_4 ∧
  ∃ (p20 : Option Addr),
  e_3 = .returned (.pointer p20) ∧
  Calls Try.prog 30 #[.pointer p20] w_4 fun e_4 w_5 => KeepG [] w_4 w_5 ∧
  ∃ (a21_0 : Option Addr) (n21_0 : Nat) (c21_0 : Nat) (x21_1 : Int),
  e_4 = .returned (.tuple #[.slice a21_0 n21_0 c21_0, .int .i64 x21_1]) ∧
  Calls Try.prog 14 #[] w_5 fun e_5 w_6 => KeepG [] w_5 w_6 ∧
  ∃ (b24 : Bool),
  e_5 = .returned (.bool b24) ∧
  br (!b24) (
    K (.bool false) w_6
  ) (
    br (decide (x16_1 ≠ 1)) (
      K (.bool false) w_6
    ) (
      br (decide (x21_1 ≠ 1)) (
        K (.bool false) w_6
      ) (
        Calls Try.prog 29 #[] w_6 fun e_6 w_7 => KeepG [] w_6 w_7 ∧
        ∃ (p35 : Option Addr),
        e_6 = .returned (.pointer p35) ∧
        Calls Try.prog 15 #[.pointer p35, .int .i64 0, .slice none 0 0, .slice none 0 0] w_7 fun e_7 w_8 => KeepG [] w_7 w_8 ∧
        ∃ (x36 : Int),
        e_7 = .returned (.int .i64 x36) ∧
        br (decide (x36 ≠ 1)) (
          K (.bool false) w_8
        ) (
          Calls Try.prog 29 #[] w_8 fun e_8 w_9 => KeepG [] w_8 w_9 ∧
          ∃ (p40 : Option Addr),
          e_8 = .returned (.pointer p40) ∧
          Calls Try.prog 17 #[.pointer p40] w_9 fun e_9 w_10 => KeepG [] w_9 w_10 ∧
          ∃ (x41 : Int),
          e_9 = .returned (.int .i64 x41) ∧
          br (decide (x41 ≠ 0)) (
            K (.bool false) w_10
          ) (
            Calls Try.prog 29 #[] w_10 fun e_10 w_11 => KeepG [] w_10 w_11 ∧
            ∃ (p45 : Option Addr),
            e_10 = .returned (.pointer p45) ∧
            Calls Try.prog 31 #[.pointer p45] w_11 fun e_11 w_12 => KeepG [] w_11 w_12 ∧
            ∃ (x46 : Int),
            e_11 = .returned (.int .i64 x46) ∧
            br (decide (x46 ≠ 0)) (
              K (.bool false) w_12
            ) (
              Calls Try.prog 13 #[.int .i64 x0, .bool b1] w_12 fun e_12 w_13 => KeepG [] w_12 w_13 ∧
              ∃ (p52_0 : Option Addr) (x52_1 : Int),
              e_12 = .returned (.tuple #[.pointer p52_0, .int .i64 x52_1]) ∧
              br (decide (x0 < 1)) (
                br (Option.isNone p52_0) (
                  K (.bool (decide (x52_1 = 1))) w_13
                ) (
                  K (.bool false) w_13
                )
              ) (
                br (decide (x0 > 64)) (
                  br (Option.isNone p52_0) (
                    K (.bool (decide (x52_1 = 1))) w_13
                  ) (
                    K (.bool false) w_13
                  )
                ) (
                  newO w_13 (.cells #[.int .i64 x0, .bool b1, .slice none 0 0] 61) fun g w_14 =>
                  ∃ (I : Int → World → Prop) (μ : Int → World → Nat),
                  I 0 w_14 ∧
                  ∀ (x13 : Int) (w_15 : World), I x13 w_15 →
                  br (decide (x13 < ((n2 : Nat) : Int))) (
                    br (decide (x13 < 100)) (
                      withP a2 fun g83 o83 =>
                      (0 : Int) ≤ x13 ∧ x13 < (((n2 : Nat) : Int) : Int) ∧
                      ∃ (b84_0 : Bool) (x84_1 : Int) (b84_2 : Bool) (a84_3 : Option Addr) (n84_3 : Nat) (c84_3 : Nat) (a84_4 : Option Addr) (n84_4 : Nat) (c84_4 : Nat),
                      cellsAt w_15 g83 (o83 + x13.toNat * 5) [.bool b84_0, .int .i64 x84_1, .bool b84_2, .slice a84_3 n84_3 c84_3, .slice a84_4 n84_4 c84_4] ∧
                      Calls Try.prog 32 #[.agg #[.bool b84_0, .int .i64 x84_1, .bool b84_2, .slice a84_3 n84_3 c84_3, .slice a84_4 n84_4 c84_4], .pointer p52_0, .pointer (some ⟨g, 0, none⟩)] w_15 fun e_13 w_16 => KeepG [] w_15 w_16 ∧
                      ∃ (b87 : Bool),
                      e_13 = .returned (.bool b87) ∧
                      br (!b87) (
                        K (.bool false) w_16
                      ) (
                        Calls Try.prog 17 #[.pointer p52_0] w_16 fun e_14 w_17 => KeepG [] w_16 w_17 ∧
                        ∃ (x91 : Int),
                        e_14 = .returned (.int .i64 x91) ∧
                        Calls Try.prog 33 #[.pointer (some ⟨g, 0, none⟩)] w_17 fun e_15 w_18 => KeepG [] w_17 w_18 ∧
                        ∃ (x93 : Int),
                        e_15 = .returned (.int .i64 x93) ∧
                        br (decide (x91 ≠ x93)) (
                          K (.bool false) w_18
                        ) (
                          Calls Try.prog 31 #[.pointer p52_0] w_18 fun e_16 w_19 => KeepG [] w_18 w_19 ∧
                          ∃ (x98 : Int),
                          e_16 = .returned (.int .i64 x98) ∧
                          Calls Try.prog 34 #[.pointer (some ⟨g, 0, none⟩)] w_19 fun e_17 w_20 => KeepG [] w_19 w_20 ∧
                          ∃ (a100 : Option Addr) (n100 : Nat) (c100 : Nat),
                          e_17 = .returned (.slice a100 n100 c100) ∧
                          br (decide (x98 ≠ ((n100 : Nat) : Int))) (
                            K (.bool false) w_20
                          ) (
                            I (IntKind.i64.wrap (x13 + 1)) w_20 ∧ μ (IntKind.i64.wrap (x13 + 1)) w_20 < μ x13 w_15
                          )
                        )
                      )
                    ) (
                      K (.bool (decide (x52_1 = 0))) w_15
                    )
                  ) (
                    K (.bool (decide (x52_1 = 0))) w_15
                  )
                )
              )
            )
          )
        )
      )
    )
  )
def lActs_notes : Notes := ⟨[], [(10, ⟨[(13, .lf (.int .i64))], [], [71, 72, 73, 74, 75, 76, 77, 78, 81, 82, 83, 84, 85, 86, 87, 88, 89, 90, 91, 92, 93, 94, 95, 96, 97, 98, 99, 100, 101, 102, 103, 6, 79, 80, 13], []⟩)], []⟩
theorem lActs_calls (x0 : Int) (b1 : Bool) (a2 : Option Addr) (n2 : Nat) (c2 : Nat) (w : World) (K : Value → World → Prop) (h : lActs_vc x0 b1 a2 n2 c2 w K) : Calls Try.prog 7 #[.int .i64 x0, .bool b1, .slice a2 n2 c2] w fun e w' => ∃ v, e = .returned v ∧ K v w' :=
  calls_of_fvc envOk Try.func7 lActs_notes [] [.int .i64 x0, .bool b1, .slice a2 n2 c2] w K (use_vc h (by as_aux_lemma => kernel_rfl))
/-- (*purser/purserref18.Window).Last -/
def rLast_vc (p0 : Option Addr) (w : World) (K : Value → World → Prop) : Prop :=
  withP p0 fun g4 o4 =>
  ∃ (a6 : Option Addr) (n6 : Nat) (c6 : Nat), w.cell? ⟨g4, o4 + 2, none⟩ = some (.slice a6 n6 c6) ∧
  br (decide (((n6 : Nat) : Int) = 0)) (
    K (.int .i64 (-1)) w
  ) (
    drewO w fun w_2 =>
    withP p0 fun g10 o10 =>
    ∃ (a12 : Option Addr) (n12 : Nat) (c12 : Nat), w_2.cell? ⟨g10, o10 + 2, none⟩ = some (.slice a12 n12 c12) ∧
    withP p0 fun g14 o14 =>
    ∃ (a16 : Option Addr) (n16 : Nat) (c16 : Nat), w_2.cell? ⟨g14, o14 + 2, none⟩ = some (.slice a16 n16 c16) ∧
    withP a12 fun g19 o19 =>
    (0 : Int) ≤ IntKind.i64.wrap (((n16 : Nat) : Int) - 1) ∧ IntKind.i64.wrap (((n16 : Nat) : Int) - 1) < (((n12 : Nat) : Int) : Int) ∧
    ∃ (x21 : Int), w_2.cell? ⟨g19, o19 + (IntKind.i64.wrap (((n16 : Nat) : Int) - 1)).toNat * 3, none⟩ = some (.int .i64 x21) ∧
    K (.int .i64 x21) w_2
  )
def rLast_notes : Notes := ⟨[(3, ⟨[0, 1, 3, 7, 0, 16, 48, 112, 240, 496, 1023, 2047, 4095, 8191], [], [0, 1, 2, 3, 4, 5, 6, 7, 8, 9, 10, 11, 12, 13]⟩)], [], []⟩
theorem rLast_calls (p0 : Option Addr) (w : World) (K : Value → World → Prop) (h : rLast_vc p0 w K) : Calls Try.prog 33 #[.pointer p0] w fun e w' => ∃ v, e = .returned v ∧ K v w' :=
  calls_of_fvc envOk Try.func33 rLast_notes [] [.pointer p0] w K (use_vc h (by as_aux_lemma => kernel_rfl))
/-- (*purser/purserref18.Window).Kept -/
def rKept_vc (p0 : Option Addr) (w : World) (K : Value → World → Prop) : Prop :=
  drewO w fun w_2 =>
  withP p0 fun g4 o4 =>
  ∃ (a6 : Option Addr) (n6 : Nat) (c6 : Nat), w_2.cell? ⟨g4, o4 + 2, none⟩ = some (.slice a6 n6 c6) ∧
  withP p0 fun g8 o8 =>
  ∃ (a10 : Option Addr) (n10 : Nat) (c10 : Nat), w_2.cell? ⟨g8, o8 + 2, none⟩ = some (.slice a10 n10 c10) ∧
  withP p0 fun g13 o13 =>
  ∃ (x15 : Int), w_2.cell? ⟨g13, o13, none⟩ = some (.int .i64 x15) ∧
  (0 : Int) ≤ max (IntKind.i64.wrap (((n10 : Nat) : Int) - x15)) 0 ∧ max (IntKind.i64.wrap (((n10 : Nat) : Int) - x15)) 0 ≤ (((n6 : Nat) : Int) : Int) ∧
  K (.slice (sliceBase a6 c6 ((max (IntKind.i64.wrap (((n10 : Nat) : Int) - x15)) 0).toNat) 3) (n6 - (max (IntKind.i64.wrap (((n10 : Nat) : Int) - x15)) 0).toNat) (c6 - (max (IntKind.i64.wrap (((n10 : Nat) : Int) - x15)) 0).toNat)) w_2
def rKept_notes : Notes := ⟨[(1, ⟨[0, 1, 3, 7, 0, 16, 48, 112, 240, 0, 512, 1536, 3584, 8176, 16368, 32767, 65535], [], [0, 1, 2, 3, 4, 5, 6, 7, 8, 9, 10, 11, 12, 13, 14, 15, 16]⟩)], [], []⟩
theorem rKept_calls (p0 : Option Addr) (w : World) (K : Value → World → Prop) (h : rKept_vc p0 w K) : Calls Try.prog 34 #[.pointer p0] w fun e w' => ∃ v, e = .returned v ∧ K v w' :=
  calls_of_fvc envOk Try.func34 rKept_notes [] [.pointer p0] w K (use_vc h (by as_aux_lemma => kernel_rfl))
/-- (*purser/purserref18.Window).Look -/
def rLook_vc (p0 : Option Addr) (x1 : Int) (s2 : ByteArray) (w : World) (K : Value → World → Prop) : Prop :=
  br (decide (x1 < 0)) (
    K (.tuple #[.string (⟨#[]⟩), .int .i64 1]) w
  ) (
    br (decide (x1 > 4611686018427387904)) (
      K (.tuple #[.string (⟨#[]⟩), .int .i64 1]) w
    ) (
      Calls Try.prog 34 #[.pointer p0] w fun e w_2 => KeepG [] w w_2 ∧
      ∃ (a17 : Option Addr) (n17 : Nat) (c17 : Nat),
      e = .returned (.slice a17 n17 c17) ∧
      ∃ (I : Int → World → Prop) (μ : Int → World → Nat),
      I 0 w_2 ∧
      ∀ (x9 : Int) (w_3 : World), I x9 w_3 →
      br (decide (x9 < ((n17 : Nat) : Int))) (
        withP a17 fun g26 o26 =>
        (0 : Int) ≤ x9 ∧ x9 < (((n17 : Nat) : Int) : Int) ∧
        ∃ (x28 : Int), w_3.cell? ⟨g26, o26 + x9.toNat * 3, none⟩ = some (.int .i64 x28) ∧
        br (decide (x28 = x1)) (
          withP a17 fun g34 o34 =>
          (0 : Int) ≤ x9 ∧ x9 < (((n17 : Nat) : Int) : Int) ∧
          ∃ (s36 : ByteArray), w_3.cell? ⟨g34, o34 + x9.toNat * 3 + 1, none⟩ = some (.string s36) ∧
          br (decide (s36 = s2)) (
            withP a17 fun g42 o42 =>
            (0 : Int) ≤ x9 ∧ x9 < (((n17 : Nat) : Int) : Int) ∧
            ∃ (s44 : ByteArray), w_3.cell? ⟨g42, o42 + x9.toNat * 3 + 2, none⟩ = some (.string s44) ∧
            K (.tuple #[.string s44, .int .i64 0]) w_3
          ) (
            withP a17 fun g47 o47 =>
            (0 : Int) ≤ x9 ∧ x9 < (((n17 : Nat) : Int) : Int) ∧
            ∃ (x49 : Int), w_3.cell? ⟨g47, o47 + x9.toNat * 3, none⟩ = some (.int .i64 x49) ∧
            br (decide (x49 = x1)) (
              K (.tuple #[.string (⟨#[]⟩), .int .i64 14]) w_3
            ) (
              I (IntKind.i64.wrap (x9 + 1)) w_3 ∧ μ (IntKind.i64.wrap (x9 + 1)) w_3 < μ x9 w_3
            )
          )
        ) (
          withP a17 fun g47_2 o47_2 =>
          (0 : Int) ≤ x9 ∧ x9 < (((n17 : Nat) : Int) : Int) ∧
          ∃ (x49_2 : Int), w_3.cell? ⟨g47_2, o47_2 + x9.toNat * 3, none⟩ = some (.int .i64 x49_2) ∧
          br (decide (x49_2 = x1)) (
            K (.tuple #[.string (⟨#[]⟩), .int .i64 14]) w_3
          ) (
            I (IntKind.i64.wrap (x9 + 1)) w_3 ∧ μ (IntKind.i64.wrap (x9 + 1)) w_3 < μ x9 w_3
          )
        )
      ) (
        Calls Try.prog 33 #[.pointer p0] w_3 fun e_2 w_4 => KeepG [] w_3 w_4 ∧
        ∃ (x54 : Int),
        e_2 = .returned (.int .i64 x54) ∧
        br (decide (x1 ≤ x54)) (
          K (.tuple #[.string (⟨#[]⟩), .int .i64 13]) w_4
        ) (
          withP p0 fun g57 o57 =>
          ∃ (b59 : Bool), w_4.cell? ⟨g57, o57 + 1, none⟩ = some (.bool b59) ∧
          br b59 (
            Calls Try.prog 33 #[.pointer p0] w_4 fun e_3 w_5 => KeepG [] w_4 w_5 ∧
            ∃ (x63 : Int),
            e_3 = .returned (.int .i64 x63) ∧
            br (decide (x1 ≠ (IntKind.i64.wrap (x63 + 1)))) (
              K (.tuple #[.string (⟨#[]⟩), .int .i64 15]) w_5
            ) (
              K (.tuple #[.string (⟨#[]⟩), .int .i64 7]) w_5
            )
          ) (
            K (.tuple #[.string (⟨#[]⟩), .int .i64 7]) w_4
          )
        )
      )
    )
  )
def rLook_notes : Notes := ⟨[], [(5, ⟨[(9, .lf (.int .i64))], [], [18, 19, 20, 21, 24, 25, 26, 27, 28, 29, 30, 31, 32, 33, 34, 35, 36, 37, 38, 39, 40, 41, 42, 43, 44, 6, 7, 45, 46, 47, 48, 49, 50, 51, 22, 23, 9], []⟩)], []⟩
theorem rLook_calls (p0 : Option Addr) (x1 : Int) (s2 : ByteArray) (w : World) (K : Value → World → Prop) (h : rLook_vc p0 x1 s2 w K) : Calls Try.prog 66 #[.pointer p0, .int .i64 x1, .string s2] w fun e w' => ∃ v, e = .returned v ∧ K v w' :=
  calls_of_fvc envOk Try.func66 rLook_notes [] [.pointer p0, .int .i64 x1, .string s2] w K (use_vc h (by as_aux_lemma => kernel_rfl))
/-- (*purser/purserref18.Window).DocKeep -/
def rKeep_vc (p0 : Option Addr) (x1 : Int) (s2 : ByteArray) (s3 : ByteArray) (w : World) (K : Value → World → Prop) : Prop :=
  Calls Try.prog 66 #[.pointer p0, .int .i64 x1, .string s2] w fun e w_2 => KeepG [] w w_2 ∧
  ∃ (s15_0 : ByteArray) (x15_1 : Int),
  e = .returned (.tuple #[.string s15_0, .int .i64 x15_1]) ∧
  br (decide (x15_1 = 0)) (
    K (.int .i64 8) w_2
  ) (
    br (decide (x15_1 ≠ 7)) (
      K (.int .i64 x15_1) w_2
    ) (
      br (decide (((s2.size : Nat) : Int) > 65536)) (
        K (.int .i64 5) w_2
      ) (
        br (decide (((s3.size : Nat) : Int) > 65536)) (
          K (.int .i64 5) w_2
        ) (
          withP p0 fun g33 o33 =>
          ∃ (a35 : Option Addr) (n35 : Nat) (c35 : Nat), w_2.cell? ⟨g33, o33 + 2, none⟩ = some (.slice a35 n35 c35) ∧
          newO w_2 (.cells #[.int .i64 x1, .string s2, .string s3] 116) fun g w_3 =>
          appO Try.prog [] w_3 116 3 40 59 a35 n35 c35 (.slice (some ⟨g, 0, none⟩) 1 1) fun m41 a41 c41 w_4 =>
          withP p0 fun g42 o42 =>
          stO [] w_4 g42 (o42 + 2) [.slice a41 (n35 + m41) c41] fun w_5 =>
          K (.int .i64 0) w_5
        )
      )
    )
  )
def rKeep_notes : Notes := ⟨[], [], []⟩
theorem rKeep_calls (p0 : Option Addr) (x1 : Int) (s2 : ByteArray) (s3 : ByteArray) (w : World) (K : Value → World → Prop) (h : rKeep_vc p0 x1 s2 s3 w K) : Calls Try.prog 67 #[.pointer p0, .int .i64 x1, .string s2, .string s3] w fun e w' => ∃ v, e = .returned v ∧ K v w' :=
  calls_of_fvc envOk Try.func67 rKeep_notes [] [.pointer p0, .int .i64 x1, .string s2, .string s3] w K (use_vc h (by as_aux_lemma => kernel_rfl))
/-- (*purser/window.Window).Write -/
def wWrite_vc (p0 : Option Addr) (w : World) (K : Value → World → Prop) : Prop :=
  br (Option.isNone p0) (
    K (.tuple #[.slice none 0 0, .int .i64 1]) w
  ) (
    newO w (.cells #[.slice none 0 0, .bool false] 76) fun g w_2 =>
    withP p0 fun g13 o13 =>
    ∃ (x15 : Int), w_2.cell? ⟨g13, o13, none⟩ = some (.int .i64 x15) ∧
    Calls Try.prog 62 #[.pointer (some ⟨g, 0, none⟩), .int .i64 x15] w_2 fun e w_3 => KeepG [] w_2 w_3 ∧
    e = .returned (.tuple #[]) ∧
    withP p0 fun g19 o19 =>
    ∃ (b21 : Bool), w_3.cell? ⟨g19, o19 + 1, none⟩ = some (.bool b21) ∧
    Calls Try.prog 63 #[.pointer (some ⟨g, 0, none⟩), .bool b21] w_3 fun e_2 w_4 => KeepG [] w_3 w_4 ∧
    e_2 = .returned (.tuple #[]) ∧
    withP p0 fun g25 o25 =>
    ∃ (x27 : Int), w_4.cell? ⟨g25, o25 + 2, none⟩ = some (.int .i64 x27) ∧
    Calls Try.prog 38 #[.pointer (some ⟨g, 0, none⟩), .int .i64 x27] w_4 fun e_3 w_5 => KeepG [] w_4 w_5 ∧
    e_3 = .returned (.tuple #[]) ∧
    withP p0 fun g31 o31 =>
    ∃ (a33 : Option Addr) (n33 : Nat) (c33 : Nat), w_5.cell? ⟨g31, o31 + 3, none⟩ = some (.slice a33 n33 c33) ∧
    Calls Try.prog 62 #[.pointer (some ⟨g, 0, none⟩), .int .i64 ((n33 : Nat) : Int)] w_5 fun e_4 w_6 => KeepG [] w_5 w_6 ∧
    e_4 = .returned (.tuple #[]) ∧
    withP p0 fun g37 o37 =>
    ∃ (a39 : Option Addr) (n39 : Nat) (c39 : Nat), w_6.cell? ⟨g37, o37 + 3, none⟩ = some (.slice a39 n39 c39) ∧
    ∃ (I : Int → World → Prop) (μ : Int → World → Nat),
    I 0 w_6 ∧
    ∀ (x41 : Int) (w_7 : World), I x41 w_7 →
    br (decide (x41 < ((n39 : Nat) : Int))) (
      withP a39 fun g43 o43 =>
      (0 : Int) ≤ x41 ∧ x41 < (((n39 : Nat) : Int) : Int) ∧
      ∃ (x44_0 : Int) (a44_1 : Option Addr) (n44_1 : Nat) (c44_1 : Nat) (a44_2 : Option Addr) (n44_2 : Nat) (c44_2 : Nat),
      cellsAt w_7 g43 (o43 + x41.toNat * 3) [.int .i64 x44_0, .slice a44_1 n44_1 c44_1, .slice a44_2 n44_2 c44_2] ∧
      newO w_7 (.cells #[.int .i64 0, .slice none 0 0, .slice none 0 0] 96) fun g_2 w_8 =>
      ∀ w_9 : World, BoxSt g_2 w_8 w_9 →
      Calls Try.prog 62 #[.pointer (some ⟨g, 0, none⟩), .int .i64 x44_0] w_9 fun e_5 w_10 => KeepG [g_2] w_9 w_10 ∧
      e_5 = .returned (.tuple #[]) ∧
      Calls Try.prog 64 #[.pointer (some ⟨g, 0, none⟩), .slice a44_1 n44_1 c44_1] w_10 fun e_6 w_11 => KeepG [g_2] w_10 w_11 ∧
      e_6 = .returned (.tuple #[]) ∧
      Calls Try.prog 64 #[.pointer (some ⟨g, 0, none⟩), .slice a44_2 n44_2 c44_2] w_11 fun e_7 w_12 => KeepG [g_2] w_11 w_12 ∧
      e_7 = .returned (.tuple #[]) ∧
      I (IntKind.i64.wrap (x41 + 1)) w_12 ∧ μ (IntKind.i64.wrap (x41 + 1)) w_12 < μ x41 w_7
    ) (
      Calls Try.prog 39 #[.pointer (some ⟨g, 0, none⟩)] w_7 fun e_8 w_13 => KeepG [] w_7 w_13 ∧
      ∃ (a59_0 : Option Addr) (n59_0 : Nat) (c59_0 : Nat) (x59_1 : Int),
      e_8 = .returned (.tuple #[.slice a59_0 n59_0 c59_0, .int .i64 x59_1]) ∧
      K (.tuple #[.slice a59_0 n59_0 c59_0, .int .i64 x59_1]) w_13
    )
  )
def wWrite_notes : Notes := ⟨[], [(9, ⟨[(41, .lf (.int .i64))], [], [42, 43, 44, 6, 45, 46, 47, 48, 49, 50, 51, 52, 53, 54, 55, 56, 57, 41], [6]⟩)], []⟩
theorem wWrite_calls (p0 : Option Addr) (w : World) (K : Value → World → Prop) (h : wWrite_vc p0 w K) : Calls Try.prog 30 #[.pointer p0] w fun e w' => ∃ v, e = .returned v ∧ K v w' :=
  calls_of_fvc envOk Try.func30 wWrite_notes [6] [.pointer p0] w K (use_vc h (by as_aux_lemma => kernel_rfl))
end GWinActs
end Go.Proofs.Ytjjmhmbmjpedkaa
