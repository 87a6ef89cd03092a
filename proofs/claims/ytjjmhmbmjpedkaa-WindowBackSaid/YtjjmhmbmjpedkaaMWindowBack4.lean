import Derived.Test.YtjjmhmbmjpedkaaProg
import Derived.Test.YtjjmhmbmjpedkaaMWindowBack2
import Derived.Test.YtjjmhmbmjpedkaaMWindowBack1
import Derived.Test.YtjjmhmbmjpedkaaMWindowBack3
import Derived.Laws.BitsAllLaws
import Derived.Test.YtjjmhmbmjpedkaaRows
section
/- Conditions of functions, printed by a program of this claim's own (vcgen.py) out of the loaded code; each is proved to be enough. -/
set_option maxRecDepth 100000
namespace Go.Proofs.Ytjjmhmbmjpedkaa
open Go.RowKit
namespace GWinActs
def env : Env := ⟨[(3, ⟨.int .i64, 1, .int .i64 0, 8, [.int .i64]⟩), (4, ⟨.bool, 1, .bool false, 1, [.bool]⟩), (5, ⟨.int .u8, 1, .int .u8 0, 1, [.int .u8]⟩), (9, ⟨.str, 1, .string ByteArray.empty, 16, [.str]⟩), (23, ⟨.int .u64, 1, .int .u64 0, 8, [.int .u64]⟩), (24, ⟨.ptr, 1, .pointer none, 8, [.ptr]⟩), (30, ⟨.slice 5, 1, .slice none 0 0, 24, [.slice]⟩), (55, ⟨.slice 63, 1, .slice none 0 0, 24, [.slice]⟩), (59, ⟨.slice 116, 1, .slice none 0 0, 24, [.slice]⟩), (61, ⟨.struct [(0, 3), (1, 4), (2, 59)], 3, .agg #[.int .i64 0, .bool false, .slice none 0 0], 40, [.int .i64, .bool, .slice]⟩), (63, ⟨.struct [(0, 4), (1, 3), (2, 4), (3, 30), (4, 30)], 5, .agg #[.bool false, .int .i64 0, .bool false, .slice none 0 0, .slice none 0 0], 72, [.bool, .int .i64, .bool, .slice, .slice]⟩), (76, ⟨.struct [(0, 30), (1, 4)], 2, .agg #[.slice none 0 0, .bool false], 32, [.slice, .bool]⟩), (91, ⟨.slice 96, 1, .slice none 0 0, 24, [.slice]⟩), (93, ⟨.struct [(0, 3), (1, 4), (2, 3), (3, 91)], 4, .agg #[.int .i64 0, .bool false, .int .i64 0, .slice none 0 0], 48, [.int .i64, .bool, .int .i64, .slice]⟩), (96, ⟨.struct [(0, 3), (1, 30), (2, 30)], 3, .agg #[.int .i64 0, .slice none 0 0, .slice none 0 0], 56, [.int .i64, .slice, .slice]⟩), (116, ⟨.struct [(0, 3), (1, 9), (2, 9)], 3, .agg #[.int .i64 0, .string ByteArray.empty, .string ByteArray.empty], 40, [.int .i64, .str, .str]⟩)], [(13, [.lf (.ptr), .lf (.int .i64)]), (14, [.lf (.bool)]), (15, [.lf (.int .i64)]), (16, [.lf (.slice), .lf (.int .i64)]), (17, [.lf (.int .i64)]), (29, [.lf (.ptr)]), (30, [.lf (.slice), .lf (.int .i64)]), (31, [.lf (.int .i64)]), (32, [.lf (.bool)]), (33, [.lf (.int .i64)]), (34, [.lf (.slice)]), (38, []), (39, [.lf (.slice), .lf (.int .i64)]), (62, []), (63, []), (64, []), (65, [.lf (.int .i64)]), (66, [.lf (.str), .lf (.int .i64)]), (67, [.lf (.int .i64)])]⟩
theorem ty3 : TyOk Try.prog 3 ⟨.int .i64, 1, .int .i64 0, 8, [.int .i64]⟩ := tyok (by kernel_rfl) (by kernel_rfl)
theorem ty4 : TyOk Try.prog 4 ⟨.bool, 1, .bool false, 1, [.bool]⟩ := tyok (by kernel_rfl) (by kernel_rfl)
theorem ty5 : TyOk Try.prog 5 ⟨.int .u8, 1, .int .u8 0, 1, [.int .u8]⟩ := tyok (by kernel_rfl) (by kernel_rfl)
theorem ty9 : TyOk Try.prog 9 ⟨.str, 1, .string ByteArray.empty, 16, [.str]⟩ := tyok (by kernel_rfl) (by kernel_rfl)
theorem ty23 : TyOk Try.prog 23 ⟨.int .u64, 1, .int .u64 0, 8, [.int .u64]⟩ := tyok (by kernel_rfl) (by kernel_rfl)
theorem ty24 : TyOk Try.prog 24 ⟨.ptr, 1, .pointer none, 8, [.ptr]⟩ := tyok (by kernel_rfl) (by kernel_rfl)
theorem ty30 : TyOk Try.prog 30 ⟨.slice 5, 1, .slice none 0 0, 24, [.slice]⟩ := tyok (by kernel_rfl) (by kernel_rfl)
theorem ty55 : TyOk Try.prog 55 ⟨.slice 63, 1, .slice none 0 0, 24, [.slice]⟩ := tyok (by kernel_rfl) (by kernel_rfl)
theorem ty59 : TyOk Try.prog 59 ⟨.slice 116, 1, .slice none 0 0, 24, [.slice]⟩ := tyok (by kernel_rfl) (by kernel_rfl)
theorem ty61 : TyOk Try.prog 61 ⟨.struct [(0, 3), (1, 4), (2, 59)], 3, .agg #[.int .i64 0, .bool false, .slice none 0 0], 40, [.int .i64, .bool, .slice]⟩ := tyok (by kernel_rfl) (by kernel_rfl)
theorem ty63 : TyOk Try.prog 63 ⟨.struct [(0, 4), (1, 3), (2, 4), (3, 30), (4, 30)], 5, .agg #[.bool false, .int .i64 0, .bool false, .slice none 0 0, .slice none 0 0], 72, [.bool, .int .i64, .bool, .slice, .slice]⟩ := tyok (by kernel_rfl) (by kernel_rfl)
theorem ty76 : TyOk Try.prog 76 ⟨.struct [(0, 30), (1, 4)], 2, .agg #[.slice none 0 0, .bool false], 32, [.slice, .bool]⟩ := tyok (by kernel_rfl) (by kernel_rfl)
theorem ty91 : TyOk Try.prog 91 ⟨.slice 96, 1, .slice none 0 0, 24, [.slice]⟩ := tyok (by kernel_rfl) (by kernel_rfl)
theorem ty93 : TyOk Try.prog 93 ⟨.struct [(0, 3), (1, 4), (2, 3), (3, 91)], 4, .agg #[.int .i64 0, .bool false, .int .i64 0, .slice none 0 0], 48, [.int .i64, .bool, .int .i64, .slice]⟩ := tyok (by kernel_rfl) (by kernel_rfl)
theorem ty96 : TyOk Try.prog 96 ⟨.struct [(0, 3), (1, 30), (2, 30)], 3, .agg #[.int .i64 0, .slice none 0 0, .slice none 0 0], 56, [.int .i64, .slice, .slice]⟩ := tyok (by kernel_rfl) (by kernel_rfl)
theorem ty116 : TyOk Try.prog 116 ⟨.struct [(0, 3), (1, 9), (2, 9)], 3, .agg #[.int .i64 0, .string ByteArray.empty, .string ByteArray.empty], 40, [.int .i64, .str, .str]⟩ := tyok (by kernel_rfl) (by kernel_rfl)
theorem fn13 : FnOk Try.prog 13 := fnok Try.func13 (by kernel_rfl) (by kernel_rfl)
theorem fn14 : FnOk Try.prog 14 := fnok Try.func14 (by kernel_rfl) (by kernel_rfl)
theorem fn15 : FnOk Try.prog 15 := fnok Try.func15 (by kernel_rfl) (by kernel_rfl)
theorem fn16 : FnOk Try.prog 16 := fnok Try.func16 (by kernel_rfl) (by kernel_rfl)
theorem fn17 : FnOk Try.prog 17 := fnok Try.func17 (by kernel_rfl) (by kernel_rfl)
theorem fn29 : FnOk Try.prog 29 := fnok Try.func29 (by kernel_rfl) (by kernel_rfl)
theorem fn30 : FnOk Try.prog 30 := fnok Try.func30 (by kernel_rfl) (by kernel_rfl)
theorem fn31 : FnOk Try.prog 31 := fnok Try.func31 (by kernel_rfl) (by kernel_rfl)
theorem fn32 : FnOk Try.prog 32 := fnok Try.func32 (by kernel_rfl) (by kernel_rfl)
theorem fn33 : FnOk Try.prog 33 := fnok Try.func33 (by kernel_rfl) (by kernel_rfl)
theorem fn34 : FnOk Try.prog 34 := fnok Try.func34 (by kernel_rfl) (by kernel_rfl)
theorem fn38 : FnOk Try.prog 38 := fnok Try.func38 (by kernel_rfl) (by kernel_rfl)
theorem fn39 : FnOk Try.prog 39 := fnok Try.func39 (by kernel_rfl) (by kernel_rfl)
theorem fn62 : FnOk Try.prog 62 := fnok Try.func62 (by kernel_rfl) (by kernel_rfl)
theorem fn63 : FnOk Try.prog 63 := fnok Try.func63 (by kernel_rfl) (by kernel_rfl)
theorem fn64 : FnOk Try.prog 64 := fnok Try.func64 (by kernel_rfl) (by kernel_rfl)
theorem fn65 : FnOk Try.prog 65 := fnok Try.func65 (by kernel_rfl) (by kernel_rfl)
theorem fn66 : FnOk Try.prog 66 := fnok Try.func66 (by kernel_rfl) (by kernel_rfl)
theorem fn67 : FnOk Try.prog 67 := fnok Try.func67 (by kernel_rfl) (by kernel_rfl)
theorem envOk : EOk Try.prog env := ⟨(by simp only [env, List.forall_mem_cons, List.not_mem_nil, false_implies, implies_true, and_true]; exact ⟨ty3, ty4, ty5, ty9, ty23, ty24, ty30, ty55, ty59, ty61, ty63, ty76, ty91, ty93, ty96, ty116⟩), (by simp only [env, List.forall_mem_cons, List.not_mem_nil, false_implies, implies_true, and_true]; exact ⟨fn13, fn14, fn15, fn16, fn17, fn29, fn30, fn31, fn32, fn33, fn34, fn38, fn39, fn62, fn63, fn64, fn65, fn66, fn67⟩), by kernel_rfl⟩
/-- (purser/purserlaw18.Act).number -/
def aNumber_vc (b0_0 : Bool) (x0_1 : Int) (b0_2 : Bool) (a0_3 : Option Addr) (n0_3 : Nat) (c0_3 : Nat) (a0_4 : Option Addr) (n0_4 : Nat) (c0_4 : Nat) (x1 : Int) (w : World) (K : Value → World → Prop) : Prop :=
  newO w (.cells #[.bool b0_0, .int .i64 x0_1, .bool b0_2, .slice a0_3 n0_3 c0_3, .slice a0_4 n0_4 c0_4] 63) fun g w_2 =>
  br b0_2 (
    K (.int .i64 x0_1) w_2
  ) (
    (5 : Int) ≠ 0 ∧
    (5 : Int) ≠ 0 ∧
    (2 : Int) ≠ 0 ∧
    K (.int .i64 (IntKind.i64.wrap ((IntKind.i64.wrap ((IntKind.i64.wrap (x1 + 1)) - (IntKind.i64.wrap (Int.tmod (IntKind.u64.wrap x0_1) 5)))) + (IntKind.i64.wrap (Int.tmod (IntKind.u64.wrap (Int.tdiv (IntKind.u64.wrap x0_1) 5)) 2))))) w_2
  )
def aNumber_notes : Notes := ⟨[], [], []⟩
theorem aNumber_calls (b0_0 : Bool) (x0_1 : Int) (b0_2 : Bool) (a0_3 : Option Addr) (n0_3 : Nat) (c0_3 : Nat) (a0_4 : Option Addr) (n0_4 : Nat) (c0_4 : Nat) (x1 : Int) (w : World) (K : Value → World → Prop) (h : aNumber_vc b0_0 x0_1 b0_2 a0_3 n0_3 c0_3 a0_4 n0_4 c0_4 x1 w K) : Calls Try.prog 65 #[.agg #[.bool b0_0, .int .i64 x0_1, .bool b0_2, .slice a0_3 n0_3 c0_3, .slice a0_4 n0_4 c0_4], .int .i64 x1] w fun e w' => ∃ v, e = .returned v ∧ K v w' :=
  calls_of_fvc envOk Try.func65 aNumber_notes [2] [.agg #[.bool b0_0, .int .i64 x0_1, .bool b0_2, .slice a0_3 n0_3 c0_3, .slice a0_4 n0_4 c0_4], .int .i64 x1] w K (use_vc h (by as_aux_lemma => kernel_rfl))
/-- (purser/purserlaw18.Act).do -/
def aDo_vc (b0_0 : Bool) (x0_1 : Int) (b0_2 : Bool) (a0_3 : Option Addr) (n0_3 : Nat) (c0_3 : Nat) (a0_4 : Option Addr) (n0_4 : Nat) (c0_4 : Nat) (p1 : Option Addr) (p2 : Option Addr) (w : World) (K : Value → World → Prop) : Prop :=
  newO w (.cells #[.bool b0_0, .int .i64 x0_1, .bool b0_2, .slice a0_3 n0_3 c0_3, .slice a0_4 n0_4 c0_4] 63) fun g w_2 =>
  ∃ (J : Option Addr → Nat → Nat → Option Addr → Nat → Nat → World → Prop), (
    drewO w_2 fun w_3 =>
    (0 : Int) ≤ min ((n0_3 : Nat) : Int) 300 ∧ min ((n0_3 : Nat) : Int) 300 ≤ (((c0_3 : Nat) : Int) : Int) ∧
    (0 : Int) ≤ min ((n0_4 : Nat) : Int) 300 ∧ min ((n0_4 : Nat) : Int) 300 ≤ (((c0_4 : Nat) : Int) : Int) ∧
    (
      newO w_3 (.cells #[] 5) fun g_2 w_4 =>
      (
        appO Try.prog [g] w_4 5 1 1 30 (some ⟨g_2, 0, none⟩) 0 0 (.slice a0_3 ((min ((n0_3 : Nat) : Int) 300).toNat) c0_3) fun m27 a27 c27 w_5 =>
        newO w_5 (.cells #[] 5) fun g_3 w_6 =>
        appO Try.prog [g] w_6 5 1 1 30 (some ⟨g_3, 0, none⟩) 0 0 (.slice a0_4 ((min ((n0_4 : Nat) : Int) 300).toNat) c0_4) fun m36 a36 c36 w_7 =>
        J a27 (0 + m27) c27 a36 (0 + m36) c36 w_7
      ) ∧
      (
        newO w_4 (.cells #[] 5) fun g_4 w_8 =>
        appO Try.prog [g] w_8 5 1 1 30 (some ⟨g_2, 0, none⟩) 0 0 (.slice a0_3 ((min ((n0_3 : Nat) : Int) 300).toNat) c0_3) fun m27_2 a27_2 c27_2 w_9 =>
        appO Try.prog [g] w_9 5 1 1 30 (some ⟨g_4, 0, none⟩) 0 0 (.slice a0_4 ((min ((n0_4 : Nat) : Int) 300).toNat) c0_4) fun m36_2 a36_2 c36_2 w_10 =>
        J a27_2 (0 + m27_2) c27_2 a36_2 (0 + m36_2) c36_2 w_10
      )
    ) ∧
    (
      newO w_3 (.cells #[] 5) fun g_5 w_11 =>
      newO w_11 (.cells #[] 5) fun g_6 w_12 =>
      appO Try.prog [g] w_12 5 1 1 30 (some ⟨g_6, 0, none⟩) 0 0 (.slice a0_3 ((min ((n0_3 : Nat) : Int) 300).toNat) c0_3) fun m27_3 a27_3 c27_3 w_13 =>
      appO Try.prog [g] w_13 5 1 1 30 (some ⟨g_5, 0, none⟩) 0 0 (.slice a0_4 ((min ((n0_4 : Nat) : Int) 300).toNat) c0_4) fun m36_3 a36_3 c36_3 w_14 =>
      J a27_3 (0 + m27_3) c27_3 a36_3 (0 + m36_3) c36_3 w_14
    )
  ) ∧
  ∀ (a7 : Option Addr) (n7 : Nat) (c7 : Nat) (a8 : Option Addr) (n8 : Nat) (c8 : Nat) (w_15 : World), J a7 n7 c7 a8 n8 c8 w_15 →
  drewO w_15 fun w_16 =>
  Calls Try.prog 33 #[.pointer p2] w_16 fun e w_17 => KeepG [g] w_16 w_17 ∧
  ∃ (x39 : Int),
  e = .returned (.int .i64 x39) ∧
  Calls Try.prog 65 #[.agg #[.bool b0_0, .int .i64 x0_1, .bool b0_2, .slice a0_3 n0_3 c0_3, .slice a0_4 n0_4 c0_4], .int .i64 x39] w_17 fun e_2 w_18 => KeepG [g] w_17 w_18 ∧
  ∃ (x40 : Int),
  e_2 = .returned (.int .i64 x40) ∧
  drewO w_18 fun w_19 =>
  ∃ bs42 : List UInt8, bs42.length = n7 ∧ RowAt w_19 a7 (bs42.map bV) ∧
  ∃ bs44 : List UInt8, bs44.length = n8 ∧ RowAt w_19 a8 (bs44.map bV) ∧
  br (!b0_0) (
    Calls Try.prog 16 #[.pointer p1, .int .i64 x40, .slice a7 n7 c7] w_19 fun e_3 w_20 => KeepG [g] w_19 w_20 ∧
    ∃ (a52_0 : Option Addr) (n52_0 : Nat) (c52_0 : Nat) (x52_1 : Int),
    e_3 = .returned (.tuple #[.slice a52_0 n52_0 c52_0, .int .i64 x52_1]) ∧
    Calls Try.prog 66 #[.pointer p2, .int .i64 x40, .string (strOf bs42)] w_20 fun e_4 w_21 => KeepG [g] w_20 w_21 ∧
    ∃ (s59_0 : ByteArray) (x59_1 : Int),
    e_4 = .returned (.tuple #[.string s59_0, .int .i64 x59_1]) ∧
    br (decide (((n52_0 : Nat) : Int) > 0)) (
      br (decide (((s59_0.size : Nat) : Int) > 0)) (
        withP a52_0 fun g71 o71 =>
        (0 : Int) ≤ 0 ∧ 0 < (((n52_0 : Nat) : Int) : Int) ∧
        ∃ (x72 : Int), w_21.cell? ⟨g71, o71 + (0 : Int).toNat * 1, none⟩ = some (.int .u8 x72) ∧
        withP a52_0 fun g74 o74 =>
        (0 : Int) ≤ 0 ∧ 0 < (((n52_0 : Nat) : Int) : Int) ∧
        stO [g] w_21 g74 (o74 + (0 : Int).toNat * 1) [.int .u8 (bitsV .xor .u8 x72 1)] fun w_22 =>
        drewO w_22 fun w_23 =>
        (0 : Int) ≤ 0 ∧ 0 < (((s59_0.size : Nat) : Int) : Int) ∧
        (0 : Int) ≤ 1 ∧ 1 ≤ (((s59_0.size : Nat) : Int) : Int) ∧
        newO w_23 (.cells #[.int .u8 (bitsV .xor .u8 (byteAt s59_0 0) 1)] 5) fun g_7 w_24 =>
        ∃ bs79 : List UInt8, bs79.length = 1 ∧ RowAt w_24 (some ⟨g_7, 0, none⟩) (bs79.map bV) ∧
        (strOf bs79).size + (s59_0.extract ((1 : Int).toNat) s59_0.size).size ≤ 9223372036854775807 ∧
        ∃ bs84 : List UInt8, bs84.length = n52_0 ∧ RowAt w_24 a52_0 (bs84.map bV) ∧
        br (decide ((strOf bs84) = ((strOf bs79) ++ (s59_0.extract ((1 : Int).toNat) s59_0.size)))) (
          K (.bool (decide (x52_1 = x59_1))) w_24
        ) (
          K (.bool false) w_24
        )
      ) (
        ∃ bs84_2 : List UInt8, bs84_2.length = n52_0 ∧ RowAt w_21 a52_0 (bs84_2.map bV) ∧
        br (decide ((strOf bs84_2) = s59_0)) (
          K (.bool (decide (x52_1 = x59_1))) w_21
        ) (
          K (.bool false) w_21
        )
      )
    ) (
      ∃ bs84_3 : List UInt8, bs84_3.length = n52_0 ∧ RowAt w_21 a52_0 (bs84_3.map bV) ∧
      br (decide ((strOf bs84_3) = s59_0)) (
        K (.bool (decide (x52_1 = x59_1))) w_21
      ) (
        K (.bool false) w_21
      )
    )
  ) (
    Calls Try.prog 15 #[.pointer p1, .int .i64 x40, .slice a7 n7 c7, .slice a8 n8 c8] w_19 fun e_5 w_25 => KeepG [g] w_19 w_25 ∧
    ∃ (x96 : Int),
    e_5 = .returned (.int .i64 x96) ∧
    ∃ (I : Int → World → Prop) (μ : Int → World → Nat),
    I 0 w_25 ∧
    ∀ (x17 : Int) (w_26 : World), I x17 w_26 →
    br (decide (x17 < ((n7 : Nat) : Int))) (
      withP a7 fun g105 o105 =>
      (0 : Int) ≤ x17 ∧ x17 < (((n7 : Nat) : Int) : Int) ∧
      ∃ (x106 : Int), w_26.cell? ⟨g105, o105 + x17.toNat * 1, none⟩ = some (.int .u8 x106) ∧
      withP a7 fun g108 o108 =>
      (0 : Int) ≤ x17 ∧ x17 < (((n7 : Nat) : Int) : Int) ∧
      stO [g] w_26 g108 (o108 + x17.toNat * 1) [.int .u8 (bitsV .xor .u8 x106 3)] fun w_27 =>
      I (IntKind.i64.wrap (x17 + 1)) w_27 ∧ μ (IntKind.i64.wrap (x17 + 1)) w_27 < μ x17 w_26
    ) (
      ∃ (I_2 : Int → World → Prop) (μ_2 : Int → World → Nat),
      I_2 0 w_26 ∧
      ∀ (x18 : Int) (w_28 : World), I_2 x18 w_28 →
      br (decide (x18 < ((n8 : Nat) : Int))) (
        withP a8 fun g117 o117 =>
        (0 : Int) ≤ x18 ∧ x18 < (((n8 : Nat) : Int) : Int) ∧
        ∃ (x118 : Int), w_28.cell? ⟨g117, o117 + x18.toNat * 1, none⟩ = some (.int .u8 x118) ∧
        withP a8 fun g120 o120 =>
        (0 : Int) ≤ x18 ∧ x18 < (((n8 : Nat) : Int) : Int) ∧
        stO [g] w_28 g120 (o120 + x18.toNat * 1) [.int .u8 (bitsV .xor .u8 x118 3)] fun w_29 =>
        I_2 (IntKind.i64.wrap (x18 + 1)) w_29 ∧ μ_2 (IntKind.i64.wrap (x18 + 1)) w_29 < μ_2 x18 w_28
      ) (
        Calls Try.prog 67 #[.pointer p2, .int .i64 x40, .string (strOf bs42), .string (strOf bs44)] w_28 fun e_6 w_30 => KeepG [g] w_28 w_30 ∧
        ∃ (x126 : Int),
        e_6 = .returned (.int .i64 x126) ∧
        K (.bool (decide (x96 = x126))) w_30
      )
    )
  )
def aDo_notes : Notes := ⟨[(1, ⟨[0, 0, 2, 0, 8, 24, 56, 126, 255, 0, 0, 1024, 0, 4096, 12288, 28672, 64512, 131071, 262143, 524287], [0, 8, 9, 17], [1, 2, 3, 4, 5, 6, 7, 10, 11, 12, 13, 14, 15, 16, 18, 19]⟩), (2, ⟨[0, 0, 2, 7, 15], [2, 3], [0, 1, 4]⟩), (3, ⟨[0, 1, 0, 4, 3, 31], [], [0, 1, 2, 3, 4, 5]⟩), (9, ⟨[0, 1, 3, 7, 15, 0, 32, 127, 255], [3], [0, 1, 2, 4, 5, 6, 7, 8]⟩)], [(13, ⟨[(17, .lf (.int .i64))], [], [97, 98, 99, 100, 103, 104, 105, 106, 107, 108, 101, 102, 17], []⟩), (17, ⟨[(18, .lf (.int .i64))], [], [109, 110, 111, 112, 115, 116, 117, 118, 119, 120, 113, 114, 18], []⟩)], [((0, 1), ⟨[(7, .lf (.slice)), (8, .lf (.slice))], [], [19, 20, 21, 22, 23, 24, 25, 26, 27, 28, 29, 30, 31, 32, 33, 34, 35, 36, 7, 8], []⟩)]⟩
theorem aDo_calls (b0_0 : Bool) (x0_1 : Int) (b0_2 : Bool) (a0_3 : Option Addr) (n0_3 : Nat) (c0_3 : Nat) (a0_4 : Option Addr) (n0_4 : Nat) (c0_4 : Nat) (p1 : Option Addr) (p2 : Option Addr) (w : World) (K : Value → World → Prop) (h : aDo_vc b0_0 x0_1 b0_2 a0_3 n0_3 c0_3 a0_4 n0_4 c0_4 p1 p2 w K) : Calls Try.prog 32 #[.agg #[.bool b0_0, .int .i64 x0_1, .bool b0_2, .slice a0_3 n0_3 c0_3, .slice a0_4 n0_4 c0_4], .pointer p1, .pointer p2] w fun e w' => ∃ v, e = .returned v ∧ K v w' :=
  calls_of_fvc envOk Try.func32 aDo_notes [3] [.agg #[.bool b0_0, .int .i64 x0_1, .bool b0_2, .slice a0_3 n0_3 c0_3, .slice a0_4 n0_4 c0_4], .pointer p1, .pointer p2] w K (use_vc h (by as_aux_lemma => kernel_rfl))
/-- purser/purserlaw18.none -/
def lNone_vc  (w : World) (K : Value → World → Prop) : Prop :=
  K (.pointer none) w
def lNone_notes : Notes := ⟨[], [], []⟩
theorem lNone_calls  (w : World) (K : Value → World → Prop) (h : lNone_vc  w K) : Calls Try.prog 29 #[] w fun e w' => ∃ v, e = .returned v ∧ K v w' :=
  calls_of_fvc envOk Try.func29 lNone_notes [] [] w K (use_vc h (by as_aux_lemma => kernel_rfl))
/-- purser/purserlaw18.WindowActs -/
def lActs_vc (x0 : Int) (b1 : Bool) (a2 : Option Addr) (n2 : Nat) (c2 : Nat) (w : World) (K : Value → World → Prop) : Prop :=
  Calls Try.prog 29 #[] w fun e w_2 => KeepG [] w w_2 ∧
  ∃ (p15 : Option Addr),
  e = .returned (.pointer p15) ∧
  Calls Try.prog 16 #[.pointer p15, .int .i64 0, .slice none 0 0] w_2 fun e_2 w_3 => KeepG [] w_2 w_3 ∧
  ∃ (a16_0 : Option Addr) (n16_0 : Nat) (c16_0 : Nat) (x16_1 : Int),
  e_2 = .returned (.tuple #[.slice a16_0 n16_0 c16_0, .int .i64 x16_1]) ∧
  Calls Try.prog 29 #[] w_3 fun e_3 w_4 => KeepG [] w_3 w_4 ∧
  ∃ (p20 : Option Addr),
  e_3 = .returned (.pointer p20) ∧
  Calls Try.prog 30 #[.pointer p20] w_4 fun e_4 w_5 => KeepG [] w_4 w_5 ∧
  ∃ (a21_0 : Option Addr) (n21_0 : Nat) (c21_0 : Nat) (x21_1 : Int),
  e_4 = .returned (.tuple #[.slice a21_0 n21_0 c21_0, .int .i64 x21_1]) ∧
  Calls Try.prog 14 #[] w_5 fun e_5 w_6 => KeepG [] w_5 w_6 ∧
  ∃ (b24 : Bool),
  e_5 = .returned (.bool b24) ∧
  br (!b24) (
    K (.bool false) w_6
  ) (
    br (decide (x16_1 ≠ 1)) (
      K (.bool false) w_6
    ) (
      br (decide (x21_1 ≠ 1)) (
        K (.bool false) w_6
      ) (
        Calls Try.prog 29 #[] w_6 fun e_6 w_7 => KeepG [] w_6 w_7 ∧
        ∃ (p35 : Option Addr),
        e_6 = .returned (.pointer p35) ∧
        Calls Try.prog 15 #[.pointer p35, .int .i64 0, .slice none 0 0, .slice none 0 0] w_7 fun e_7 w_8 => KeepG [] w_7 w_8 ∧
        ∃ (x36 : Int),
        e_7 = .returned (.int .i64 x36) ∧
        br (decide (x36 ≠ 1)) (
          K (.bool false) w_8
        ) (
          Calls Try.prog 29 #[] w_8 fun e_8 w_9 => KeepG [] w_8 w_9 ∧
          ∃ (p40 : Option Addr),
          e_8 = .returned (.pointer p40) ∧
          Calls Try.prog 17 #[.pointer p40] w_9 fun e_9 w_10 => KeepG [] w_9 w_10 ∧
          ∃ (x41 : Int),
          e_9 = .returned (.int .i64 x41) ∧
          br (decide (x41 ≠ 0)) (
            K (.bool false) w_10
          ) (
            Calls Try.prog 29 #[] w_10 fun e_10 w_11 => KeepG [] w_10 w_11 ∧
            ∃ (p45 : Option Addr),
            e_10 = .returned (.pointer p45) ∧
            Calls Try.prog 31 #[.pointer p45] w_11 fun e_11 w_12 => KeepG [] w_11 w_12 ∧
            ∃ (x46 : Int),
            e_11 = .returned (.int .i64 x46) ∧
            br (decide (x46 ≠ 0)) (
              K (.bool false) w_12
            ) (
              Calls Try.prog 13 #[.int .i64 x0, .bool b1] w_12 fun e_12 w_13 => KeepG [] w_12 w_13 ∧
              ∃ (p52_0 : Option Addr) (x52_1 : Int),
              e_12 = .returned (.tuple #[.pointer p52_0, .int .i64 x52_1]) ∧
              br (decide (x0 < 1)) (
                br (Option.isNone p52_0) (
                  K (.bool (decide (x52_1 = 1))) w_13
                ) (
                  K (.bool false) w_13
                )
              ) (
                br (decide (x0 > 64)) (
                  br (Option.isNone p52_0) (
                    K (.bool (decide (x52_1 = 1))) w_13
                  ) (
                    K (.bool false) w_13
                  )
                ) (
                  newO w_13 (.cells #[.int .i64 x0, .bool b1, .slice none 0 0] 61) fun g w_14 =>
                  ∃ (I : Int → World → Prop) (μ : Int → World → Nat),
                  I 0 w_14 ∧
                  ∀ (x13 : Int) (w_15 : World), I x13 w_15 →
                  br (decide (x13 < ((n2 : Nat) : Int))) (
                    br (decide (x13 < 100)) (
                      withP a2 fun g83 o83 =>
                      (0 : Int) ≤ x13 ∧ x13 < (((n2 : Nat) : Int) : Int) ∧
                      ∃ (b84_0 : Bool) (x84_1 : Int) (b84_2 : Bool) (a84_3 : Option Addr) (n84_3 : Nat) (c84_3 : Nat) (a84_4 : Option Addr) (n84_4 : Nat) (c84_4 : Nat),
                      cellsAt w_15 g83 (o83 + x13.toNat * 5) [.bool b84_0, .int .i64 x84_1, .bool b84_2, .slice a84_3 n84_3 c84_3, .slice a84_4 n84_4 c84_4] ∧
                      Calls Try.prog 32 #[.agg #[.bool b84_0, .int .i64 x84_1, .bool b84_2, .slice a84_3 n84_3 c84_3, .slice a84_4 n84_4 c84_4], .pointer p52_0, .pointer (some ⟨g, 0, none⟩)] w_15 fun e_13 w_16 => KeepG [] w_15 w_16 ∧
                      ∃ (b87 : Bool),
                      e_13 = .returned (.bool b87) ∧
                      br (!b87) (
                        K (.bool false) w_16
                      ) (
                        Calls Try.prog 17 #[.pointer p52_0] w_16 fun e_14 w_17 => KeepG [] w_16 w_17 ∧
                        ∃ (x91 : Int),
                        e_14 = .returned (.int .i64 x91) ∧
                        Calls Try.prog 33 #[.pointer (some ⟨g, 0, none⟩)] w_17 fun e_15 w_18 => KeepG [] w_17 w_18 ∧
                        ∃ (x93 : Int),
                        e_15 = .returned (.int .i64 x93) ∧
                        br (decide (x91 ≠ x93)) (
                          K (.bool false) w_18
                        ) (
                          Calls Try.prog 31 #[.pointer p52_0] w_18 fun e_16 w_19 => KeepG [] w_18 w_19 ∧
                          ∃ (x98 : Int),
                          e_16 = .returned (.int .i64 x98) ∧
                          Calls Try.prog 34 #[.pointer (some ⟨g, 0, none⟩)] w_19 fun e_17 w_20 => KeepG [] w_19 w_20 ∧
                          ∃ (a100 : Option Addr) (n100 : Nat) (c100 : Nat),
                          e_17 = .returned (.slice a100 n100 c100) ∧
                          br (decide (x98 ≠ ((n100 : Nat) : Int))) (
                            K (.bool false) w_20
                          ) (
                            I (IntKind.i64.wrap (x13 + 1)) w_20 ∧ μ (IntKind.i64.wrap (x13 + 1)) w_20 < μ x13 w_15
                          )
                        )
                      )
                    ) (
                      K (.bool (decide (x52_1 = 0))) w_15
                    )
                  ) (
                    K (.bool (decide (x52_1 = 0))) w_15
                  )
                )
              )
            )
          )
        )
      )
    )
  )
def lActs_notes : Notes := ⟨[], [(10, ⟨[(13, .lf (.int .i64))], [], [71, 72, 73, 74, 75, 76, 77, 78, 81, 82, 83, 84, 85, 86, 87, 88, 89, 90, 91, 92, 93, 94, 95, 96, 97, 98, 99, 100, 101, 102, 103, 6, 79, 80, 13], []⟩)], []⟩
theorem lActs_calls (x0 : Int) (b1 : Bool) (a2 : Option Addr) (n2 : Nat) (c2 : Nat) (w : World) (K : Value → World → Prop) (h : lActs_vc x0 b1 a2 n2 c2 w K) : Calls Try.prog 7 #[.int .i64 x0, .bool b1, .slice a2 n2 c2] w fun e w' => ∃ v, e = .returned v ∧ K v w' :=
  calls_of_fvc envOk Try.func7 lActs_notes [] [.int .i64 x0, .bool b1, .slice a2 n2 c2] w K (use_vc h (by as_aux_lemma => kernel_rfl))
/-- (*purser/purserref18.Window).Last -/
def rLast_vc (p0 : Option Addr) (w : World) (K : Value → World → Prop) : Prop :=
  withP p0 fun g4 o4 =>
  ∃ (a6 : Option Addr) (n6 : Nat) (c6 : Nat), w.cell? ⟨g4, o4 + 2, none⟩ = some (.slice a6 n6 c6) ∧
  br (decide (((n6 : Nat) : Int) = 0)) (
    K (.int .i64 (-1)) w
  ) (
    drewO w fun w_2 =>
    withP p0 fun g10 o10 =>
    ∃ (a12 : Option Addr) (n12 : Nat) (c12 : Nat), w_2.cell? ⟨g10, o10 + 2, none⟩ = some (.slice a12 n12 c12) ∧
    withP p0 fun g14 o14 =>
    ∃ (a16 : Option Addr) (n16 : Nat) (c16 : Nat), w_2.cell? ⟨g14, o14 + 2, none⟩ = some (.slice a16 n16 c16) ∧
    withP a12 fun g19 o19 =>
    (0 : Int) ≤ IntKind.i64.wrap (((n16 : Nat) : Int) - 1) ∧ IntKind.i64.wrap (((n16 : Nat) : Int) - 1) < (((n12 : Nat) : Int) : Int) ∧
    ∃ (x21 : Int), w_2.cell? ⟨g19, o19 + (IntKind.i64.wrap (((n16 : Nat) : Int) - 1)).toNat * 3, none⟩ = some (.int .i64 x21) ∧
    K (.int .i64 x21) w_2
  )
def rLast_notes : Notes := ⟨[(3, ⟨[0, 1, 3, 7, 0, 16, 48, 112, 240, 496, 1023, 2047, 4095, 8191], [], [0, 1, 2, 3, 4, 5, 6, 7, 8, 9, 10, 11, 12, 13]⟩)], [], []⟩
theorem rLast_calls (p0 : Option Addr) (w : World) (K : Value → World → Prop) (h : rLast_vc p0 w K) : Calls Try.prog 33 #[.pointer p0] w fun e w' => ∃ v, e = .returned v ∧ K v w' :=
  calls_of_fvc envOk Try.func33 rLast_notes [] [.pointer p0] w K (use_vc h (by as_aux_lemma => kernel_rfl))
/-- (*purser/purserref18.Window).Kept -/
def rKept_vc (p0 : Option Addr) (w : World) (K : Value → World → Prop) : Prop :=
  drewO w fun w_2 =>
  withP p0 fun g4 o4 =>
  ∃ (a6 : Option Addr) (n6 : Nat) (c6 : Nat), w_2.cell? ⟨g4, o4 + 2, none⟩ = some (.slice a6 n6 c6) ∧
  withP p0 fun g8 o8 =>
  ∃ (a10 : Option Addr) (n10 : Nat) (c10 : Nat), w_2.cell? ⟨g8, o8 + 2, none⟩ = some (.slice a10 n10 c10) ∧
  withP p0 fun g13 o13 =>
  ∃ (x15 : Int), w_2.cell? ⟨g13, o13, none⟩ = some (.int .i64 x15) ∧
  (0 : Int) ≤ max (IntKind.i64.wrap (((n10 : Nat) : Int) - x15)) 0 ∧ max (IntKind.i64.wrap (((n10 : Nat) : Int) - x15)) 0 ≤ (((n6 : Nat) : Int) : Int) ∧
  K (.slice (sliceBase a6 c6 ((max (IntKind.i64.wrap (((n10 : Nat) : Int) - x15)) 0).toNat) 3) (n6 - (max (IntKind.i64.wrap (((n10 : Nat) : Int) - x15)) 0).toNat) (c6 - (max (IntKind.i64.wrap (((n10 : Nat) : Int) - x15)) 0).toNat)) w_2
def rKept_notes : Notes := ⟨[(1, ⟨[0, 1, 3, 7, 0, 16, 48, 112, 240, 0, 512, 1536, 3584, 8176, 16368, 32767, 65535], [], [0, 1, 2, 3, 4, 5, 6, 7, 8, 9, 10, 11, 12, 13, 14, 15, 16]⟩)], [], []⟩
theorem rKept_calls (p0 : Option Addr) (w : World) (K : Value → World → Prop) (h : rKept_vc p0 w K) : Calls Try.prog 34 #[.pointer p0] w fun e w' => ∃ v, e = .returned v ∧ K v w' :=
  calls_of_fvc envOk Try.func34 rKept_notes [] [.pointer p0] w K (use_vc h (by as_aux_lemma => kernel_rfl))
/-- (*purser/purserref18.Window).Look -/
def rLook_vc (p0 : Option Addr) (x1 : Int) (s2 : ByteArray) (w : World) (K : Value → World → Prop) : Prop :=
  br (decide (x1 < 0)) (
    K (.tuple #[.string (⟨#[]⟩), .int .i64 1]) w
  ) (
    br (decide (x1 > 4611686018427387904)) (
      K (.tuple #[.string (⟨#[]⟩), .int .i64 1]) w
    ) (
      Calls Try.prog 34 #[.pointer p0] w fun e w_2 => KeepG [] w w_2 ∧
      ∃ (a17 : Option Addr) (n17 : Nat) (c17 : Nat),
      e = .returned (.slice a17 n17 c17) ∧
      ∃ (I : Int → World → Prop) (μ : Int → World → Nat),
      I 0 w_2 ∧
      ∀ (x9 : Int) (w_3 : World), I x9 w_3 →
      br (decide (x9 < ((n17 : Nat) : Int))) (
        withP a17 fun g26 o26 =>
        (0 : Int) ≤ x9 ∧ x9 < (((n17 : Nat) : Int) : Int) ∧
        ∃ (x28 : Int), w_3.cell? ⟨g26, o26 + x9.toNat * 3, none⟩ = some (.int .i64 x28) ∧
        br (decide (x28 = x1)) (
          withP a17 fun g34 o34 =>
          (0 : Int) ≤ x9 ∧ x9 < (((n17 : Nat) : Int) : Int) ∧
          ∃ (s36 : ByteArray), w_3.cell? ⟨g34, o34 + x9.toNat * 3 + 1, none⟩ = some (.string s36) ∧
          br (decide (s36 = s2)) (
            withP a17 fun g42 o42 =>
            (0 : Int) ≤ x9 ∧ x9 < (((n17 : Nat) : Int) : Int) ∧
            ∃ (s44 : ByteArray), w_3.cell? ⟨g42, o42 + x9.toNat * 3 + 2, none⟩ = some (.string s44) ∧
            K (.tuple #[.string s44, .int .i64 0]) w_3
          ) (
            withP a17 fun g47 o47 =>
            (0 : Int) ≤ x9 ∧ x9 < (((n17 : Nat) : Int) : Int) ∧
            ∃ (x49 : Int), w_3.cell? ⟨g47, o47 + x9.toNat * 3, none⟩ = some (.int .i64 x49) ∧
            br (decide (x49 = x1)) (
              K (.tuple #[.string (⟨#[]⟩), .int .i64 14]) w_3
            ) (
              I (IntKind.i64.wrap (x9 + 1)) w_3 ∧ μ (IntKind.i64.wrap (x9 + 1)) w_3 < μ x9 w_3
            )
          )
        ) (
          withP a17 fun g47_2 o47_2 =>
          (0 : Int) ≤ x9 ∧ x9 < (((n17 : Nat) : Int) : Int) ∧
          ∃ (x49_2 : Int), w_3.cell? ⟨g47_2, o47_2 + x9.toNat * 3, none⟩ = some (.int .i64 x49_2) ∧
          br (decide (x49_2 = x1)) (
            K (.tuple #[.string (⟨#[]⟩), .int .i64 14]) w_3
          ) (
            I (IntKind.i64.wrap (x9 + 1)) w_3 ∧ μ (IntKind.i64.wrap (x9 + 1)) w_3 < μ x9 w_3
          )
        )
      ) (
        Calls Try.prog 33 #[.pointer p0] w_3 fun e_2 w_4 => KeepG [] w_3 w_4 ∧
        ∃ (x54 : Int),
        e_2 = .returned (.int .i64 x54) ∧
        br (decide (x1 ≤ x54)) (
          K (.tuple #[.string (⟨#[]⟩), .int .i64 13]) w_4
        ) (
          withP p0 fun g57 o57 =>
          ∃ (b59 : Bool), w_4.cell? ⟨g57, o57 + 1, none⟩ = some (.bool b59) ∧
          br b59 (
            Calls Try.prog 33 #[.pointer p0] w_4 fun e_3 w_5 => KeepG [] w_4 w_5 ∧
            ∃ (x63 : Int),
            e_3 = .returned (.int .i64 x63) ∧
            br (decide (x1 ≠ (IntKind.i64.wrap (x63 + 1)))) (
              K (.tuple #[.string (⟨#[]⟩), .int .i64 15]) w_5
            ) (
              K (.tuple #[.string (⟨#[]⟩), .int .i64 7]) w_5
            )
          ) (
            K (.tuple #[.string (⟨#[]⟩), .int .i64 7]) w_4
          )
        )
      )
    )
  )
def rLook_notes : Notes := ⟨[], [(5, ⟨[(9, .lf (.int .i64))], [], [18, 19, 20, 21, 24, 25, 26, 27, 28, 29, 30, 31, 32, 33, 34, 35, 36, 37, 38, 39, 40, 41, 42, 43, 44, 6, 7, 45, 46, 47, 48, 49, 50, 51, 22, 23, 9], []⟩)], []⟩
theorem rLook_calls (p0 : Option Addr) (x1 : Int) (s2 : ByteArray) (w : World) (K : Value → World → Prop) (h : rLook_vc p0 x1 s2 w K) : Calls Try.prog 66 #[.pointer p0, .int .i64 x1, .string s2] w fun e w' => ∃ v, e = .returned v ∧ K v w' :=
  calls_of_fvc envOk Try.func66 rLook_notes [] [.pointer p0, .int .i64 x1, .string s2] w K (use_vc h (by as_aux_lemma => kernel_rfl))
/-- (*purser/purserref18.Window).DocKeep -/
def rKeep_vc (p0 : Option Addr) (x1 : Int) (s2 : ByteArray) (s3 : ByteArray) (w : World) (K : Value → World → Prop) : Prop :=
  Calls Try.prog 66 #[.pointer p0, .int .i64 x1, .string s2] w fun e w_2 => KeepG [] w w_2 ∧
  ∃ (s15_0 : ByteArray) (x15_1 : Int),
  e = .returned (.tuple #[.string s15_0, .int .i64 x15_1]) ∧
  br (decide (x15_1 = 0)) (
    K (.int .i64 8) w_2
  ) (
    br (decide (x15_1 ≠ 7)) (
      K (.int .i64 x15_1) w_2
    ) (
      br (decide (((s2.size : Nat) : Int) > 65536)) (
        K (.int .i64 5) w_2
      ) (
        br (decide (((s3.size : Nat) : Int) > 65536)) (
          K (.int .i64 5) w_2
        ) (
          withP p0 fun g33 o33 =>
          ∃ (a35 : Option Addr) (n35 : Nat) (c35 : Nat), w_2.cell? ⟨g33, o33 + 2, none⟩ = some (.slice a35 n35 c35) ∧
          newO w_2 (.cells #[.int .i64 x1, .string s2, .string s3] 116) fun g w_3 =>
          appO Try.prog [] w_3 116 3 40 59 a35 n35 c35 (.slice (some ⟨g, 0, none⟩) 1 1) fun m41 a41 c41 w_4 =>
          withP p0 fun g42 o42 =>
          stO [] w_4 g42 (o42 + 2) [.slice a41 (n35 + m41) c41] fun w_5 =>
          K (.int .i64 0) w_5
        )
      )
    )
  )
def rKeep_notes : Notes := ⟨[], [], []⟩
theorem rKeep_calls (p0 : Option Addr) (x1 : Int) (s2 : ByteArray) (s3 : ByteArray) (w : World) (K : Value → World → Prop) (h : rKeep_vc p0 x1 s2 s3 w K) : Calls Try.prog 67 #[.pointer p0, .int .i64 x1, .string s2, .string s3] w fun e w' => ∃ v, e = .returned v ∧ K v w' :=
  calls_of_fvc envOk Try.func67 rKeep_notes [] [.pointer p0, .int .i64 x1, .string s2, .string s3] w K (use_vc h (by as_aux_lemma => kernel_rfl))
/-- (*purser/window.Window).Write -/
def wWrite_vc (p0 : Option Addr) (w : World) (K : Value → World → Prop) : Prop :=
  br (Option.isNone p0) (
    K (.tuple #[.slice none 0 0, .int .i64 1]) w
  ) (
    newO w (.cells #[.slice none 0 0, .bool false] 76) fun g w_2 =>
    withP p0 fun g13 o13 =>
    ∃ (x15 : Int), w_2.cell? ⟨g13, o13, none⟩ = some (.int .i64 x15) ∧
    Calls Try.prog 62 #[.pointer (some ⟨g, 0, none⟩), .int .i64 x15] w_2 fun e w_3 => KeepG [] w_2 w_3 ∧
    e = .returned (.tuple #[]) ∧
    withP p0 fun g19 o19 =>
    ∃ (b21 : Bool), w_3.cell? ⟨g19, o19 + 1, none⟩ = some (.bool b21) ∧
    Calls Try.prog 63 #[.pointer (some ⟨g, 0, none⟩), .bool b21] w_3 fun e_2 w_4 => KeepG [] w_3 w_4 ∧
    e_2 = .returned (.tuple #[]) ∧
    withP p0 fun g25 o25 =>
    ∃ (x27 : Int), w_4.cell? ⟨g25, o25 + 2, none⟩ = some (.int .i64 x27) ∧
    Calls Try.prog 38 #[.pointer (some ⟨g, 0, none⟩), .int .i64 x27] w_4 fun e_3 w_5 => KeepG [] w_4 w_5 ∧
    e_3 = .returned (.tuple #[]) ∧
    withP p0 fun g31 o31 =>
    ∃ (a33 : Option Addr) (n33 : Nat) (c33 : Nat), w_5.cell? ⟨g31, o31 + 3, none⟩ = some (.slice a33 n33 c33) ∧
    Calls Try.prog 62 #[.pointer (some ⟨g, 0, none⟩), .int .i64 ((n33 : Nat) : Int)] w_5 fun e_4 w_6 => KeepG [] w_5 w_6 ∧
    e_4 = .returned (.tuple #[]) ∧
    withP p0 fun g37 o37 =>
    ∃ (a39 : Option Addr) (n39 : Nat) (c39 : Nat), w_6.cell? ⟨g37, o37 + 3, none⟩ = some (.slice a39 n39 c39) ∧
    ∃ (I : Int → World → Prop) (μ : Int → World → Nat),
    I 0 w_6 ∧
    ∀ (x41 : Int) (w_7 : World), I x41 w_7 →
    br (decide (x41 < ((n39 : Nat) : Int))) (
      withP a39 fun g43 o43 =>
      (0 : Int) ≤ x41 ∧ x41 < (((n39 : Nat) : Int) : Int) ∧
      ∃ (x44_0 : Int) (a44_1 : Option Addr) (n44_1 : Nat) (c44_1 : Nat) (a44_2 : Option Addr) (n44_2 : Nat) (c44_2 : Nat),
      cellsAt w_7 g43 (o43 + x41.toNat * 3) [.int .i64 x44_0, .slice a44_1 n44_1 c44_1, .slice a44_2 n44_2 c44_2] ∧
      newO w_7 (.cells #[.int .i64 0, .slice none 0 0, .slice none 0 0] 96) fun g_2 w_8 =>
      ∀ w_9 : World, BoxSt g_2 w_8 w_9 →
      Calls Try.prog 62 #[.pointer (some ⟨g, 0, none⟩), .int .i64 x44_0] w_9 fun e_5 w_10 => KeepG [g_2] w_9 w_10 ∧
      e_5 = .returned (.tuple #[]) ∧
      Calls Try.prog 64 #[.pointer (some ⟨g, 0, none⟩), .slice a44_1 n44_1 c44_1] w_10 fun e_6 w_11 => KeepG [g_2] w_10 w_11 ∧
      e_6 = .returned (.tuple #[]) ∧
      Calls Try.prog 64 #[.pointer (some ⟨g, 0, none⟩), .slice a44_2 n44_2 c44_2] w_11 fun e_7 w_12 => KeepG [g_2] w_11 w_12 ∧
      e_7 = .returned (.tuple #[]) ∧
      I (IntKind.i64.wrap (x41 + 1)) w_12 ∧ μ (IntKind.i64.wrap (x41 + 1)) w_12 < μ x41 w_7
    ) (
      Calls Try.prog 39 #[.pointer (some ⟨g, 0, none⟩)] w_7 fun e_8 w_13 => KeepG [] w_7 w_13 ∧
      ∃ (a59_0 : Option Addr) (n59_0 : Nat) (c59_0 : Nat) (x59_1 : Int),
      e_8 = .returned (.tuple #[.slice a59_0 n59_0 c59_0, .int .i64 x59_1]) ∧
      K (.tuple #[.slice a59_0 n59_0 c59_0, .int .i64 x59_1]) w_13
    )
  )
def wWrite_notes : Notes := ⟨[], [(9, ⟨[(41, .lf (.int .i64))], [], [42, 43, 44, 6, 45, 46, 47, 48, 49, 50, 51, 52, 53, 54, 55, 56, 57, 41], [6]⟩)], []⟩
theorem wWrite_calls (p0 : Option Addr) (w : World) (K : Value → World → Prop) (h : wWrite_vc p0 w K) : Calls Try.prog 30 #[.pointer p0] w fun e w' => ∃ v, e = .returned v ∧ K v w' :=
  calls_of_fvc envOk Try.func30 wWrite_notes [6] [.pointer p0] w K (use_vc h (by as_aux_lemma => kernel_rfl))
end GWinActs
end Go.Proofs.Ytjjmhmbmjpedkaa
end
section
/- Conditions of functions, printed by a program of this claim's own (vcgen.py) out of the loaded code; each is proved to be enough. -/
set_option maxRecDepth 100000
namespace Go.Proofs.Ytjjmhmbmjpedkaa
open Go.RowKit
namespace GWinLaw
def env : Env := ⟨[(3, ⟨.int .i64, 1, .int .i64 0, 8, [.int .i64]⟩), (5, ⟨.int .u8, 1, .int .u8 0, 1, [.int .u8]⟩), (9, ⟨.str, 1, .string ByteArray.empty, 16, [.str]⟩), (22, ⟨.slice 30, 1, .slice none 0 0, 24, [.slice]⟩), (23, ⟨.int .u64, 1, .int .u64 0, 8, [.int .u64]⟩), (30, ⟨.slice 5, 1, .slice none 0 0, 24, [.slice]⟩), (34, ⟨.slice 3, 1, .slice none 0 0, 24, [.slice]⟩)], [(13, [.lf (.ptr), .lf (.int .i64)]), (14, [.lf (.bool)]), (15, [.lf (.int .i64)]), (16, [.lf (.slice), .lf (.int .i64)]), (17, [.lf (.int .i64)])]⟩
theorem ty3 : TyOk Try.prog 3 ⟨.int .i64, 1, .int .i64 0, 8, [.int .i64]⟩ := tyok (by kernel_rfl) (by kernel_rfl)
theorem ty5 : TyOk Try.prog 5 ⟨.int .u8, 1, .int .u8 0, 1, [.int .u8]⟩ := tyok (by kernel_rfl) (by kernel_rfl)
theorem ty9 : TyOk Try.prog 9 ⟨.str, 1, .string ByteArray.empty, 16, [.str]⟩ := tyok (by kernel_rfl) (by kernel_rfl)
theorem ty22 : TyOk Try.prog 22 ⟨.slice 30, 1, .slice none 0 0, 24, [.slice]⟩ := tyok (by kernel_rfl) (by kernel_rfl)
theorem ty23 : TyOk Try.prog 23 ⟨.int .u64, 1, .int .u64 0, 8, [.int .u64]⟩ := tyok (by kernel_rfl) (by kernel_rfl)
theorem ty30 : TyOk Try.prog 30 ⟨.slice 5, 1, .slice none 0 0, 24, [.slice]⟩ := tyok (by kernel_rfl) (by kernel_rfl)
theorem ty34 : TyOk Try.prog 34 ⟨.slice 3, 1, .slice none 0 0, 24, [.slice]⟩ := tyok (by kernel_rfl) (by kernel_rfl)
theorem fn13 : FnOk Try.prog 13 := fnok Try.func13 (by kernel_rfl) (by kernel_rfl)
theorem fn14 : FnOk Try.prog 14 := fnok Try.func14 (by kernel_rfl) (by kernel_rfl)
theorem fn15 : FnOk Try.prog 15 := fnok Try.func15 (by kernel_rfl) (by kernel_rfl)
theorem fn16 : FnOk Try.prog 16 := fnok Try.func16 (by kernel_rfl) (by kernel_rfl)
theorem fn17 : FnOk Try.prog 17 := fnok Try.func17 (by kernel_rfl) (by kernel_rfl)
theorem envOk : EOk Try.prog env := ⟨(by simp only [env, List.forall_mem_cons, List.not_mem_nil, false_implies, implies_true, and_true]; exact ⟨ty3, ty5, ty9, ty22, ty23, ty30, ty34⟩), (by simp only [env, List.forall_mem_cons, List.not_mem_nil, false_implies, implies_true, and_true]; exact ⟨fn13, fn14, fn15, fn16, fn17⟩), by kernel_rfl⟩
/-- purser/purserlaw18.WindowKnown -/
def lKnown_vc (x0 : Int) (a1 : Option Addr) (n1 : Nat) (c1 : Nat) (x2 : Int) (w : World) (K : Value → World → Prop) : Prop :=
  (8 : Int) ≠ 0 ∧
  Calls Try.prog 13 #[.int .i64 (IntKind.i64.wrap (1 + (IntKind.i64.wrap (Int.tmod (IntKind.u64.wrap x0) 8)))), .bool true] w fun e w_2 => KeepG [] w w_2 ∧
  ∃ (p25_0 : Option Addr) (x25_1 : Int),
  e = .returned (.tuple #[.pointer p25_0, .int .i64 x25_1]) ∧
  Calls Try.prog 14 #[] w_2 fun e_2 w_3 => KeepG [] w_2 w_3 ∧
  ∃ (b28 : Bool),
  e_2 = .returned (.bool b28) ∧
  br (!b28) (
    K (.bool false) w_3
  ) (
    br (decide (x25_1 ≠ 0)) (
      K (.bool false) w_3
    ) (
      ∃ (I : Int → World → Prop) (μ : Int → World → Nat),
      I 0 w_3 ∧
      ∀ (x10 : Int) (w_4 : World), I x10 w_4 →
      br (decide (x10 < (min ((n1 : Nat) : Int) 20))) (
        drewO w_4 fun w_5 =>
        withP a1 fun g49 o49 =>
        (0 : Int) ≤ x10 ∧ x10 < (((n1 : Nat) : Int) : Int) ∧
        ∃ (a50 : Option Addr) (n50 : Nat) (c50 : Nat), w_5.cell? ⟨g49, o49 + x10.toNat * 1, none⟩ = some (.slice a50 n50 c50) ∧
        withP a1 fun g53 o53 =>
        (0 : Int) ≤ x10 ∧ x10 < (((n1 : Nat) : Int) : Int) ∧
        ∃ (a54 : Option Addr) (n54 : Nat) (c54 : Nat), w_5.cell? ⟨g53, o53 + x10.toNat * 1, none⟩ = some (.slice a54 n54 c54) ∧
        (0 : Int) ≤ min ((n54 : Nat) : Int) 50 ∧ min ((n54 : Nat) : Int) 50 ≤ (((c50 : Nat) : Int) : Int) ∧
        newO w_5 (.cells #[.int .u8 (IntKind.u8.wrap x10)] 5) fun g w_6 =>
        w_6.cell? ⟨g49, o49 + x10.toNat * 1, none⟩ = some (.slice a50 n50 c50) ∧
        w_6.cell? ⟨g53, o53 + x10.toNat * 1, none⟩ = some (.slice a54 n54 c54) ∧
        Calls Try.prog 15 #[.pointer p25_0, .int .i64 x10, .slice (some ⟨g, 0, none⟩) 1 1, .slice a50 ((min ((n54 : Nat) : Int) 50).toNat) c50] w_6 fun e_3 w_7 => KeepG [] w_6 w_7 ∧
        ∃ (x58 : Int),
        e_3 = .returned (.int .i64 x58) ∧
        br (decide (x58 ≠ 0)) (
          K (.bool false) w_7
        ) (
          I (IntKind.i64.wrap (x10 + 1)) w_7 ∧ μ (IntKind.i64.wrap (x10 + 1)) w_7 < μ x10 w_4
        )
      ) (
        ∃ (I_2 : Int → World → Prop) (μ_2 : Int → World → Nat),
        I_2 0 w_4 ∧
        ∀ (x11 : Int) (w_8 : World), I_2 x11 w_8 →
        br (decide (x11 < (min ((n1 : Nat) : Int) 20))) (
          newO w_8 (.cells #[.int .u8 (IntKind.u8.wrap x11)] 5) fun g_2 w_9 =>
          Calls Try.prog 16 #[.pointer p25_0, .int .i64 x11, .slice (some ⟨g_2, 0, none⟩) 1 1] w_9 fun e_4 w_10 => KeepG [] w_9 w_10 ∧
          ∃ (a71_0 : Option Addr) (n71_0 : Nat) (c71_0 : Nat) (x71_1 : Int),
          e_4 = .returned (.tuple #[.slice a71_0 n71_0 c71_0, .int .i64 x71_1]) ∧
          drewO w_10 fun w_11 =>
          br (decide (x11 ≥ (IntKind.i64.wrap ((min ((n1 : Nat) : Int) 20) - (IntKind.i64.wrap (1 + (IntKind.i64.wrap (Int.tmod (IntKind.u64.wrap x0) 8)))))))) (
            br (decide (x71_1 ≠ 0)) (
              K (.bool false) w_11
            ) (
              ∃ bs84 : List UInt8, bs84.length = n71_0 ∧ RowAt w_11 a71_0 (bs84.map bV) ∧
              withP a1 fun g87 o87 =>
              (0 : Int) ≤ x11 ∧ x11 < (((n1 : Nat) : Int) : Int) ∧
              ∃ (a88 : Option Addr) (n88 : Nat) (c88 : Nat), w_11.cell? ⟨g87, o87 + x11.toNat * 1, none⟩ = some (.slice a88 n88 c88) ∧
              withP a1 fun g91 o91 =>
              (0 : Int) ≤ x11 ∧ x11 < (((n1 : Nat) : Int) : Int) ∧
              ∃ (a92 : Option Addr) (n92 : Nat) (c92 : Nat), w_11.cell? ⟨g91, o91 + x11.toNat * 1, none⟩ = some (.slice a92 n92 c92) ∧
              (0 : Int) ≤ min ((n92 : Nat) : Int) 50 ∧ min ((n92 : Nat) : Int) 50 ≤ (((c88 : Nat) : Int) : Int) ∧
              ∃ bs96 : List UInt8, bs96.length = (min ((n92 : Nat) : Int) 50).toNat ∧ RowAt w_11 a88 (bs96.map bV) ∧
              br (decide ((strOf bs84) ≠ (strOf bs96))) (
                K (.bool false) w_11
              ) (
                br (decide (x11 < (IntKind.i64.wrap ((min ((n1 : Nat) : Int) 20) - (IntKind.i64.wrap (1 + (IntKind.i64.wrap (Int.tmod (IntKind.u64.wrap x0) 8)))))))) (
                  br (decide (x71_1 ≠ 13)) (
                    K (.bool false) w_11
                  ) (
                    I_2 (IntKind.i64.wrap (x11 + 1)) w_11 ∧ μ_2 (IntKind.i64.wrap (x11 + 1)) w_11 < μ_2 x11 w_8
                  )
                ) (
                  I_2 (IntKind.i64.wrap (x11 + 1)) w_11 ∧ μ_2 (IntKind.i64.wrap (x11 + 1)) w_11 < μ_2 x11 w_8
                )
              )
            )
          ) (
            br (decide (x11 < (IntKind.i64.wrap ((min ((n1 : Nat) : Int) 20) - (IntKind.i64.wrap (1 + (IntKind.i64.wrap (Int.tmod (IntKind.u64.wrap x0) 8)))))))) (
              br (decide (x71_1 ≠ 13)) (
                K (.bool false) w_11
              ) (
                I_2 (IntKind.i64.wrap (x11 + 1)) w_11 ∧ μ_2 (IntKind.i64.wrap (x11 + 1)) w_11 < μ_2 x11 w_8
              )
            ) (
              I_2 (IntKind.i64.wrap (x11 + 1)) w_11 ∧ μ_2 (IntKind.i64.wrap (x11 + 1)) w_11 < μ_2 x11 w_8
            )
          )
        ) (
          Calls Try.prog 16 #[.pointer p25_0, .int .i64 (min ((n1 : Nat) : Int) 20), .slice none 0 0] w_8 fun e_5 w_12 => KeepG [] w_8 w_12 ∧
          ∃ (a114_0 : Option Addr) (n114_0 : Nat) (c114_0 : Nat) (x114_1 : Int),
          e_5 = .returned (.tuple #[.slice a114_0 n114_0 c114_0, .int .i64 x114_1]) ∧
          Calls Try.prog 16 #[.pointer p25_0, .int .i64 x2, .slice none 0 0] w_12 fun e_6 w_13 => KeepG [] w_12 w_13 ∧
          ∃ (a120_0 : Option Addr) (n120_0 : Nat) (c120_0 : Nat) (x120_1 : Int),
          e_6 = .returned (.tuple #[.slice a120_0 n120_0 c120_0, .int .i64 x120_1]) ∧
          br (decide (x114_1 = 7)) (
            br (decide (x2 ≤ (min ((n1 : Nat) : Int) 20))) (
              K (.bool true) w_13
            ) (
              br (decide (x2 > 4611686018427387904)) (
                K (.bool true) w_13
              ) (
                K (.bool (decide (x120_1 = 15))) w_13
              )
            )
          ) (
            K (.bool false) w_13
          )
        )
      )
    )
  )
def lKnown_notes : Notes := ⟨[(9, ⟨[0, 0, 0, 4, 12, 0, 0, 96, 224, 0, 0, 1536, 3584, 7680, 15872, 32736, 65535, 131071], [4, 16], [0, 1, 2, 3, 5, 6, 7, 8, 9, 10, 11, 12, 13, 14, 15, 17]⟩), (15, ⟨[0, 0, 0, 6, 15, 31, 63, 127, 255, 511, 1023, 511, 511, 6655, 14847, 511, 511, 98815, 229887, 492031, 1016319, 2095615, 4192767, 8388607, 16777215, 33554431, 67108863, 134217727, 134217727, 134217727, 939524095, 2147483647, 4294967295, 8589934591, 17179869183, 34359738367, 68719476735], [], [0, 1, 2, 3, 4, 5, 6, 7, 8, 9, 10, 11, 12, 13, 14, 15, 16, 17, 18, 19, 20, 21, 22, 23, 24, 25, 26, 27, 28, 29, 30, 31, 32, 33, 34, 35, 36]⟩)], [(7, ⟨[(10, .lf (.int .i64))], [], [37, 38, 39, 42, 43, 44, 45, 46, 47, 48, 49, 50, 51, 52, 53, 54, 55, 56, 57, 58, 59, 6, 40, 41, 10], []⟩), (12, ⟨[(11, .lf (.int .i64))], [], [60, 61, 62, 66, 67, 68, 69, 70, 71, 65, 72, 73, 12, 13, 74, 75, 76, 77, 78, 79, 80, 81, 82, 83, 84, 85, 86, 87, 88, 89, 90, 91, 92, 93, 94, 95, 96, 97, 98, 99, 100, 101, 102, 103, 104, 105, 106, 107, 108, 109, 110, 6, 63, 64, 11], []⟩)], []⟩
theorem lKnown_calls (x0 : Int) (a1 : Option Addr) (n1 : Nat) (c1 : Nat) (x2 : Int) (w : World) (K : Value → World → Prop) (h : lKnown_vc x0 a1 n1 c1 x2 w K) : Calls Try.prog 3 #[.int .i64 x0, .slice a1 n1 c1, .int .i64 x2] w fun e w' => ∃ v, e = .returned v ∧ K v w' :=
  calls_of_fvc envOk Try.func3 lKnown_notes [] [.int .i64 x0, .slice a1 n1 c1, .int .i64 x2] w K (use_vc h (by as_aux_lemma => kernel_rfl))
/-- purser/purserlaw18.WindowSparse -/
def lSparse_vc (x0 : Int) (a1 : Option Addr) (n1 : Nat) (c1 : Nat) (x2 : Int) (w : World) (K : Value → World → Prop) : Prop :=
  (6 : Int) ≠ 0 ∧
  Calls Try.prog 13 #[.int .i64 (IntKind.i64.wrap (1 + (IntKind.i64.wrap (Int.tmod (IntKind.u64.wrap x0) 6)))), .bool false] w fun e w_2 => KeepG [] w w_2 ∧
  ∃ (p25_0 : Option Addr) (x25_1 : Int),
  e = .returned (.tuple #[.pointer p25_0, .int .i64 x25_1]) ∧
  Calls Try.prog 14 #[] w_2 fun e_2 w_3 => KeepG [] w_2 w_3 ∧
  ∃ (b28 : Bool),
  e_2 = .returned (.bool b28) ∧
  br (!b28) (
    K (.bool false) w_3
  ) (
    br (decide (x25_1 ≠ 0)) (
      K (.bool false) w_3
    ) (
      ∃ (I : Option Addr → Nat → Nat → Int → Int → World → Prop) (μ : Option Addr → Nat → Nat → Int → Int → World → Nat),
      I none 0 0 (-1) 0 w_3 ∧
      ∀ (a9 : Option Addr) (n9 : Nat) (c9 : Nat) (x10 : Int) (x11 : Int) (w_4 : World), I a9 n9 c9 x10 x11 w_4 →
      br (decide (x11 < ((n1 : Nat) : Int))) (
        br (decide (x11 < 20)) (
          withP a1 fun g48 o48 =>
          (0 : Int) ≤ x11 ∧ x11 < (((n1 : Nat) : Int) : Int) ∧
          ∃ (x49 : Int), w_4.cell? ⟨g48, o48 + x11.toNat * 1, none⟩ = some (.int .i64 x49) ∧
          (5 : Int) ≠ 0 ∧
          newO w_4 (.cells #[.int .u8 1] 5) fun g w_5 =>
          newO w_5 (.cells #[.int .u8 (IntKind.u8.wrap x11)] 5) fun g_2 w_6 =>
          Calls Try.prog 15 #[.pointer p25_0, .int .i64 (IntKind.i64.wrap ((IntKind.i64.wrap (x10 + 1)) + (IntKind.i64.wrap (Int.tmod (IntKind.u64.wrap x49) 5)))), .slice (some ⟨g, 0, none⟩) 1 1, .slice (some ⟨g_2, 0, none⟩) 1 1] w_6 fun e_3 w_7 => KeepG [] w_6 w_7 ∧
          ∃ (x60 : Int),
          e_3 = .returned (.int .i64 x60) ∧
          br (decide (x60 ≠ 0)) (
            K (.bool false) w_7
          ) (
            newO w_7 (.cells #[.int .i64 (IntKind.i64.wrap ((IntKind.i64.wrap (x10 + 1)) + (IntKind.i64.wrap (Int.tmod (IntKind.u64.wrap x49) 5))))] 3) fun g_3 w_8 =>
            appO Try.prog [] w_8 3 1 8 34 a9 n9 c9 (.slice (some ⟨g_3, 0, none⟩) 1 1) fun m65 a65 c65 w_9 =>
            I a65 (n9 + m65) c65 (IntKind.i64.wrap ((IntKind.i64.wrap (x10 + 1)) + (IntKind.i64.wrap (Int.tmod (IntKind.u64.wrap x49) 5)))) (IntKind.i64.wrap (x11 + 1)) w_9 ∧ μ a65 (n9 + m65) c65 (IntKind.i64.wrap ((IntKind.i64.wrap (x10 + 1)) + (IntKind.i64.wrap (Int.tmod (IntKind.u64.wrap x49) 5)))) (IntKind.i64.wrap (x11 + 1)) w_9 < μ a9 n9 c9 x10 x11 w_4
          )
        ) (
          (120 : Int) ≠ 0 ∧
          ∃ (J : Int → World → Prop), (
            br (decide ((IntKind.i64.wrap (Int.tmod (IntKind.u64.wrap x2) 120)) ≤ x10)) (
              J 13 w_4
            ) (
              J 7 w_4
            )
          ) ∧
          ∀ (x12 : Int) (w_10 : World), J x12 w_10 →
          ∃ (I_2 : Int → Int → World → Prop) (μ_2 : Int → Int → World → Nat),
          I_2 x12 (max (IntKind.i64.wrap (((n9 : Nat) : Int) - (IntKind.i64.wrap (1 + (IntKind.i64.wrap (Int.tmod (IntKind.u64.wrap x0) 6)))))) 0) w_10 ∧
          ∀ (x12_2 : Int) (x13 : Int) (w_11 : World), I_2 x12_2 x13 w_11 →
          br (decide (x13 < ((n9 : Nat) : Int))) (
            withP a9 fun g86 o86 =>
            (0 : Int) ≤ x13 ∧ x13 < (((n9 : Nat) : Int) : Int) ∧
            ∃ (x87 : Int), w_11.cell? ⟨g86, o86 + x13.toNat * 1, none⟩ = some (.int .i64 x87) ∧
            br (decide (x87 = (IntKind.i64.wrap (Int.tmod (IntKind.u64.wrap x2) 120)))) (
              I_2 0 (IntKind.i64.wrap (x13 + 1)) w_11 ∧ μ_2 0 (IntKind.i64.wrap (x13 + 1)) w_11 < μ_2 x12_2 x13 w_11
            ) (
              I_2 x12_2 (IntKind.i64.wrap (x13 + 1)) w_11 ∧ μ_2 x12_2 (IntKind.i64.wrap (x13 + 1)) w_11 < μ_2 x12_2 x13 w_11
            )
          ) (
            newO w_11 (.cells #[.int .u8 1] 5) fun g_4 w_12 =>
            Calls Try.prog 16 #[.pointer p25_0, .int .i64 (IntKind.i64.wrap (Int.tmod (IntKind.u64.wrap x2) 120)), .slice (some ⟨g_4, 0, none⟩) 1 1] w_12 fun e_4 w_13 => KeepG [] w_12 w_13 ∧
            ∃ (a94_0 : Option Addr) (n94_0 : Nat) (c94_0 : Nat) (x94_1 : Int),
            e_4 = .returned (.tuple #[.slice a94_0 n94_0 c94_0, .int .i64 x94_1]) ∧
            newO w_13 (.cells #[.int .u8 2] 5) fun g_5 w_14 =>
            Calls Try.prog 16 #[.pointer p25_0, .int .i64 (IntKind.i64.wrap (Int.tmod (IntKind.u64.wrap x2) 120)), .slice (some ⟨g_5, 0, none⟩) 1 1] w_14 fun e_5 w_15 => KeepG [] w_14 w_15 ∧
            ∃ (a101_0 : Option Addr) (n101_0 : Nat) (c101_0 : Nat) (x101_1 : Int),
            e_5 = .returned (.tuple #[.slice a101_0 n101_0 c101_0, .int .i64 x101_1]) ∧
            br (decide (x94_1 = x12_2)) (
              br (decide (x12_2 ≠ 0)) (
                br (decide (x101_1 = x12_2)) (
                  Calls Try.prog 17 #[.pointer p25_0] w_15 fun e_6 w_16 => KeepG [] w_15 w_16 ∧
                  ∃ (x126 : Int),
                  e_6 = .returned (.int .i64 x126) ∧
                  K (.bool (decide (x126 = x10))) w_16
                ) (
                  br (decide (x12_2 = 0)) (
                    br (decide (x101_1 = 14)) (
                      Calls Try.prog 17 #[.pointer p25_0] w_15 fun e_7 w_17 => KeepG [] w_15 w_17 ∧
                      ∃ (x126_2 : Int),
                      e_7 = .returned (.int .i64 x126_2) ∧
                      K (.bool (decide (x126_2 = x10))) w_17
                    ) (
                      K (.bool false) w_15
                    )
                  ) (
                    K (.bool false) w_15
                  )
                )
              ) (
                br (decide (x12_2 = 0)) (
                  br (decide (x101_1 = 14)) (
                    Calls Try.prog 17 #[.pointer p25_0] w_15 fun e_8 w_18 => KeepG [] w_15 w_18 ∧
                    ∃ (x126_3 : Int),
                    e_8 = .returned (.int .i64 x126_3) ∧
                    K (.bool (decide (x126_3 = x10))) w_18
                  ) (
                    K (.bool false) w_15
                  )
                ) (
                  K (.bool false) w_15
                )
              )
            ) (
              K (.bool false) w_15
            )
          )
        )
      ) (
        (120 : Int) ≠ 0 ∧
        ∃ (J_2 : Int → World → Prop), (
          br (decide ((IntKind.i64.wrap (Int.tmod (IntKind.u64.wrap x2) 120)) ≤ x10)) (
            J_2 13 w_4
          ) (
            J_2 7 w_4
          )
        ) ∧
        ∀ (x12_3 : Int) (w_19 : World), J_2 x12_3 w_19 →
        ∃ (I_3 : Int → Int → World → Prop) (μ_3 : Int → Int → World → Nat),
        I_3 x12_3 (max (IntKind.i64.wrap (((n9 : Nat) : Int) - (IntKind.i64.wrap (1 + (IntKind.i64.wrap (Int.tmod (IntKind.u64.wrap x0) 6)))))) 0) w_19 ∧
        ∀ (x12_4 : Int) (x13_2 : Int) (w_20 : World), I_3 x12_4 x13_2 w_20 →
        br (decide (x13_2 < ((n9 : Nat) : Int))) (
          withP a9 fun g86_2 o86_2 =>
          (0 : Int) ≤ x13_2 ∧ x13_2 < (((n9 : Nat) : Int) : Int) ∧
          ∃ (x87_2 : Int), w_20.cell? ⟨g86_2, o86_2 + x13_2.toNat * 1, none⟩ = some (.int .i64 x87_2) ∧
          br (decide (x87_2 = (IntKind.i64.wrap (Int.tmod (IntKind.u64.wrap x2) 120)))) (
            I_3 0 (IntKind.i64.wrap (x13_2 + 1)) w_20 ∧ μ_3 0 (IntKind.i64.wrap (x13_2 + 1)) w_20 < μ_3 x12_4 x13_2 w_20
          ) (
            I_3 x12_4 (IntKind.i64.wrap (x13_2 + 1)) w_20 ∧ μ_3 x12_4 (IntKind.i64.wrap (x13_2 + 1)) w_20 < μ_3 x12_4 x13_2 w_20
          )
        ) (
          newO w_20 (.cells #[.int .u8 1] 5) fun g_6 w_21 =>
          Calls Try.prog 16 #[.pointer p25_0, .int .i64 (IntKind.i64.wrap (Int.tmod (IntKind.u64.wrap x2) 120)), .slice (some ⟨g_6, 0, none⟩) 1 1] w_21 fun e_9 w_22 => KeepG [] w_21 w_22 ∧
          ∃ (a94_0_2 : Option Addr) (n94_0_2 : Nat) (c94_0_2 : Nat) (x94_1_2 : Int),
          e_9 = .returned (.tuple #[.slice a94_0_2 n94_0_2 c94_0_2, .int .i64 x94_1_2]) ∧
          newO w_22 (.cells #[.int .u8 2] 5) fun g_7 w_23 =>
          Calls Try.prog 16 #[.pointer p25_0, .int .i64 (IntKind.i64.wrap (Int.tmod (IntKind.u64.wrap x2) 120)), .slice (some ⟨g_7, 0, none⟩) 1 1] w_23 fun e_10 w_24 => KeepG [] w_23 w_24 ∧
          ∃ (a101_0_2 : Option Addr) (n101_0_2 : Nat) (c101_0_2 : Nat) (x101_1_2 : Int),
          e_10 = .returned (.tuple #[.slice a101_0_2 n101_0_2 c101_0_2, .int .i64 x101_1_2]) ∧
          br (decide (x94_1_2 = x12_4)) (
            br (decide (x12_4 ≠ 0)) (
              br (decide (x101_1_2 = x12_4)) (
                Calls Try.prog 17 #[.pointer p25_0] w_24 fun e_11 w_25 => KeepG [] w_24 w_25 ∧
                ∃ (x126_4 : Int),
                e_11 = .returned (.int .i64 x126_4) ∧
                K (.bool (decide (x126_4 = x10))) w_25
              ) (
                br (decide (x12_4 = 0)) (
                  br (decide (x101_1_2 = 14)) (
                    Calls Try.prog 17 #[.pointer p25_0] w_24 fun e_12 w_26 => KeepG [] w_24 w_26 ∧
                    ∃ (x126_5 : Int),
                    e_12 = .returned (.int .i64 x126_5) ∧
                    K (.bool (decide (x126_5 = x10))) w_26
                  ) (
                    K (.bool false) w_24
                  )
                ) (
                  K (.bool false) w_24
                )
              )
            ) (
              br (decide (x12_4 = 0)) (
                br (decide (x101_1_2 = 14)) (
                  Calls Try.prog 17 #[.pointer p25_0] w_24 fun e_13 w_27 => KeepG [] w_24 w_27 ∧
                  ∃ (x126_6 : Int),
                  e_13 = .returned (.int .i64 x126_6) ∧
                  K (.bool (decide (x126_6 = x10))) w_27
                ) (
                  K (.bool false) w_24
                )
              ) (
                K (.bool false) w_24
              )
            )
          ) (
            K (.bool false) w_24
          )
        )
      )
    )
  )
def lSparse_notes : Notes := ⟨[], [(8, ⟨[(9, .lf (.slice)), (10, .lf (.int .i64)), (11, .lf (.int .i64))], [], [34, 35, 36, 37, 38, 39, 40, 41, 44, 45, 46, 47, 48, 49, 50, 51, 52, 53, 10, 54, 55, 56, 57, 58, 59, 60, 61, 6, 62, 63, 64, 65, 9, 42, 43, 11], []⟩), (19, ⟨[(12, .lf (.int .i64)), (13, .lf (.int .i64))], [], [78, 79, 80, 81, 84, 85, 86, 87, 88, 89, 12, 82, 83, 13], []⟩)], [((1, 17), ⟨[(12, .lf (.int .i64))], [], [12], []⟩)]⟩
theorem lSparse_calls (x0 : Int) (a1 : Option Addr) (n1 : Nat) (c1 : Nat) (x2 : Int) (w : World) (K : Value → World → Prop) (h : lSparse_vc x0 a1 n1 c1 x2 w K) : Calls Try.prog 4 #[.int .i64 x0, .slice a1 n1 c1, .int .i64 x2] w fun e w' => ∃ v, e = .returned v ∧ K v w' :=
  calls_of_fvc envOk Try.func4 lSparse_notes [] [.int .i64 x0, .slice a1 n1 c1, .int .i64 x2] w K (use_vc h (by as_aux_lemma => kernel_rfl))
end GWinLaw
end Go.Proofs.Ytjjmhmbmjpedkaa
end
section
/- Small words for using printed conditions. No program in sight. -/
namespace Go.Proofs.Ytjjmhmbmjpedkaa
open Go.RowKit
theorem keepG_nil (w w1 : World) : KeepG [] w w1 := fun _ g hg => by cases hg
theorem keepG_below {gs : List Nat} {w w1 : World} (h : Below w.heap.size w w1) : KeepG gs w w1 := fun hu g hg => h.block g (hu g hg)
theorem keepG_fr {gs L : List Nat} {w w1 : World} (h : Fr L w w1) (ha : ∀ g ∈ gs, g ∉ L) : KeepG gs w w1 := fun hu g hg => h.block g (hu g hg) (ha g hg)
/-- A call whose contract tells one value. -/
theorem wr64 {z : Int} (h1 : -9223372036854775808 ≤ z) (h2 : z ≤ 9223372036854775807) : IntKind.i64.wrap z = z := IntWalk.i64_in z ⟨h1, h2⟩
theorem wru64 {z : Int} (h1 : 0 ≤ z) (h2 : z ≤ 18446744073709551615) : IntKind.u64.wrap z = z := by rw [IntKind.wrap_u64]; omega
theorem wru8 {z : Int} (h1 : 0 ≤ z) (h2 : z ≤ 255) : IntKind.u8.wrap z = z := by rw [IntKind.wrap_u8]; omega
theorem u64_mod (z : Int) (k : Nat) (hk : 0 < k) : ∃ m : Nat, m < k ∧ Int.tmod (IntKind.u64.wrap z) (k : Int) = (m : Int) := by
  have h0 : 0 ≤ IntKind.u64.wrap z := by rw [IntKind.wrap_u64]; omega
  have h1 := Int.emod_nonneg (IntKind.u64.wrap z) (show (k : Int) ≠ 0 by omega)
  have h2 := Int.emod_lt_of_pos (IntKind.u64.wrap z) (show (0 : Int) < (k : Int) by omega)
  exact ⟨(IntKind.u64.wrap z % (k : Int)).toNat, by omega, by rw [Int.tmod_eq_emod_of_nonneg h0]; omega⟩
theorem br_t {b : Bool} {A B : Prop} (hb : b = true) (h : A) : br b A B := by rw [br_true hb]; exact h
theorem br_f {b : Bool} {A B : Prop} (hb : b = false) (h : B) : br b A B := by rw [br_false hb]; exact h
theorem br_y {p : Prop} [Decidable p] {A B : Prop} (hp : p) (h : A) : br (decide p) A B := br_t (decide_eq_true hp) h
theorem br_n {p : Prop} [Decidable p] {A B : Prop} (hp : ¬ p) (h : B) : br (decide p) A B := br_f (decide_eq_false hp) h
theorem br_not {b : Bool} {A B : Prop} (h : br b B A) : br (!b) A B := by cases b <;> exact h
/-- A new block. -/
theorem newO_mk {w : World} {o : Obj} {K : Nat → World → Prop} (h : K w.heap.size (w.alloc o)) : newO w o K := by rintro g w1 rfl rfl; exact h
theorem newO_in {w : World} {o : Obj} {K : Nat → World → Prop} (h : ∀ w1, w1.heap[w.heap.size]? = some o → Below w.heap.size w w1 → w1.heap.size = w.heap.size + 1 → K w.heap.size w1) : newO w o K := by
  rintro g w1 rfl rfl; exact h _ (al_new rfl) (Below_one o) (by simp)
theorem drewO_in {w : World} {K : World → Prop} (h : ∀ w1, Below w.heap.size w w1 → w1.heap = w.heap → K w1) : drewO w K := fun w1 h1 h2 => h w1 h2 h1
theorem cellsAt_row {w : World} {g : Nat} {cs : Array Value} {t : TypeId} {fr : Nat × Nat} (h : w.heap[g]? = some (.cells cs t fr)) {off : Nat} {vs : List Value} (hv : (cs.toList.drop off).take vs.length = vs) : cellsAt w g off vs :=
  cellsAt_of fun j v hj => by
    rw [cell_of_row _ _ _ _ _ _ h]
    rw [← hv, List.getElem?_take] at hj
    split at hj
    · rw [List.getElem?_drop] at hj; simpa using hj
    · cases hj
theorem row_of_block {w : World} {g : Nat} {bs : List UInt8} {t : TypeId} {fr : Nat × Nat} (h : w.heap[g]? = some (.cells (bs.map bV).toArray t fr)) : RowAt w (some ⟨g, 0, none⟩) (bs.map bV) := RowAt.ofWhole h
/-- A block's cells, as what is appended. -/
theorem src_block {P : Program} {W : World} {tx e' : TypeId} (hk : P.underlying tx = some (.slice e')) {g n c size : Nat} {cs : List Value} {t : TypeId} {fr : Nat × Nat} (h : W.heap[g]? = some (.cells cs.toArray t fr)) (hl : cs.length = n * size) (h1 : allOne cs = true) :
    Src P size tx (.slice (some ⟨g, 0, none⟩) n c) n cs W :=
  Src.ofSlice _ hk _ n c _ hl (fun j u hj => by
    rw [Addr.add_lit, Nat.zero_add, cell_of_row _ _ _ _ _ _ h]
    simpa using hj) (allOne_spec h1)
theorem own_cell {w : World} {b : Nat} {e : TypeId} {a : Option Addr} {n c : Nat} {xs : List Value} (h : Own w b e 1 (.slice a n c) n xs) {i : Nat} {v : Value} (hi : xs[i]? = some v) : ∃ g off, a = some ⟨g, off, none⟩ ∧ w.cell? ⟨g, off + i * 1, none⟩ = some v := by
  have hlt : i < xs.length := (List.getElem?_eq_some_iff.1 hi).1
  have hl := h.1
  rcases h.2 with ⟨h0, h1⟩ | ⟨g, off, cap, cur, hv, _⟩
  · omega
  · injection hv with h1 h2 h3
    subst h1
    exact ⟨g, off, rfl, by rw [Nat.mul_one]; exact h.cells g off _ rfl i v hi⟩
theorem Bk.there {w : World} {g : Nat} {cs : Array Value} {t : TypeId} (h : Bk w g cs t) {i n : Nat} (hi : i + n ≤ cs.size) : w.there g i n := fun j hj => by
  refine ⟨?_, h.frozen _⟩
  rw [h.cell]
  rw [Array.getElem?_eq_getElem (by omega)]
  rfl
theorem stO_bk {gs : List Nat} {w : World} {g i : Nat} {cs : Array Value} {t : TypeId} {v : Value} {K : World → Prop} (h : Bk w g cs t) (hi : i < cs.size) (hg : ∀ x ∈ gs, x ≠ g) (hk : ∀ w1, Bk w1 g (cs.setIfInBounds i v) t → Fr [g] w w1 → w1.heap.size = w.heap.size → K w1) : stO gs w g i [v] K :=
  ⟨hg, h.there (by simp; omega), fun w1 e => by
    subst e
    exact hk _ (h.setCell i v) ((Fr.refl [g] w).setCell (p := ⟨g, i, none⟩) (.inl (by simp)) v) (by simp [World.setCells, World.setCell])⟩
theorem sliceBase_cell {w : World} {b off c l s j : Nat} {v : Value} (hlt : l ≠ c) (h : w.cell? ⟨b, off + l * s + j, none⟩ = some v) : ∃ b' off', sliceBase (some ⟨b, off, none⟩) c l s = some ⟨b', off', none⟩ ∧ w.cell? ⟨b', off' + j, none⟩ = some v := by
  refine ⟨b, off + l * s, ?_, h⟩
  unfold sliceBase
  rw [if_neg (fun e => hlt e.symm)]
  simp [Addr.add_lit]
theorem own_empty {w : World} {g : Nat} {e : TypeId} (s : Nat) (h : w.heap[g]? = some (.cells #[] e (0, 0))) : Own w 0 e s (.slice (some ⟨g, 0, none⟩) 0 0) 0 [] :=
  ⟨by simp, .inr ⟨g, 0, 0, #[], rfl, Nat.zero_le _, h, Nat.le_refl _, Nat.zero_le _, by simp, by simp⟩⟩
theorem Own.store {w : World} {b : Nat} {e : TypeId} {a : Option Addr} {n c : Nat} {xs : List Value} (h : Own w b e 1 (.slice a n c) n xs) {i : Nat} (hi : i < n) {gs : List Nat} {v : Value} {K : World → Prop} (hgs : ∀ k, (Value.slice a n c).ownBlock = some k → ∀ x ∈ gs, x ≠ k)
    (hk : ∀ w1, Own w1 b e 1 (.slice a n c) n (xs.set i v) → Fr (Value.slice a n c).ownBlock.toList w w1 → w1.heap.size = w.heap.size → K w1) : ∃ g off, a = some ⟨g, off, none⟩ ∧ stO gs w g (off + i * 1) [v] K := by
  rcases h.2 with ⟨h0, h1⟩ | ⟨g, off, cap, cur, hv, hb, hg, hn, hm, hs, ht⟩
  · omega
  · injection hv with h1 h2 h3
    subst h1; subst h3
    have hB : Bk w g cur e := hg
    refine ⟨g, off, rfl, ?_⟩
    rw [Nat.mul_one]
    refine stO_bk hB (by omega) (fun x hx => hgs g rfl x hx) fun w1 hb1 hf hsz => ?_
    refine hk w1 ⟨by rw [List.length_set]; exact h.1, .inr ⟨g, off, c, _, rfl, hb, hb1, hn, hm, by simpa using hs, ?_⟩⟩ hf hsz
    rw [← ht, Array.toList_setIfInBounds, List.drop_set]
    rw [if_neg (by omega), show off + i - off = i by omega, List.take_set]
theorem Own.storeAt {w : World} {b : Nat} {e : TypeId} {g off n c : Nat} {xs : List Value} (h : Own w b e 1 (.slice (some ⟨g, off, none⟩) n c) n xs) {i : Nat} (hi : i < n) {gs : List Nat} {v : Value} {K : World → Prop} (hgs : ∀ x ∈ gs, x ≠ g)
    (hk : ∀ w1, Own w1 b e 1 (.slice (some ⟨g, off, none⟩) n c) n (xs.set i v) → Fr [g] w w1 → w1.heap.size = w.heap.size → K w1) : stO gs w g (off + i * 1) [v] K := by
  obtain ⟨g', off', he, hst⟩ := Own.store (K := K) (v := v) h hi (fun k hk x hx => by injection hk with hk; subst hk; exact hgs x hx) hk
  injection he with he
  injection he with e1 e2
  subst e1; subst e2
  exact hst
/-- One byte more or other. -/
theorem bits_byte (op : BinOp) (x y : Int) : ∃ b : UInt8, bitsV op .u8 x y = (b.toNat : Int) := by
  have key : ∀ z : Int, ∃ b : UInt8, IntKind.u8.wrap z = (b.toNat : Int) := fun z => by
    have h : 0 ≤ IntKind.u8.wrap z ∧ IntKind.u8.wrap z < 256 := by rw [IntKind.wrap_u8]; omega
    refine ⟨UInt8.ofNat (IntKind.u8.wrap z).toNat, ?_⟩
    rw [show (UInt8.ofNat (IntKind.u8.wrap z).toNat).toNat = (IntKind.u8.wrap z).toNat % 256 from rfl, Nat.mod_eq_of_lt (by omega)]
    omega
  unfold bitsV
  cases op <;> exact key _
theorem strOf_cat (xs ys : List UInt8) : strOf xs ++ strOf ys = strOf (xs ++ ys) := by
  apply ByteArray.ext
  simp [strOf, ByteArray.data_append]
theorem strOf_extract (xs : List UInt8) (i j : Nat) : (strOf xs).extract i j = strOf ((xs.drop i).take (j - i)) := by
  apply ByteArray.ext
  simp [strOf, ByteArray.data_extract, List.take_drop]
theorem byteAt_strOf (xs : List UInt8) (i : Nat) : byteAt (strOf xs) (i : Int) = ((xs.getD i 0).toNat : Int) := by unfold byteAt; rw [strOf_list]; rfl
end Go.Proofs.Ytjjmhmbmjpedkaa
end
section
/- A window, in plain Lean: what is kept, what Look and Keep answer. No program in sight. -/
namespace Go.Proofs.Ytjjmhmbmjpedkaa
/-- A request that was answered. -/
structure Ent where
  num : Int
  req : List UInt8
  ans : List UInt8
structure Win where
  most : Int
  strict : Bool
  last : Int
  ents : List Ent
def Ent.ok (e : Ent) : Prop := 0 ≤ e.num ∧ e.num ≤ 4611686018427387904 ∧ e.req.length ≤ 65536 ∧ e.ans.length ≤ 65536
structure Win.Ok (s : Win) : Prop where
  m1 : 1 ≤ s.most
  m2 : s.most ≤ 64
  l1 : -1 ≤ s.last
  l2 : s.last ≤ 4611686018427387904
  le : (s.ents.length : Int) ≤ s.most
  each : ∀ e ∈ s.ents, e.ok
/-- The first place of a number; -1: none. -/
def entIdx : List Ent → Int → Int → Int
  | [], _, _ => -1
  | e :: r, n, i => if e.num = n then i else entIdx r n (i + 1)
theorem entIdx_hit (es : List Ent) (n : Int) (k : Nat) (e : Ent) (h : es[k]? = some e) (he : e.num = n) (hb : ∀ (j : Nat) (f : Ent), j < k → es[j]? = some f → f.num ≠ n) (i : Int) : entIdx es n i = i + k := by
  induction es generalizing k i with
  | nil => cases h
  | cons x r ih =>
    cases k with
    | zero =>
      injection h with h
      subst h
      unfold entIdx
      rw [if_pos he]; omega
    | succ k =>
      unfold entIdx
      rw [if_neg (hb 0 x (by omega) rfl), ih k (by simpa using h) (fun j f hj hf => hb (j + 1) f (by omega) (by simpa using hf))]
      omega
theorem entIdx_miss (es : List Ent) (n : Int) (hb : ∀ (j : Nat) (f : Ent), es[j]? = some f → f.num ≠ n) (i : Int) : entIdx es n i = -1 := by
  induction es generalizing i with
  | nil => rfl
  | cons x r ih =>
    unfold entIdx
    rw [if_neg (hb 0 x rfl)]
    exact ih (fun j f hf => hb (j + 1) f (by simpa using hf)) _
theorem entIdx_or (es : List Ent) (n : Int) : (entIdx es n 0 = -1 ∧ es.find? (fun e => decide (e.num = n)) = none) ∨ ∃ (k : Nat) (e : Ent), entIdx es n 0 = (k : Int) ∧ es[k]? = some e ∧ es.find? (fun e => decide (e.num = n)) = some e := by
  have H : ∀ i : Int, (entIdx es n i = -1 ∧ es.find? (fun e => decide (e.num = n)) = none) ∨ ∃ (k : Nat) (e : Ent), entIdx es n i = i + (k : Int) ∧ es[k]? = some e ∧ es.find? (fun e => decide (e.num = n)) = some e := by
    induction es with
    | nil => exact fun i => .inl ⟨rfl, rfl⟩
    | cons x r ih =>
      intro i
      unfold entIdx
      by_cases hx : x.num = n
      · rw [if_pos hx]
        exact .inr ⟨0, x, by omega, rfl, by simp [List.find?, hx]⟩
      · rw [if_neg hx]
        rcases ih (i + 1) with ⟨h1, h2⟩ | ⟨k, e, h1, h2, h3⟩
        · exact .inl ⟨h1, by simp only [List.find?, decide_eq_false hx]; exact h2⟩
        · exact .inr ⟨k + 1, e, by rw [h1]; omega, by simpa using h2, by simp only [List.find?, decide_eq_false hx]; exact h3⟩
  have := H 0
  simpa using this
/-- What Look tells: the answer, and the errno. -/
def Win.look (s : Win) (n : Int) (q : List UInt8) : List UInt8 × Int :=
  if n < 0 ∨ 4611686018427387904 < n then ([], 1) else
  match s.ents.find? (fun e => decide (e.num = n)) with
  | some e => if e.req = q then (e.ans, 0) else ([], 14)
  | none => if n ≤ s.last then ([], 13) else if s.strict = true ∧ n ≠ s.last + 1 then ([], 15) else ([], 7)
def Win.push (s : Win) (n : Int) (q a : List UInt8) : Win :=
  { s with ents := if s.most < ((s.ents ++ [Ent.mk n q a]).length : Int) then (s.ents ++ [Ent.mk n q a]).drop 1 else s.ents ++ [Ent.mk n q a], last := n }
/-- What Keep tells, and the window behind it. -/
def Win.keep (s : Win) (n : Int) (q a : List UInt8) : Int × Win :=
  let r := (s.look n q).2
  if r = 0 then (8, s) else if r ≠ 7 then (r, s) else if 65536 < q.length ∨ 65536 < a.length then (5, s) else (0, s.push n q a)
theorem Win.look_le (s : Win) (hs : s.Ok) (n : Int) (q : List UInt8) : (s.look n q).1.length ≤ 65536 := by
  unfold Win.look
  split
  · simp
  · split
    · rename_i e he
      split
      · exact (hs.each e (List.mem_of_find?_eq_some he)).2.2.2
      · simp
    · split
      · simp
      · split <;> simp
theorem Win.look7 {s : Win} {n : Int} {q : List UInt8} (h : (s.look n q).2 = 7) : 0 ≤ n ∧ n ≤ 4611686018427387904 := by
  unfold Win.look at h
  split at h
  · simp at h
  · omega
theorem Win.push_ok {s : Win} (hs : s.Ok) {n : Int} {q a : List UInt8} (h0 : 0 ≤ n) (h1 : n ≤ 4611686018427387904) (hq : q.length ≤ 65536) (ha : a.length ≤ 65536) : (s.push n q a).Ok := by
  have hle := hs.le
  have hm := hs.m1
  have he : ∀ e ∈ s.ents ++ [Ent.mk n q a], e.ok := fun e h => by
    rcases List.mem_append.1 h with h | h
    · exact hs.each e h
    · rw [List.mem_singleton] at h; subst h; exact ⟨h0, h1, hq, ha⟩
  refine ⟨hs.m1, hs.m2, (show (-1 : Int) ≤ n by omega), h1, ?_, ?_⟩
  · unfold Win.push
    dsimp only
    split
    · rw [List.length_drop, List.length_append, List.length_singleton]; omega
    · omega
  · unfold Win.push
    dsimp only
    split
    · exact fun e h => he e (List.mem_of_mem_drop h)
    · exact he
theorem Win.keep_ok {s : Win} (hs : s.Ok) (n : Int) (q a : List UInt8) : (s.keep n q a).2.Ok := by
  unfold Win.keep
  dsimp only
  split
  · exact hs
  · split
    · exact hs
    · rename_i h7
      split
      · exact hs
      · have := Win.look7 (Decidable.not_not.1 h7)
        exact Win.push_ok hs this.1 this.2 (by omega) (by omega)
end Go.Proofs.Ytjjmhmbmjpedkaa
end
section
/- A window in memory; Look, walked. -/
namespace Go.Proofs.Ytjjmhmbmjpedkaa
open Go.RowKit
/-- Entries in memory: their cells, their bytes in blocks of M. -/
def EntsOk (w : World) (M : List Nat) (es : List Ent) (xs : List Value) : Prop :=
  xs.length = es.length * 3 ∧ ∀ (i : Nat) (e : Ent), es[i]? = some e → ∃ a c a' c', xs[i * 3]? = some (.int .i64 e.num) ∧ xs[i * 3 + 1]? = some (.slice a e.req.length c) ∧ xs[i * 3 + 2]? = some (.slice a' e.ans.length c') ∧
    In w M a e.req ∧ In w M a' e.ans ∧ e.req.length ≤ c ∧ e.ans.length ≤ c'
theorem EntsOk.nil (w : World) (M : List Nat) : EntsOk w M [] [] := ⟨rfl, fun i e h => by cases h⟩
theorem EntsOk.keep {w w' : World} {M : List Nat} {es : List Ent} {xs : List Value} (h : EntsOk w M es xs) (hk : ∀ k ∈ M, w'.heap[k]? = w.heap[k]?) : EntsOk w' M es xs :=
  ⟨h.1, fun i e he => by
    obtain ⟨a, c, a', c', h0, h1, h2, h3, h4, h5, h6⟩ := h.2 i e he
    exact ⟨a, c, a', c', h0, h1, h2, h3.keep hk, h4.keep hk, h5, h6⟩⟩
theorem In.mono {w : World} {M K : List Nat} {a : Option Addr} {bs : List UInt8} (h : In w M a bs) (hs : ∀ k ∈ M, k ∈ K) : In w K a bs := ⟨h.1, fun ad had hne => hs _ (h.2 ad had hne)⟩
theorem EntsOk.mono {w : World} {M K : List Nat} {es : List Ent} {xs : List Value} (h : EntsOk w M es xs) (hs : ∀ k ∈ M, k ∈ K) : EntsOk w K es xs :=
  ⟨h.1, fun i e he => by
    obtain ⟨a, c, a', c', h0, h1, h2, h3, h4, h5, h6⟩ := h.2 i e he
    exact ⟨a, c, a', c', h0, h1, h2, h3.mono hs, h4.mono hs, h5, h6⟩⟩
def cells3 (n : Int) (a : Option Addr) (m c : Nat) (a' : Option Addr) (m' c' : Nat) : List Value := [.int .i64 n, .slice a m c, .slice a' m' c']
theorem EntsOk.app {w : World} {M : List Nat} {es : List Ent} {xs : List Value} (h : EntsOk w M es xs) {e : Ent} {a a' : Option Addr} {c c' : Nat} (h3 : In w M a e.req) (h4 : In w M a' e.ans) (h5 : e.req.length ≤ c) (h6 : e.ans.length ≤ c') :
    EntsOk w M (es ++ [e]) (xs ++ cells3 e.num a e.req.length c a' e.ans.length c') := by
  refine ⟨by rw [List.length_append, List.length_append, h.1]; simp [cells3]; omega, fun i f hf => ?_⟩
  have hl := h.1
  by_cases hi : i < es.length
  · rw [List.getElem?_append_left hi] at hf
    obtain ⟨b, d, b', d', k0, k1, k2, k⟩ := h.2 i f hf
    have e3 : ∀ j, j < 3 → (xs ++ cells3 e.num a e.req.length c a' e.ans.length c')[i * 3 + j]? = xs[i * 3 + j]? := fun j hj => List.getElem?_append_left (by omega)
    refine ⟨b, d, b', d', ?_, ?_, ?_, k⟩
    · rw [← k0]; exact e3 0 (by omega)
    · rw [← k1]; exact e3 1 (by omega)
    · rw [← k2]; exact e3 2 (by omega)
  · have hlt : i < (es ++ [e]).length := (List.getElem?_eq_some_iff.1 hf).1
    rw [List.length_append, List.length_singleton] at hlt
    obtain rfl : i = es.length := by omega
    rw [List.getElem?_append_right (Nat.le_refl _), Nat.sub_self] at hf
    simp at hf
    subst hf
    have e3 : ∀ j, (xs ++ cells3 e.num a e.req.length c a' e.ans.length c')[es.length * 3 + j]? = (cells3 e.num a e.req.length c a' e.ans.length c')[j]? := fun j => by
      rw [List.getElem?_append_right (by omega)]; congr 1; omega
    exact ⟨a, c, a', c', e3 0, e3 1, e3 2, h3, h4, h5, h6⟩
theorem EntsOk.drop1 {w : World} {M : List Nat} {es : List Ent} {xs : List Value} (h : EntsOk w M es xs) (hne : 1 ≤ es.length) : EntsOk w M (es.drop 1) (xs.drop 3) := by
  refine ⟨by rw [List.length_drop, List.length_drop, h.1]; omega, fun i e he => ?_⟩
  rw [List.getElem?_drop] at he
  obtain ⟨b, d, b', d', k0, k1, k2, k⟩ := h.2 _ e he
  refine ⟨b, d, b', d', ?_, ?_, ?_, k⟩
  · rw [List.getElem?_drop, ← k0]; congr 1; omega
  · rw [List.getElem?_drop, ← k1]; congr 1; omega
  · rw [List.getElem?_drop, ← k2]; congr 1; omega
theorem strOf_toList (bs : List UInt8) : (strOf bs).toList = bs := ByteArray.toList_mk bs
theorem strOf_eqB (xs ys : List UInt8) : ((strOf xs).toList == (strOf ys).toList) = decide (xs = ys) := by
  rw [strOf_toList, strOf_toList]
  by_cases h : xs = ys <;> simp [h]
/-- A window. -/
structure WinAt (w : World) (L : List Nat) (p : Nat) (s : Win) : Prop where
  ex : ∃ (kv : Value) (xs : List Value) (M : List Nat), Bk w p #[.int .i64 s.most, .bool s.strict, .int .i64 s.last, kv] 93 ∧ Own w 0 96 3 kv s.ents.length xs ∧ EntsOk w M s.ents xs ∧
    (∀ k ∈ M, k ∈ L ∧ k ≠ p ∧ kv.ownBlock ≠ some k) ∧ ∀ k, kv.ownBlock = some k → k ∈ L
  mem : p ∈ L
  under : Under L w.heap.size
  ok : s.Ok
theorem WinAt.keep {w w' : World} {L : List Nat} {p : Nat} {s : Win} (h : WinAt w L p s) (hk : ∀ k ∈ L, w'.heap[k]? = w.heap[k]?) (hs : w.heap.size ≤ w'.heap.size) : WinAt w' L p s := by
  obtain ⟨⟨kv, xs, M, h1, h2, h3, h4, h5⟩, hm, hu, ho⟩ := h
  exact ⟨⟨kv, xs, M, h1.keep (hk p hm), h2.keep (fun k e => hk k (h5 k e)), h3.keep (fun k e => hk k (h4 k e).1), h4, h5⟩, hm, hu.mono hs, ho⟩
theorem WinAt.fr {w w' : World} {L M : List Nat} {p : Nat} {s : Win} (h : WinAt w L p s) (hf : Fr M w w') (ha : Apart L M) : WinAt w' L p s := h.keep (hf.keep ha h.under) hf.size
theorem WinAt.below {w w' : World} {L : List Nat} {p : Nat} {s : Win} (h : WinAt w L p s) (hb : Below w.heap.size w w') : WinAt w' L p s := h.keep (fun k hk => hb.block k (h.under k hk)) hb.size
/-- The cells of an entry. -/
theorem ent_cells {w : World} {M : List Nat} {es : List Ent} {xs : List Value} {b0 : Nat} {a : Option Addr} {n c : Nat} (hO : Own w b0 96 3 (.slice a n c) es.length xs) (hE : EntsOk w M es xs) {i : Nat} {e : Ent} (he : es[i]? = some e) :
    ∃ b off u cu v cv, a = some ⟨b, off, none⟩ ∧ w.cell? ⟨b, off + i * 3, none⟩ = some (.int .i64 e.num) ∧ w.cell? ⟨b, off + i * 3 + 1, none⟩ = some (.slice u e.req.length cu) ∧ w.cell? ⟨b, off + i * 3 + 2, none⟩ = some (.slice v e.ans.length cv) ∧
      In w M u e.req ∧ In w M v e.ans ∧ e.req.length ≤ cu ∧ e.ans.length ≤ cv := by
  obtain ⟨u, cu, v, cv, k0, k1, k2, k⟩ := hE.2 i e he
  have hlt : i < es.length := (List.getElem?_eq_some_iff.1 he).1
  rcases hO.2 with ⟨_, h0⟩ | ⟨g, off, cap, cur, hv, _⟩
  · omega
  · injection hv with h1 h2 h3
    subst h1; subst h2
    have hc := hO.cells g off c rfl
    exact ⟨g, off, u, cu, v, cv, rfl, hc _ _ k0, hc _ _ k1, hc _ _ k2, k⟩
set_option maxRecDepth 100000 in
set_option maxHeartbeats 2000000 in
theorem look1_any (z m : Int) (u v : Option Addr) (n1 c1 n2 c2 g : Nat) (w : World) (hg : w.cell? ⟨g, 0, none⟩ = some (.int .i64 m)) :
    Calls Try.prog 51 #[.agg #[.int .i64 z, .slice u n1 c1, .slice v n2 c2], .pointer (some ⟨g, 0, none⟩)] w fun e w' => e = .returned (.bool (z == m)) ∧ Below w.heap.size w w' := by
  have hg2 : (w.alloc (.cells #[.int .i64 z, .slice u n1 c1, .slice v n2 c2] 96)).cell? ⟨g, 0, none⟩ = some (.int .i64 m) := by
    rw [World.cell?_alloc_past _ _ _ (block_lt_of_cell hg)]; exact hg
  go_enter Try.func51, Try.ntmps51
  go_wp2
  go_ret
  exact ⟨rfl, Below_one _⟩
set_option maxRecDepth 100000 in
set_option maxHeartbeats 4000000 in
theorem idx_any (a : Option Addr) (c : Nat) (es : List Ent) (xs : List Value) (M : List Nat) (g : Nat) (m : Int) (b0 : Nat) (w : World) (hO : Own w b0 96 3 (.slice a es.length c) es.length xs) (hE : EntsOk w M es xs) (hl : es.length ≤ 1000) (hM : Under M w.heap.size) (hg : w.cell? ⟨g, 0, none⟩ = some (.int .i64 m)) :
    Calls Try.prog 50 #[.slice a es.length c, .func (.func 51) #[] #[.pointer (some ⟨g, 0, none⟩)]] w fun e w' => e = .returned (.int .i64 (entIdx es m 0)) ∧ Below w.heap.size w w' := by
  have HK : ∀ wx : World, Below w.heap.size w wx → Own wx b0 96 3 (.slice a es.length c) es.length xs ∧ EntsOk wx M es xs := fun wx hb => ⟨hO.below hb (Nat.le_refl _), hE.keep fun k hk => hb.block k (hM k hk)⟩
  have HC := fun (wx : World) (hb : Below w.heap.size w wx) (i : Nat) (hi : i < es.length) => Bx.mk (ent_cells (HK wx hb).1 (HK wx hb).2 (List.getElem?_eq_getElem hi))
  have HG := fun (wx : World) (hb : Below w.heap.size w wx) => (hb.cell (p := ⟨g, 0, none⟩) (block_lt_of_cell hg)).trans hg
  clear HK hO hE hM
  go_enter Try.func50, Try.ntmps50
  go_wp2_with fail
  go_loopw [5,8,9,10,11,12,13,14,15,16,17,18] (fun _ t8 _ _ _ _ _ _ _ _ _ _ wr => ∃ i : Nat, i ≤ es.length ∧ t8 = .int .i64 i ∧ Bx (∀ (j : Nat) (f : Ent), j < i → es[j]? = some f → f.num ≠ m) ∧ Below w.heap.size w wr) (fun _ t8 _ _ _ _ _ _ _ _ _ _ _ => es.length - (intOf t8).toNat)
  case atStart => exact ⟨0, by omega, rfl, ⟨fun j f hj => by omega⟩, Below.refl _ _⟩
  case round =>
    obtain ⟨i, hi, rfl, HN, hb⟩ := hrel
    have HB := Bx.mk hb
    by_cases hlt : i < es.length
    · obtain ⟨b, off, u, cu, v, cv, rfl, c0, c1, c2, _, _, _, _⟩ := (HC wr hb i hlt).out
      have cg := HG wr hb
      have HE := Bx.mk (List.getElem?_eq_getElem hlt)
      clear hb
      generalize es[i] = e at *
      have i0 : (0 : Int) ≤ (i : Int) := by omega
      have i1 : (i : Int) < (es.length : Int) := by omega
      have HI := Bx.mk hlt
      by_cases hz : e.num = m
      · have HQ := Bx.mk (show (e.num == m) = true by rw [hz]; exact beq_self_eq_true m)
        have HZ := Bx.mk hz
        clear hz
        go_wp2_with (go_at_call 51; refine (look1_any e.num m u v _ cu _ cv g _ cg).mono ?_; rintro r w1 ⟨rfl, hb1⟩; rw [HQ.out])
        go_ret
        exact ⟨by rw [entIdx_hit es m i e HE.out HZ.out HN.out 0, Int.zero_add]; rfl, HB.out.trans (hb1.mono HB.out.size)⟩
      · have HQ := Bx.mk (show (e.num == m) = false by rw [beq_eq_false_iff_ne]; exact hz)
        have HZ := Bx.mk hz
        clear hz
        go_wp2_with (go_at_call 51; refine (look1_any e.num m u v _ cu _ cv g _ cg).mono ?_; rintro r w1 ⟨rfl, hb1⟩; rw [HQ.out])
        have HB1 := Bx.mk (HB.out.trans (hb1.mono HB.out.size))
        have HN1 : ∀ (j : Nat) (f : Ent), j < i + 1 → es[j]? = some f → f.num ≠ m := fun j f hj hf => by
          by_cases hji : j = i
          · subst hji
            have := HE.out
            rw [hf] at this
            injection this with this
            subst this
            exact HZ.out
          · exact HN.out j f (by omega) hf
        have HN2 := Bx.mk HN1
        clear HN1 hb1
        go_roundw
        case rel => exact ⟨i + 1, by omega, by go_num, HN2, HB1.out⟩
        case measure => simp [intOf]; omega
    · have hE : entIdx es m 0 = -1 := entIdx_miss es m (fun j f hf => HN.out j f (by have := (List.getElem?_eq_some_iff.1 hf).1; omega) hf) 0
      have HE := Bx.mk hE
      clear hE
      go_wp2
      go_ret
      exact ⟨by rw [HE.out]; rfl, HB.out⟩
set_option maxRecDepth 100000 in
set_option maxHeartbeats 2000000 in
theorem bEqual_any (a a' : Option Addr) (c c' : Nat) (xs ys : List UInt8) (w : World) (h : RowAt w a (xs.map bV)) (h' : RowAt w a' (ys.map bV)) :
    Calls Try.prog 52 #[.slice a xs.length c, .slice a' ys.length c'] w fun e w' => e = .returned (.bool (decide (xs = ys))) ∧ w' = w := by
  have k1 := conv_str (P := Try.prog) 30 9 Try.underlying30 Try.underlying5 Try.underlying9 w a c xs h
  have k2 := conv_str (P := Try.prog) 30 9 Try.underlying30 Try.underlying5 Try.underlying9 w a' c' ys h'
  go_enter Try.func52, Try.ntmps52
  go_wp2
  go_ret
  refine ⟨?_, rfl⟩
  rw [← strOf_eqB]
  rfl
set_option maxRecDepth 100000 in
set_option maxHeartbeats 8000000 in
theorem wLook_any (p : Nat) (s : Win) (L : List Nat) (n : Int) (a : Option Addr) (c : Nat) (q : List UInt8) (w : World) (hw : WinAt w L p s) (hq : RowAt w a (q.map bV)) :
    Calls Try.prog 16 #[.pointer (some ⟨p, 0, none⟩), .int .i64 n, .slice a q.length c] w fun e w' => ∃ v, e = .returned (.tuple #[v, .int .i64 (s.look n q).2]) ∧ Own w' w.heap.size 5 1 v (s.look n q).1.length ((s.look n q).1.map bV) ∧ Below w.heap.size w w' := by
  obtain ⟨⟨kv, xs, M, h1, h2, h3, h4, h5⟩, hm, hu, ho⟩ := hw
  obtain ⟨kva, kvc, rfl⟩ := h2.isSlice
  obtain ⟨g, hg⟩ : ∃ g, g = w.heap.size := ⟨_, rfl⟩
  have HG := Bx.mk hg
  have b0 := Below_one (w := w) (.cells #[.int .i64 n] 3)
  have cg : (w.alloc (.cells #[.int .i64 n] 3)).cell? ⟨g, 0, none⟩ = some (.int .i64 n) := by rw [World.cell?_alloc_at _ _ _ _ hg]; rfl
  have CP : ∀ wx, Below w.heap.size w wx → wx.cell? ⟨p, 0, none⟩ = some (.int .i64 s.most) ∧ wx.cell? ⟨p, 1, none⟩ = some (.bool s.strict) ∧ wx.cell? ⟨p, 2, none⟩ = some (.int .i64 s.last) ∧ wx.cell? ⟨p, 3, none⟩ = some (.slice kva s.ents.length kvc) := fun wx hb => by
    have hB := h1.keep (hb.block p h1.lt)
    refine ⟨?_, ?_, ?_, ?_⟩ <;> rw [hB.cell] <;> rfl
  have EP : ∀ wx : World, Below w.heap.size w wx → Own wx 0 96 3 (.slice kva s.ents.length kvc) s.ents.length xs ∧ EntsOk wx M s.ents xs := fun wx hb => ⟨h2.below hb (Nat.le_refl _), h3.keep fun k hk => hb.block k (hu k (h4 k hk).1)⟩
  have QP : ∀ wx : World, Below w.heap.size w wx → Bx (RowAt wx a (q.map bV)) := fun wx hb => ⟨hq.below hb (Nat.le_refl _)⟩
  have HU := Bx.mk (show Under M w.heap.size from fun k hk => hu k (h4 k hk).1)
  have HS := Bx.mk ho
  clear h1 h2 h3 h4 h5 hm hu ho hq
  have HEnd : ∀ (wx : World) (m : Int), Below w.heap.size w wx → s.look n q = ([], m) → ∃ v, Ending.returned (.tuple #[.slice none 0 0, .int .i64 m]) = .returned (.tuple #[v, .int .i64 (s.look n q).2]) ∧ Own wx w.heap.size 5 1 v (s.look n q).1.length ((s.look n q).1.map bV) ∧ Below w.heap.size w wx := fun wx m hb he => by
    rw [he]
    exact ⟨_, rfl, Own.nil _ _ _ _, hb⟩
  go_enter Try.func16, Try.ntmps16
  by_cases hn0 : n < 0
  · have E := Bx.mk (show s.look n q = ([], 1) by unfold Win.look; rw [if_pos (.inl hn0)])
    go_wp2
    go_ret2
    exact HEnd _ 1 b0 E.out
  · by_cases hn1 : 4611686018427387904 < n
    · have E := Bx.mk (show s.look n q = ([], 1) by unfold Win.look; rw [if_pos (.inr hn1)])
      go_wp2
      go_ret2
      exact HEnd _ 1 b0 E.out
    · have HN := Bx.mk (show ¬ (n < 0 ∨ 4611686018427387904 < n) by omega)
      have B0 := Bx.mk b0
      obtain ⟨k0, k1, k2, k3⟩ := CP _ b0
      have HEP := Bx.mk (EP _ b0)
      have cp3 := fun (wx : World) (h : Below w.heap.size w wx) => (CP wx h).2.2.2
      go_wp2_with fail
      rw [← HG.out]
      refine (idx_any kva kvc s.ents xs M g n 0 (w.alloc (.cells #[.int .i64 n] 3)) HEP.out.1 HEP.out.2 ?_ (HU.out.mono (by simp)) cg).mono ?_
      · have := HS.out.le; have := HS.out.m2; omega
      rintro r w1 ⟨rfl, hb1⟩
      have cg1 : w1.cell? ⟨g, 0, none⟩ = some (.int .i64 n) := (hb1.cell (p := ⟨g, 0, none⟩) (block_lt_of_cell cg)).trans cg
      have hb1 := B0.out.trans (hb1.mono (by simp))
      obtain ⟨k0, k1, k2, k3⟩ := CP _ hb1
      have B1 := Bx.mk hb1
      have l1 := HS.out.l1
      have l2 := HS.out.l2
      have cg2 := cg1
      rw [HG.out] at cg2
      rcases entIdx_or s.ents n with ⟨hi, hf⟩ | ⟨k, e, hi, he, hf⟩
      · rw [hi]
        by_cases hlast : n ≤ s.last
        · have E := Bx.mk (show s.look n q = ([], 13) by unfold Win.look; rw [if_neg HN.out, hf]; dsimp only; rw [if_pos hlast])
          clear hf hi
          go_wp2
          all_goals go_region
          all_goals (try go_wp2)
          all_goals go_ret2
          all_goals exact HEnd _ 13 B1.out.drew E.out
        · cases hst : s.strict with
          | false =>
            have E := Bx.mk (show s.look n q = ([], 7) by unfold Win.look; rw [if_neg HN.out, hf]; dsimp only; rw [if_neg hlast, if_neg (by rw [hst]; simp)])
            rw [hst] at k1
            clear hf hi
            go_wp2
            all_goals go_region
            all_goals (try go_wp2)
            all_goals go_region
            all_goals (try go_wp2)
            all_goals go_ret2
            all_goals exact HEnd _ 7 B1.out.drew.drew E.out
          | true =>
            rw [hst] at k1
            by_cases hnx : n = s.last + 1
            · have E := Bx.mk (show s.look n q = ([], 7) by unfold Win.look; rw [if_neg HN.out, hf]; dsimp only; rw [if_neg hlast, if_neg (by rw [hst]; simp [hnx])])
              clear hf hi
              go_wp2
              all_goals go_region
              all_goals (try go_wp2)
              all_goals go_region
              all_goals (try go_wp2)
              all_goals go_ret2
              all_goals exact HEnd _ 7 B1.out.drew.drew E.out
            · have E := Bx.mk (show s.look n q = ([], 15) by unfold Win.look; rw [if_neg HN.out, hf]; dsimp only; rw [if_neg hlast, if_pos ⟨hst, hnx⟩])
              clear hf hi
              go_wp2
              all_goals go_region
              all_goals (try go_wp2)
              all_goals go_region
              all_goals (try go_wp2)
              all_goals go_ret2
              all_goals exact HEnd _ 15 B1.out.drew.drew E.out
      · rw [hi]
        have HE1 := EP w1 hb1
        obtain ⟨b, off, u, cu, v, cv, rfl, c0, c1, c2, iu, iv, lu, lv⟩ := ent_cells HE1.1 HE1.2 he
        have IU := Bx.mk iu.1; have IV := Bx.mk iv.1
        have hk : k < s.ents.length := (List.getElem?_eq_some_iff.1 he).1
        have j0 : (0 : Int) ≤ (k : Int) := by omega
        have j1 : (k : Int) < (s.ents.length : Int) := by omega
        have HA := Bx.mk (HS.out.each e (List.mem_of_getElem? he))
        have HF := Bx.mk hf
        clear HE1 iu iv he hi hf
        by_cases hq : e.req = q
        · have E := Bx.mk (show s.look n q = (e.ans, 0) by unfold Win.look; rw [if_neg HN.out, HF.out]; dsimp only; rw [if_pos hq])
          have HD := Bx.mk (decide_eq_true hq)
          clear hq
          go_wp2_with fail
          refine (bEqual_any u a cu c e.req q w1 IU.out (QP w1 B1.out).out).mono ?_
          rintro r w2 ⟨rfl, rfl⟩
          rw [HD.out]
          go_wp2_with fail
          refine (bClone_any v cv e.ans w2 IV.out (by have := HA.out.2.2.2; omega)).mono ?_
          rintro r w3 ⟨v', rfl, ho3, hb3⟩
          have HO3 := Bx.mk ho3; have HB3 := Bx.mk hb3
          clear ho3 hb3
          go_wp2
          go_ret2
          rw [E.out]
          exact ⟨_, rfl, HO3.out.base_le fun k hk => Nat.le_trans B1.out.size (HO3.out.lt k hk).1, B1.out.trans (HB3.out.mono B1.out.size)⟩
        · have E := Bx.mk (show s.look n q = ([], 14) by unfold Win.look; rw [if_neg HN.out, HF.out]; dsimp only; rw [if_neg hq])
          have HD := Bx.mk (decide_eq_false hq)
          clear hq
          go_wp2_with fail
          refine (bEqual_any u a cu c e.req q w1 IU.out (QP w1 B1.out).out).mono ?_
          rintro r w2 ⟨rfl, rfl⟩
          rw [HD.out]
          go_wp2
          go_ret2
          exact HEnd _ 14 B1.out E.out
end Go.Proofs.Ytjjmhmbmjpedkaa
end
section
/- New, Last, Len, Keep of a window, walked. -/
namespace Go.Proofs.Ytjjmhmbmjpedkaa
open Go.RowKit
/-- A window under way: what it owns lies in L, or is new. -/
structure WinRaw (w : World) (L : List Nat) (n0 p : Nat) (mo : Int) (st : Bool) (la : Int) (es : List Ent) (kv : Value) (xs : List Value) (M : List Nat) : Prop where
  bk : Bk w p #[.int .i64 mo, .bool st, .int .i64 la, kv] 93
  own : Own w 0 96 3 kv es.length xs
  ents : EntsOk w M es xs
  far : ∀ k ∈ M, (k ∈ L ∨ n0 ≤ k) ∧ k ≠ p ∧ kv.ownBlock ≠ some k
  mine : ∀ k, kv.ownBlock = some k → k ∈ L ∨ n0 ≤ k
  under : Under M w.heap.size
section
variable {w w' : World} {L M : List Nat} {n0 p : Nat} {mo la : Int} {st : Bool} {es : List Ent} {kv : Value} {xs : List Value}
theorem win_far {w : World} {p : Nat} {cs : Array Value} {kv : Value} {n : Nat} {xs : List Value} (h1 : Bk w p cs 93) (h2 : Own w 0 96 3 kv n xs) : kv.ownBlock ≠ some p := by
  intro h
  rcases h2.2 with ⟨rfl, _⟩ | ⟨g', off, cap, cur, rfl, hb, hg, _⟩
  · cases h
  · simp [Value.ownBlock] at h
    subst h
    unfold Bk at h1
    rw [h1] at hg
    injection hg with hg
    injection hg with h3 h4 h5
    exact absurd h4 (by decide)
theorem WinAt.raw {s : Win} (h : WinAt w L p s) (n0 : Nat) : ∃ kv xs M, WinRaw w L n0 p s.most s.strict s.last s.ents kv xs M := by
  obtain ⟨⟨kv, xs, M, h1, h2, h3, h4, h5⟩, hm, hu, ho⟩ := h
  exact ⟨kv, xs, M, h1, h2, h3, fun k hk => ⟨.inl (h4 k hk).1, (h4 k hk).2⟩, fun k hk => .inl (h5 k hk), fun k hk => hu k (h4 k hk).1⟩
theorem WinRaw.below (h : WinRaw w L n0 p mo st la es kv xs M) (hb : Below w.heap.size w w') : WinRaw w' L n0 p mo st la es kv xs M :=
  ⟨h.bk.keep (hb.block p h.bk.lt), h.own.below hb (Nat.le_refl _), h.ents.keep fun k hk => hb.block k (h.under k hk), h.far, h.mine, h.under.mono hb.size⟩
theorem WinRaw.alloc (h : WinRaw w L n0 p mo st la es kv xs M) (o : Obj) : WinRaw (w.alloc o) L n0 p mo st la es kv xs M := h.below (Below_one o)
/-- More bytes that a new entry may lie in. -/
theorem WinRaw.more (h : WinRaw w L n0 p mo st la es kv xs M) (B : List Nat) (hB : ∀ k ∈ B, n0 ≤ k ∧ k < w.heap.size ∧ k ≠ p ∧ kv.ownBlock ≠ some k) : WinRaw w L n0 p mo st la es kv xs (M ++ B) :=
  ⟨h.bk, h.own, h.ents.mono fun _ hk => List.mem_append_left _ hk, fun k hk => (List.mem_append.1 hk).elim (h.far k) fun hk => ⟨.inr (hB k hk).1, (hB k hk).2.2⟩, h.mine, fun k hk => (List.mem_append.1 hk).elim (h.under k) fun hk => (hB k hk).2.1⟩
/-- An entry is appended; the slice is stored. -/
theorem WinRaw.grow (h : WinRaw w L n0 p mo st la es kv xs M) {e : Ent} {a a' : Option Addr} {c c' : Nat} (h3 : In w M a e.req) (h4 : In w M a' e.ans) (h5 : e.req.length ≤ c) (h6 : e.ans.length ≤ c') (hn : n0 ≤ w.heap.size)
    {v1 : Value} (ho1 : Own w' 0 96 3 v1 (es.length + 1) (xs ++ cells3 e.num a e.req.length c a' e.ans.length c')) (hg : w.grownBy w' kv.ownBlock) (hn1 : v1.ownBlock = kv.ownBlock ∨ ∃ g, v1.ownBlock = some g ∧ w.heap.size ≤ g) :
    Bk w' p #[.int .i64 mo, .bool st, .int .i64 la, kv] 93 ∧ WinRaw (w'.setCell ⟨p, 3, none⟩ v1) L n0 p mo st la (es ++ [e]) v1 (xs ++ cells3 e.num a e.req.length c a' e.ans.length c') M := by
  have hne := win_far h.bk h.own
  have b1 := h.bk.keep (hg.block p h.bk.lt (fun e => hne e.symm))
  have hk1 : ∀ k, k ≠ p → (w'.setCell ⟨p, 3, none⟩ v1).heap[k]? = w'.heap[k]? := fun k hk => Below.heap_setCell _ _ _ _ hk
  have hfar : ∀ k ∈ M, v1.ownBlock ≠ some k := fun k hk e => by
    rcases hn1 with h1 | ⟨g, h1, hg1⟩
    · exact (h.far k hk).2.2 (h1 ▸ e)
    · rw [h1] at e; injection e with e; have := h.under k hk; omega
  refine ⟨b1, b1.setCell 3 v1, ?_, ?_, fun k hk => ⟨(h.far k hk).1, (h.far k hk).2.1, hfar k hk⟩, ?_, ?_⟩
  · rw [List.length_append]
    exact ho1.keep fun k hk => hk1 k fun e2 => win_far b1 ho1 (e2 ▸ hk)
  · have hM : ∀ k ∈ M, (w'.setCell ⟨p, 3, none⟩ v1).heap[k]? = w.heap[k]? := fun k hk => (hk1 k (h.far k hk).2.1).trans (hg.block k (h.under k hk) (fun e => (h.far k hk).2.2 e.symm))
    exact (h.ents.keep hM).app (h3.keep hM) (h4.keep hM) h5 h6
  · intro k hk
    rcases hn1 with h1 | ⟨g, h1, hg1⟩
    · exact h.mine k (h1 ▸ hk)
    · rw [h1] at hk; injection hk with hk; exact .inr (by omega)
  · exact (h.under.mono hg.size).mono (by simp)
/-- The first entry is cut off; the slice is stored. -/
theorem WinRaw.cut (h : WinRaw w L n0 p mo st la es kv xs M) (hne : 1 ≤ es.length) {v1 : Value} (ho1 : Own w 0 96 3 v1 (es.length - 1) (xs.drop 3)) (hv : v1.ownBlock = kv.ownBlock) :
    WinRaw (w.setCell ⟨p, 3, none⟩ v1) L n0 p mo st la (es.drop 1) v1 (xs.drop 3) M := by
  have hk1 : ∀ k, k ≠ p → (w.setCell ⟨p, 3, none⟩ v1).heap[k]? = w.heap[k]? := fun k hk => Below.heap_setCell _ _ _ _ hk
  refine ⟨h.bk.setCell 3 v1, ?_, (h.ents.drop1 hne).keep fun k hk => hk1 k (h.far k hk).2.1, by rw [hv]; exact h.far, by rw [hv]; exact h.mine, h.under.mono (by simp)⟩
  rw [List.length_drop]
  exact ho1.keep fun k hk => hk1 k fun e2 => win_far h.bk ho1 (e2 ▸ hk)
theorem WinRaw.setLast (h : WinRaw w L n0 p mo st la es kv xs M) (z : Int) : WinRaw (w.setCell ⟨p, 2, none⟩ (.int .i64 z)) L n0 p mo st z es kv xs M := by
  have hk1 : ∀ k, k ≠ p → (w.setCell ⟨p, 2, none⟩ (.int .i64 z)).heap[k]? = w.heap[k]? := fun k hk => Below.heap_setCell _ _ _ _ hk
  exact ⟨h.bk.setCell 2 (.int .i64 z), h.own.keep fun k hk => hk1 k fun e2 => win_far h.bk h.own (e2 ▸ hk), h.ents.keep fun k hk => hk1 k (h.far k hk).2.1, h.far, h.mine, h.under.mono (by simp)⟩
theorem WinRaw.at (h : WinRaw w L n0 p mo st la es kv xs M) (hp : p ∈ L) (ho : (Win.mk mo st la es).Ok) : ∃ L', WinAt w L' p ⟨mo, st, la, es⟩ ∧ Gr L L' n0 := by
  refine ⟨p :: (kv.ownBlock.toList ++ M), ⟨⟨kv, xs, M, h.bk, h.own, h.ents, fun k hk => ⟨by simp [hk], (h.far k hk).2⟩, fun k hk => by simp [hk]⟩, by simp, fun k hk => ?_, ho⟩, fun k hk => ?_⟩
  · rcases List.mem_cons.1 hk with rfl | hk
    · exact h.bk.lt
    · rcases List.mem_append.1 hk with hk | hk
      · exact (h.own.lt k (by simpa using hk)).2
      · exact h.under k hk
  · rcases List.mem_cons.1 hk with rfl | hk
    · exact .inl hp
    · rcases List.mem_append.1 hk with hk | hk
      · exact h.mine k (by simpa using hk)
      · exact (h.far k hk).1
end
/-- 'kept[1:]'. -/
theorem own_some {w : World} {b0 n c : Nat} {a : Option Addr} {xs : List Value} (hn : 1 ≤ n) (h : Own w b0 96 3 (.slice a n c) n xs) : ∃ g off, a = some ⟨g, off, none⟩ := by
  rcases h.2 with ⟨_, h0⟩ | ⟨g, off, cap, cur, hv, _⟩
  · omega
  injection hv with e1 e2 e3
  exact ⟨g, off, e1⟩
theorem own_cut {w : World} {b0 n c g off : Nat} {xs : List Value} (h : Own w b0 96 3 (.slice (some ⟨g, off, none⟩) (n + 1) c) (n + 1) xs) :
    (c = 1 → Own w b0 96 3 (.slice (some ⟨g, off, none⟩) n (c - 1)) n (xs.drop 3)) ∧ (c ≠ 1 → Own w b0 96 3 (.slice (some ⟨g, off + 3, none⟩) n (c - 1)) n (xs.drop 3)) := by
  rcases h.2 with ⟨_, h0⟩ | ⟨g, off, cap, cur, hv, hb, hg, h1, h2, h3, h4⟩
  · omega
  injection hv with e1 e2 e3
  injection e1 with e1
  injection e1 with e1 e4
  subst e1; subst e3; subst e4
  have hl : (xs.drop 3).length = n * 3 := by rw [List.length_drop, h.1]; omega
  have hx : ((cur.toList.drop (off + 3)).take (n * 3)) = xs.drop 3 := by
    rw [← h4, List.drop_take, List.drop_drop]
    congr 1; omega
  refine ⟨fun hc => ⟨hl, .inr ⟨_, off, c - 1, cur, rfl, hb, hg, by omega, by omega, by omega, ?_⟩⟩, fun hc => ⟨hl, .inr ⟨_, off + 3, c - 1, cur, rfl, hb, hg, by omega, by omega, by omega, hx⟩⟩⟩
  rw [← hx, show n * 3 = 0 by omega]
  simp
set_option maxRecDepth 100000 in
set_option maxHeartbeats 2000000 in
theorem wNew_bad (m : Int) (st : Bool) (w : World) (h : m < 1 ∨ 64 < m) :
    Calls Try.prog 13 #[.int .i64 m, .bool st] w fun e w' => e = .returned (.tuple #[.pointer none, .int .i64 1]) ∧ w' = w := by
  by_cases h1 : m < 1
  · go_enter Try.func13, Try.ntmps13
    go_wp2
    go_ret2
    exact ⟨rfl, rfl⟩
  · have h2 : 64 < m := by omega
    go_enter Try.func13, Try.ntmps13
    go_wp2
    go_ret2
    exact ⟨rfl, rfl⟩
set_option maxRecDepth 100000 in
set_option maxHeartbeats 2000000 in
theorem wNew_any (m : Int) (st : Bool) (w : World) (h1 : 1 ≤ m) (h2 : m ≤ 64) :
    Calls Try.prog 13 #[.int .i64 m, .bool st] w fun e w' => e = .returned (.tuple #[.pointer (some ⟨w.heap.size, 0, none⟩), .int .i64 0]) ∧ WinAt w' [w.heap.size] w.heap.size ⟨m, st, -1, []⟩ ∧ Below w.heap.size w w' := by
  go_enter Try.func13, Try.ntmps13
  go_wp2
  go_ret2
  refine ⟨rfl, ⟨⟨.slice none 0 0, [], [], Bk.new rfl, Own.nil _ _ _ _, EntsOk.nil _ _, (fun k hk => by cases hk), fun k hk => by cases hk⟩, by simp, fun k hk => ?_, ⟨h1, h2, show (-1 : Int) ≤ -1 by decide, show (-1 : Int) ≤ 4611686018427387904 by decide, by simp; omega, fun e he => by cases he⟩⟩, Below_one _⟩
  rw [List.mem_singleton] at hk
  subst hk
  simp
theorem wLast_any (p : Nat) (s : Win) (L : List Nat) (w : World) (h : WinAt w L p s) :
    Calls Try.prog 17 #[.pointer (some ⟨p, 0, none⟩)] w fun e w' => e = .returned (.int .i64 s.last) ∧ w' = w := by
  obtain ⟨⟨kv, xs, M, h1, _⟩, _, _, _⟩ := h
  have c2 : w.cell? ⟨p, 2, none⟩ = some (.int .i64 s.last) := by rw [h1.cell]; rfl
  clear h1
  go_enter Try.func17, Try.ntmps17
  go_wp2
  go_ret
  exact ⟨rfl, rfl⟩
theorem wLen_any (p : Nat) (s : Win) (L : List Nat) (w : World) (h : WinAt w L p s) :
    Calls Try.prog 31 #[.pointer (some ⟨p, 0, none⟩)] w fun e w' => e = .returned (.int .i64 (s.ents.length : Int)) ∧ w' = w := by
  obtain ⟨⟨kv, xs, M, h1, h2, _⟩, _, _, _⟩ := h
  obtain ⟨a, c, rfl⟩ := h2.isSlice
  have c2 : w.cell? ⟨p, 3, none⟩ = some (.slice a s.ents.length c) := by rw [h1.cell]; rfl
  clear h1 h2
  go_enter Try.func31, Try.ntmps31
  go_wp2
  go_ret
  exact ⟨rfl, rfl⟩
theorem own_cap {w : World} {b n c size : Nat} {e : TypeId} {a : Option Addr} {xs : List Value} (h : Own w b e size (.slice a n c) n xs) : n ≤ c := by
  rcases h.2 with ⟨_, h0⟩ | ⟨g, off, cap, cur, hv, hb, hg, h1, _⟩
  · omega
  · injection hv with h2 h3 h4
    omega
theorem In.alloc {w : World} {M : List Nat} {a : Option Addr} {bs : List UInt8} (h : In w M a bs) (o : Obj) : In (w.alloc o) M a bs := ⟨h.1.alloc o, h.2⟩
theorem Try.infoOne : (Try.prog.info? 96).map (fun i => (i.zero, i.size, i.bytes)) = some (some (.agg #[.int .i64 0, .slice none 0 0, .slice none 0 0]), 3, 56) := by kernel_rfl
theorem Src.cells3 {W : World} {tx e' : TypeId} {t : TypeId} (hk : Try.prog.underlying tx = some (.slice e')) (n : Int) (a : Option Addr) (m c : Nat) (a' : Option Addr) (m' c' : Nat) :
    Src Try.prog 3 tx (.slice (some ⟨W.heap.size, 0, none⟩) 1 1) 1 (cells3 n a m c a' m' c') (W.alloc (.cells #[.int .i64 n, .slice a m c, .slice a' m' c'] t)) :=
  Src.ofSlice _ hk _ 1 1 _ rfl (fun j u hj => by
    rw [Addr.add_lit, Nat.zero_add]
    have h := cell_of_row (W.alloc (.cells #[.int .i64 n, .slice a m c, .slice a' m' c'] t)) W.heap.size j _ _ _ (al_new rfl)
    rw [h, ← hj, ← Array.getElem?_toList]
    rfl) (fun u hu => by
    simp only [_root_.Go.Proofs.Ytjjmhmbmjpedkaa.cells3, List.mem_cons, List.not_mem_nil, or_false] at hu
    rcases hu with rfl | rfl | rfl <;> rfl)
set_option maxRecDepth 100000 in
set_option maxHeartbeats 8000000 in
theorem wKeep_any (p : Nat) (s : Win) (L : List Nat) (n : Int) (a : Option Addr) (c : Nat) (q : List UInt8) (a2 : Option Addr) (c2 : Nat) (r : List UInt8) (w : World) (hw : WinAt w L p s) (hq : RowAt w a (q.map bV)) (hr : RowAt w a2 (r.map bV)) :
    Calls Try.prog 15 #[.pointer (some ⟨p, 0, none⟩), .int .i64 n, .slice a q.length c, .slice a2 r.length c2] w fun e w' => e = .returned (.int .i64 (s.keep n q r).1) ∧ ∃ L', WinAt w' L' p (s.keep n q r).2 ∧ Fr L w w' ∧ Gr L L' w.heap.size := by
  have HL := Bx.mk (wLook_any p s L n a c q w hw hq)
  have HW := Bx.mk hw; have HQ := Bx.mk hq; have HR := Bx.mk hr
  obtain ⟨i0, hi0, hz0, hz1, hz2⟩ := info_parts Try.infoOne
  have Hi := Bx.mk hi0; have Hz0 := Bx.mk hz0; have Hz1 := Bx.mk hz1; have Hz2 := Bx.mk hz2
  clear hi0 hz0 hz1 hz2
  have HSame : ∀ (wx : World) (m : Int), Below w.heap.size w wx → s.keep n q r = (m, s) → Ending.returned (.int .i64 m) = .returned (.int .i64 (s.keep n q r).1) ∧ ∃ L', WinAt wx L' p (s.keep n q r).2 ∧ Fr L w wx ∧ Gr L L' w.heap.size := fun wx m hb he => by
    rw [he]
    exact ⟨rfl, L, HW.out.below hb, Fr.ofBelow hb, Gr.refl _ _⟩
  clear hw hq hr
  go_enter Try.func15, Try.ntmps15
  go_wp2_with fail
  refine HL.out.mono ?_
  rintro e w1 ⟨v, rfl, _, hb1⟩
  have B1 := Bx.mk hb1
  clear hb1 HL
  by_cases h0 : (s.look n q).2 = 0
  · have E := Bx.mk (show s.keep n q r = (8, s) by unfold Win.keep; dsimp only; rw [if_pos h0])
    rw [h0]
    clear h0
    go_wp2
    go_ret
    exact HSame _ 8 B1.out E.out
  · by_cases h7 : (s.look n q).2 = 7
    · by_cases hbig : 65536 < q.length ∨ 65536 < r.length
      · have E := Bx.mk (show s.keep n q r = (5, s) by unfold Win.keep; dsimp only; rw [if_neg h0, if_neg (by rw [h7]; decide), if_pos hbig])
        rw [h7]
        clear h0 h7
        by_cases hbq : 65536 < q.length
        · go_wp2
          go_ret
          exact HSame _ 5 B1.out E.out
        · have hbr : 65536 < r.length := by omega
          go_wp2
          go_ret
          exact HSame _ 5 B1.out E.out
      · have E := Bx.mk (show s.keep n q r = (0, s.push n q r) by unfold Win.keep; dsimp only; rw [if_neg h0, if_neg (by rw [h7]; decide), if_neg hbig])
        have H7 := Bx.mk h7
        rw [h7]
        clear h0 h7
        have lq : ¬ 65536 < q.length := fun h => hbig (.inl h)
        have lr : ¬ 65536 < r.length := fun h => hbig (.inr h)
        have HOk := Bx.mk (Win.push_ok HW.out.ok (Win.look7 H7.out).1 (Win.look7 H7.out).2 (q := q) (a := r) (by omega) (by omega))
        have hle := HW.out.ok.le
        have hm2 := HW.out.ok.m2
        have hm1 := HW.out.ok.m1
        obtain ⟨kv, xs, M, hraw⟩ := (HW.out.below B1.out).raw w.heap.size
        obtain ⟨ka, kc, rfl⟩ := hraw.own.isSlice
        have R1 := Bx.mk (hraw.below (w' := w1.drew) ((Below.refl _ _).drew))
        clear hraw
        go_wp2_with fail
        refine wp_region_early [0, 1, 2, 3, 4, 5, 6, 8] [7, 9, 10, 11, 12] [13, 14, 15] (fun wx => wx.cell? ⟨p, 3, none⟩ = some (.slice ka s.ents.length kc)) (by kernel_rfl) (by kernel_rfl) (by kernel_rfl) (by rfl) (by rw [R1.out.bk.cell]; rfl) ?_
        apply Exists.intro
        refine ⟨fun wx hx => ?_, ?_⟩
        · repeat (refine seI_step rfl (fun K hK => ?_); go_simp; refine hK _ ?_; clear hK K)
          exact seI_nil rfl
        refine wpTA_cons rfl ?_
        have B2 := Bx.mk (B1.out.drew)
        go_wp2_with fail
        refine (bClone_any a c q w1.drew (HQ.out.below B2.out (Nat.le_refl _)) (by omega)).mono ?_
        rintro e w2 ⟨v1, rfl, ho1, hb1⟩
        have H12 := Bx.mk hb1.size
        have O1 := Bx.mk ho1; have R2 := Bx.mk (R1.out.below hb1); have B3 := Bx.mk (B2.out.trans (hb1.mono B2.out.size))
        obtain ⟨va, vc, rfl⟩ := ho1.isSlice
        clear ho1 hb1
        go_wp2
        refine ⟨by rw [R2.out.bk.cell]; rfl, wpTA_cons rfl ?_⟩
        go_wp2_with fail
        refine (bClone_any a2 c2 r w2 (HR.out.below B3.out (Nat.le_refl _)) (by omega)).mono ?_
        rintro e w3 ⟨v2, rfl, ho2, hb2⟩
        have O1 := Bx.mk (O1.out.below hb2 (Nat.le_refl _)); have O2 := Bx.mk ho2; have R3 := Bx.mk (R2.out.below hb2); have B4 := Bx.mk (B3.out.trans (hb2.mono B3.out.size))
        obtain ⟨vb, vd, rfl⟩ := ho2.isSlice
        clear ho2 hb2
        go_wp2
        refine ⟨by rw [R3.out.bk.cell]; rfl, wpTA_cons rfl ?_⟩
        go_wp2
        refine ⟨by rw [R3.out.bk.cell]; rfl, wpTA_cons rfl ?_⟩
        go_wp2
        refine ⟨by rw [(R3.out.bk.alloc _).cell]; rfl, wpTA_cons rfl ?_⟩
        refine wpList_app rfl (.tmp 38) (.tmp 45) 91 91 rfl i0 _ 56 Try.underlying91 Hi.out Hz0.out Hz1.out Hz2.out rfl rfl (R3.out.own.alloc _) _ rfl 1 (cells3 n va q.length vc vb r.length vd) (Src.cells3 Try.underlying91 n va q.length vc vb r.length vd) (by unfold maxLen; omega) (by omega) (Nat.zero_le _) ?_
        intro v5 w5 ho5 hg5 hn5
        obtain ⟨a5, c5, rfl⟩ := ho5.isSlice
        have hM : ∀ k ∈ (Value.slice va q.length vc).ownBlock.toList ++ (Value.slice vb r.length vd).ownBlock.toList, w.heap.size ≤ k ∧ k < w3.heap.size ∧ k ≠ p ∧ (Value.slice ka s.ents.length kc).ownBlock ≠ some k := fun k hk => by
          have h1 : w1.drew.heap.size ≤ k ∧ k < w3.heap.size := by
            rcases List.mem_append.1 hk with hk | hk
            · exact O1.out.lt k (by simpa using hk)
            · have := O2.out.lt k (by simpa using hk)
              exact ⟨Nat.le_trans (show w1.drew.heap.size ≤ w2.heap.size from H12.out) this.1, this.2⟩
          have h2 := B2.out.size
          have h3 := HW.out.under p HW.out.mem
          refine ⟨by omega, h1.2, by omega, fun e => ?_⟩
          have := (R1.out.own.lt k e).2
          omega
        have R4 := (R3.out.more _ hM).alloc (.cells #[.int .i64 n, .slice va q.length vc, .slice vb r.length vd] 96)
        obtain ⟨b5, R5⟩ := R4.grow (e := ⟨n, q, r⟩) (c := vc) (c' := vd) (((In.ofOwn O1.out).alloc _).mono (by simp +contextual)) (((In.ofOwn O2.out).alloc _).mono (by simp +contextual)) (own_cap O1.out) (own_cap O2.out) (by have := B4.out.size; simp; omega) ho5 hg5 hn5
        have K5 := Bx.mk (show w5.cell? ⟨p, 3, none⟩ = some (.slice ka s.ents.length kc) by rw [b5.cell]; rfl)
        have K6 := Bx.mk (show w5.frozen? ⟨p, 3, none⟩ = false from b5.frozen 3)
        have R5 := Bx.mk R5
        have F5 := Bx.mk ((((Fr.ofBelow (L := L) B4.out).alloc (.cells #[.int .i64 n, .slice va q.length vc, .slice vb r.length vd] 96)).grown hg5 R1.out.mine).setCell (p := ⟨p, 3, none⟩) (.inl HW.out.mem) (.slice a5 (s.ents.length + 1) c5))
        clear ho5 hg5 hn5 hM R4 b5 R1 R2 R3 O1 O2 B2 B3 B4 H12
        go_wp2
        refine ⟨K5.out, wpTA_nil (.cons rfl (.cons rfl (.cons rfl .nil))) ?_⟩
        have k5 := K5.out
        have k6 := K6.out
        go_wp2
        refine NoPanic.normal ?_
        clear k5 k6 K5 K6
        generalize w5.setCell ⟨p, 3, none⟩ (.slice a5 (s.ents.length + 1) c5) = w6 at *
        have R6 := Bx.mk (R5.out.below (w' := w6.drew) ((Below.refl _ _).drew))
        have F6 := Bx.mk (F5.out.drew)
        have e3 : w6.cell? ⟨p, 3, none⟩ = some (.slice a5 (s.ents.length + 1) c5) := by rw [R5.out.bk.cell]; rfl
        have e0 : w6.cell? ⟨p, 0, none⟩ = some (.int .i64 s.most) := by rw [R5.out.bk.cell]; rfl
        go_wp2_with fail
        refine wp_region_early [0, 1, 2, 3, 4, 5, 6, 7, 8, 9] [] [] (fun wx => wx.cell? ⟨p, 3, none⟩ = some (.slice a5 (s.ents.length + 1) c5) ∧ wx.cell? ⟨p, 0, none⟩ = some (.int .i64 s.most)) (by kernel_rfl) (by kernel_rfl) (by kernel_rfl) (by rfl) ⟨e3, e0⟩ ?_
        apply Exists.intro
        refine ⟨fun wx hx => ?_, ?_⟩
        · obtain ⟨x1, x2⟩ := hx
          repeat (refine seI_step rfl (fun K hK => ?_); go_simp; refine hK _ ?_; clear hK K)
          exact seI_nil rfl
        refine wpTA_nil .nil ?_
        clear e3 e0
        generalize w6.drew = w7 at *
        have f2 : w7.frozen? ⟨p, 2, none⟩ = false := R6.out.bk.frozen 2
        have g2 : w7.cell? ⟨p, 2, none⟩ = some (.int .i64 s.last) := by rw [R6.out.bk.cell]; rfl
        by_cases hful : s.most < (s.ents.length : Int) + 1
        · have e3 : w7.cell? ⟨p, 3, none⟩ = some (.slice a5 (s.ents.length + 1) c5) := by rw [R6.out.bk.cell]; rfl
          have f3 : w7.frozen? ⟨p, 3, none⟩ = false := R6.out.bk.frozen 3
          obtain ⟨g5, o5, rfl⟩ := own_some (n := s.ents.length + 1) (by omega) (by have := R6.out.own; rwa [List.length_append] at this)
          have HC := Bx.mk (own_cut (by have := R6.out.own; rwa [List.length_append] at this))
          have E2 := Bx.mk (show s.push n q r = ⟨s.most, s.strict, n, (s.ents ++ [Ent.mk n q r]).drop 1⟩ by unfold Win.push; rw [if_pos (by rw [List.length_append]; exact hful)])
          by_cases hc5 : c5 = 1
          · subst hc5
            have R7 := Bx.mk ((R6.out.cut (v1 := .slice (some ⟨g5, o5, none⟩) s.ents.length 0) (by simp) (by rw [List.length_append]; exact HC.out.1 rfl) rfl).setLast n)
            go_wp2
            refine NoPanic.normal ?_
            go_wp2
            go_ret
            rw [E.out, E2.out]
            obtain ⟨L', hL, hG⟩ := R7.out.at HW.out.mem (E2.out ▸ HOk.out)
            refine ⟨rfl, L', ?_, (F6.out.setCell (p := ⟨p, 3, none⟩) (.inl HW.out.mem) _).setCell (p := ⟨p, 2, none⟩) (.inl HW.out.mem) _, hG⟩
            exact hL
          · have R7 := Bx.mk ((R6.out.cut (v1 := .slice (some ⟨g5, o5 + 3, none⟩) s.ents.length (c5 - 1)) (by simp) (by rw [List.length_append]; exact HC.out.2 hc5) rfl).setLast n)
            go_wp2
            refine NoPanic.normal ?_
            go_wp2
            go_ret
            rw [E.out, E2.out]
            obtain ⟨L', hL, hG⟩ := R7.out.at HW.out.mem (E2.out ▸ HOk.out)
            refine ⟨rfl, L', ?_, (F6.out.setCell (p := ⟨p, 3, none⟩) (.inl HW.out.mem) _).setCell (p := ⟨p, 2, none⟩) (.inl HW.out.mem) _, hG⟩
            exact hL
        · have E2 := Bx.mk (show s.push n q r = ⟨s.most, s.strict, n, s.ents ++ [Ent.mk n q r]⟩ by unfold Win.push; rw [if_neg (by rw [List.length_append]; exact hful)])
          have R7 := Bx.mk (R6.out.setLast n)
          go_wp2
          refine NoPanic.normal ?_
          go_wp2
          go_ret
          rw [E.out, E2.out]
          obtain ⟨L', hL, hG⟩ := R7.out.at HW.out.mem (E2.out ▸ HOk.out)
          exact ⟨rfl, L', hL, F6.out.setCell (p := ⟨p, 2, none⟩) (.inl HW.out.mem) _, hG⟩
    · have E := Bx.mk (show s.keep n q r = ((s.look n q).2, s) by unfold Win.keep; dsimp only; rw [if_neg h0, if_pos h7])
      obtain ⟨m, hm⟩ : ∃ m, m = (s.look n q).2 := ⟨_, rfl⟩
      rw [← hm] at E h0 h7 ⊢
      clear hm
      have k0 : (m == 0) = false := by rw [beq_eq_false_iff_ne]; exact h0
      have k7 : (m == 7) = false := by rw [beq_eq_false_iff_ne]; exact h7
      go_wp2
      go_ret
      exact HSame _ m B1.out E.out
end Go.Proofs.Ytjjmhmbmjpedkaa
end
section
/- Is one that is too old stale? (windows), walked. -/
namespace Go.Proofs.Ytjjmhmbmjpedkaa
open Go.RowKit
/-- A window behind so many Keeps of the numbers from 0 on. -/
def rowWin (m : Int) (f : Nat → List UInt8) : Nat → Win
  | 0 => ⟨m, true, -1, []⟩
  | n + 1 => ((rowWin m f n).keep n [UInt8.ofNat n] (f n)).2
theorem win3_keep : ∀ i, i < 3 → (rowWin 2 (fun _ => [9]) i).keep i [UInt8.ofNat i] [9] = (0, rowWin 2 (fun _ => [9]) (i + 1))
  | 0, _ => by rfl
  | 1, _ => by rfl
  | 2, _ => by rfl
theorem win3_a : (rowWin 2 (fun _ => [9]) 3).look 0 [0] = ([], 13) := by rfl
theorem win3_b : (rowWin 2 (fun _ => [9]) 3).look 2 [0] = ([], 14) := by rfl
theorem win3_c : (rowWin 2 (fun _ => [9]) 3).look 2 [2] = ([9], 0) := by rfl
theorem win3_d : (rowWin 2 (fun _ => [9]) 3).ents.length = 2 := by rfl
theorem one_row {w : World} {g : Nat} (b : UInt8) (h : w.heap[g]? = some (.cells #[bV b] 5 (0, 0))) : RowAt w (some ⟨g, 0, none⟩) ([b].map bV) := RowAt.ofWhole (vs := [bV b]) h
set_option maxRecDepth 100000 in
set_option maxHeartbeats 8000000 in
theorem windows_any (w : World) : Calls Try.prog 14 #[] w fun e w' => e = .returned (.bool true) ∧ Below w.heap.size w w' := by
  go_enter Try.func14, Try.ntmps14
  go_wp2_with fail
  refine (wNew_any 2 true w (by decide) (by decide)).mono ?_
  rintro e w1 ⟨rfl, hw1, hb1⟩
  obtain ⟨p, hp⟩ : ∃ p, p = w.heap.size := ⟨_, rfl⟩
  rw [← hp] at hw1 ⊢
  have HP := Bx.mk hp; have H1 := Bx.mk hw1; have B1 := Bx.mk hb1
  clear hp hw1 hb1
  go_upto_block 0 with fail
  go_cut [] (fun wx => ∃ L, WinAt wx L p (rowWin 2 (fun _ => [9]) 3) ∧ Below w.heap.size w wx)
  case first =>
    go_wp2_with fail
    go_loopw [3,20,21,22,23,24,25,26,27,28,29,30,31] (fun t3 _ _ _ _ _ _ _ _ _ _ _ _ wr => ∃ (i : Nat) (L : List Nat), i ≤ 3 ∧ t3 = .int .i64 i ∧ WinAt wr L p (rowWin 2 (fun _ => [9]) i) ∧ Below w.heap.size w wr ∧ From w.heap.size L) (fun t3 _ _ _ _ _ _ _ _ _ _ _ _ _ => 3 - (intOf t3).toNat)
    case atStart => exact ⟨0, [p], by omega, rfl, H1.out, B1.out, fun k hk => by rw [List.mem_singleton] at hk; rw [hk, HP.out]; exact Nat.le_refl _⟩
    case round =>
      obtain ⟨i, L, hi, rfl, hw, hb, hf⟩ := hrel
      have HW := Bx.mk hw; have HB := Bx.mk hb; have HF := Bx.mk hf
      clear hw hb hf
      by_cases hlt : i < 3
      · have hby := bV_nat i (by omega)
        have f1 : IntKind.u8.wrap (i : Int) = (i : Int) := by rw [IntKind.wrap_u8]; omega
        have HK := Bx.mk (win3_keep i hlt)
        have G0 := HW.out.under
        have hs : (wr.alloc (.cells #[.int .u8 (i : Int)] 5)).heap.size = wr.heap.size + 1 := by simp
        have hrw : RowAt ((wr.alloc (.cells #[.int .u8 (i : Int)] 5)).alloc (.cells #[.int .u8 9] 5)) (some ⟨wr.heap.size, 0, none⟩) ([UInt8.ofNat i].map bV) := by
          rw [← hby]
          exact (one_row _ (al_new rfl)).alloc _
        have hrw2 : RowAt ((wr.alloc (.cells #[.int .u8 (i : Int)] 5)).alloc (.cells #[.int .u8 9] 5)) (some ⟨wr.heap.size + 1, 0, none⟩) ([9].map bV) := one_row 9 (al_new (by simp))
        have HR := Bx.mk hrw; have HR2 := Bx.mk hrw2
        have b2 : Below wr.heap.size wr ((wr.alloc (.cells #[.int .u8 (i : Int)] 5)).alloc (.cells #[.int .u8 9] 5)) := ((Below.refl _ _).alloc (Nat.le_refl _) _).alloc (by simp) _
        have HW2 := Bx.mk (HW.out.below b2); have B2 := Bx.mk b2
        clear hrw hrw2 b2 G0 hby hs
        go_wp2_with fail
        refine (wKeep_any p _ L i (some ⟨wr.heap.size, 0, none⟩) 1 [UInt8.ofNat i] (some ⟨wr.heap.size + 1, 0, none⟩) 1 [9] _ HW2.out HR.out HR2.out).mono ?_
        rw [HK.out]
        rintro r w2 ⟨rfl, L2, hw2, hf2, hg2⟩
        have HW3 := Bx.mk hw2
        have HB3 := Bx.mk (HB.out.trans ((B2.out.mono HB.out.size).trans (hf2.below HF.out (Nat.le_trans HB.out.size B2.out.size))))
        have HF3 := Bx.mk (hg2.from HF.out (Nat.le_trans HB.out.size B2.out.size))
        clear hw2 hf2 hg2
        go_wp2
        go_roundw
        case rel => exact ⟨i + 1, L2, by omega, by go_num, HW3.out, HB3.out, HF3.out⟩
        case measure => simp [intOf]; omega
      · obtain rfl : i = 3 := by omega
        go_wp2
        go_meet
        case rel => exact ⟨L, HW.out, HB.out⟩
  case rest =>
    obtain ⟨L, hw, hb⟩ := hcut
    have HW := Bx.mk hw; have HB := Bx.mk hb
    clear hw hb
    have step : ∀ (wx : World), WinAt wx L p (rowWin 2 (fun _ => [9]) 3) → ∀ (n : Int) (b : UInt8), Bx (Calls Try.prog 16 #[.pointer (some ⟨p, 0, none⟩), .int .i64 n, .slice (some ⟨wx.heap.size, 0, none⟩) 1 1] (wx.alloc (.cells #[bV b] 5)) fun e w' => ∃ v, e = .returned (.tuple #[v, .int .i64 ((rowWin 2 (fun _ => [9]) 3).look n [b]).2]) ∧ Own w' wx.heap.size 5 1 v ((rowWin 2 (fun _ => [9]) 3).look n [b]).1.length (((rowWin 2 (fun _ => [9]) 3).look n [b]).1.map bV) ∧ Below wx.heap.size wx w') := fun wx h n b => ⟨(wLook_any p _ L n (some ⟨wx.heap.size, 0, none⟩) 1 [b] _ (h.below (Below_one _)) (one_row b (al_new rfl))).mono fun e w' ⟨v, h1, h2, h3⟩ => ⟨v, h1, h2.base_le fun k hk => by have := (h2.lt k hk).1; simp at this; omega, (Below_one _).trans (h3.mono (by simp))⟩⟩
    go_wp2_with fail
    refine (step wc HW.out 0 0).out.mono ?_
    rw [win3_a]
    rintro r w2 ⟨v1, rfl, _, hb2⟩
    have HW2 := Bx.mk (HW.out.below hb2); have HB2 := Bx.mk (HB.out.trans (hb2.mono HB.out.size))
    clear hb2
    go_wp2_with fail
    refine (step w2 HW2.out 2 0).out.mono ?_
    rw [win3_b]
    rintro r w3 ⟨v2, rfl, _, hb3⟩
    have HW3 := Bx.mk (HW2.out.below hb3); have HB3 := Bx.mk (HB2.out.trans (hb3.mono HB2.out.size))
    clear hb3
    go_wp2_with fail
    refine (step w3 HW3.out 2 2).out.mono ?_
    rw [win3_c]
    rintro r w4 ⟨v3, rfl, ho4, hb4⟩
    have HW4 := Bx.mk (HW3.out.below hb4); have HB4 := Bx.mk (HB3.out.trans (hb4.mono HB3.out.size))
    obtain ⟨a4, c4, rfl⟩ := ho4.isSlice
    have k1 : (convert 30 9 (.slice a4 1 c4)).run Try.prog w4 = .ok (.string ⟨#[9]⟩) w4 := conv_str (P := Try.prog) 30 9 Try.underlying30 Try.underlying5 Try.underlying9 w4 a4 c4 [9] ho4.row
    clear hb4 ho4
    go_wp2_with fail
    refine (wLen_any p _ L w4 HW4.out).mono ?_
    rw [win3_d]
    rintro r w5 ⟨rfl, rfl⟩
    go_wp2
    go_ret
    exact ⟨rfl, HB4.out⟩
end Go.Proofs.Ytjjmhmbmjpedkaa
end
section
/- Windows that keep rising numbers: what they know. Plain law, no program in sight. -/
namespace Go.Proofs.Ytjjmhmbmjpedkaa
theorem find_ent {l : List Ent} {e : Ent} (he : e ∈ l) {z : Int} (hz : e.num = z) (hu : ∀ x ∈ l, x.num = z → x = e) : l.find? (fun e => decide (e.num = z)) = some e := by
  induction l with
  | nil => cases he
  | cons y r ih =>
    by_cases hy : y.num = z
    · rw [List.find?, decide_eq_true hy]
      dsimp only
      rw [hu y (by simp) hy]
    · rw [List.find?, decide_eq_false hy]
      refine ih ?_ fun x hx => hu x (List.mem_cons_of_mem _ hx)
      rcases List.mem_cons.1 he with rfl | h
      · exact absurd hz hy
      · exact h
theorem find_no {l : List Ent} {z : Int} (h : ∀ x ∈ l, x.num ≠ z) : l.find? (fun e => decide (e.num = z)) = none := by
  rw [List.find?_eq_none]
  intro x hx
  simp only [decide_eq_true_eq]
  exact h x hx
/-- The window behind the rising numbers of a list, the last 'm' of them. -/
def lastWin (m : Nat) (st : Bool) (la : Int) (es : List Ent) : Win := ⟨m, st, la, es.drop (es.length - m)⟩
theorem last_push {m : Nat} (hm : 1 ≤ m) (st : Bool) (la : Int) (es : List Ent) (z : Int) (q a : List UInt8) : (lastWin m st la es).push z q a = lastWin m st z (es ++ [Ent.mk z q a]) := by
  have hd : es.drop (es.length - m) ++ [Ent.mk z q a] = (es ++ [Ent.mk z q a]).drop (es.length - m) := by rw [List.drop_append_of_le_length (by omega)]
  unfold Win.push lastWin
  dsimp only
  congr 1
  rw [hd]
  simp only [List.length_drop, List.length_append, List.length_singleton]
  by_cases h : (m : Int) < ((es.length + 1 - (es.length - m) : Nat) : Int)
  · rw [if_pos h, List.drop_drop]
    congr 1
    omega
  · rw [if_neg h]
    congr 1
    omega
/-- A number above the last one is new. -/
theorem last_miss {m : Nat} {st : Bool} {la : Int} {es : List Ent} (hle : ∀ x ∈ es, x.num ≤ la) {z : Int} (hz0 : 0 ≤ z) (hz1 : z ≤ 4611686018427387904) (hz : la < z) (q : List UInt8) :
    (lastWin m st la es).look z q = ([], if st = true ∧ z ≠ la + 1 then 15 else 7) := by
  unfold Win.look lastWin
  rw [if_neg (by omega)]
  dsimp only
  rw [find_no (fun x hx => by have := hle x (List.mem_of_mem_drop hx); omega)]
  dsimp only
  rw [if_neg (by omega)]
  split <;> rfl
theorem last_keep {m : Nat} (hm : 1 ≤ m) {st : Bool} {la : Int} {es : List Ent} (hle : ∀ x ∈ es, x.num ≤ la) {z : Int} (hz0 : 0 ≤ z) (hz1 : z ≤ 4611686018427387904) (hz : la < z) (hst : st = true → z = la + 1) (q a : List UInt8) (hq : q.length ≤ 65536) (ha : a.length ≤ 65536) :
    (lastWin m st la es).keep z q a = (0, lastWin m st z (es ++ [Ent.mk z q a])) := by
  unfold Win.keep
  have h0 : ¬ (st = true ∧ z ≠ la + 1) := fun h => h.2 (hst h.1)
  rw [last_miss hle hz0 hz1 hz, if_neg h0]
  dsimp only
  rw [if_neg (by decide), if_neg (by decide), if_neg (by omega), last_push hm]
/-- What is known of a number that isn't above the last one. -/
theorem last_known {m : Nat} {st : Bool} {la : Int} {es : List Ent} {i : Nat} {e : Ent} (he : es[i]? = some e) (hi : es.length - m ≤ i) (hu : ∀ x ∈ es, x.num = e.num → x = e) (h0 : 0 ≤ e.num) (h1 : e.num ≤ 4611686018427387904) (q : List UInt8) :
    (lastWin m st la es).look e.num q = if e.req = q then (e.ans, 0) else ([], 14) := by
  unfold Win.look lastWin
  rw [if_neg (by omega)]
  dsimp only
  have hm : e ∈ es.drop (es.length - m) := by
    rw [List.mem_iff_getElem?]
    exact ⟨i - (es.length - m), by rw [List.getElem?_drop, ← he]; congr 1; omega⟩
  rw [find_ent hm rfl fun x hx => hu x (List.mem_of_mem_drop hx)]
theorem last_stale {m : Nat} {st : Bool} {la : Int} {es : List Ent} {z : Int} (hn : ∀ x ∈ es.drop (es.length - m), x.num ≠ z) (h0 : 0 ≤ z) (h1 : z ≤ 4611686018427387904) (hz : z ≤ la) (q : List UInt8) : (lastWin m st la es).look z q = ([], 13) := by
  unfold Win.look lastWin
  rw [if_neg (by omega)]
  dsimp only
  rw [find_no hn]
  dsimp only
  rw [if_pos hz]
/-- The numbers from 0 on, each with its byte for a request. -/
def upTo (f : Nat → List UInt8) (n : Nat) : List Ent := (List.range n).map fun (j : Nat) => Ent.mk (j : Int) [UInt8.ofNat j] (f j)
theorem upTo_len (f : Nat → List UInt8) (n : Nat) : (upTo f n).length = n := by simp [upTo]
theorem upTo_succ (f : Nat → List UInt8) (n : Nat) : upTo f (n + 1) = upTo f n ++ [Ent.mk n [UInt8.ofNat n] (f n)] := by simp [upTo, List.range_succ]
theorem upTo_get (f : Nat → List UInt8) {n j : Nat} (h : j < n) : (upTo f n)[j]? = some (Ent.mk j [UInt8.ofNat j] (f j)) := by simp [upTo, h]
theorem upTo_num (f : Nat → List UInt8) (n : Nat) : ∀ x ∈ upTo f n, ∃ j : Nat, j < n ∧ x = Ent.mk j [UInt8.ofNat j] (f j) := by
  intro x hx
  simp only [upTo, List.mem_map, List.mem_range] at hx
  obtain ⟨j, hj, rfl⟩ := hx
  exact ⟨j, hj, rfl⟩
/-- A strict window behind n Keeps. -/
def known (m : Nat) (f : Nat → List UInt8) (n : Nat) : Win := lastWin m true ((n : Int) - 1) (upTo f n)
theorem known_keep {m : Nat} (hm : 1 ≤ m) (f : Nat → List UInt8) (n : Nat) (hn : n ≤ 1000) (hf : (f n).length ≤ 65536) : (known m f n).keep n [UInt8.ofNat n] (f n) = (0, known m f (n + 1)) := by
  unfold known
  rw [last_keep hm (fun x hx => by obtain ⟨j, hj, rfl⟩ := upTo_num f n x hx; dsimp only; omega) (by omega) (by omega) (by omega) (fun _ => by omega) _ _ (by simp) hf, upTo_succ]
  congr 3
  omega
theorem known_look {m : Nat} (f : Nat → List UInt8) (n j : Nat) (hn : n ≤ 1000) (hj : j < n) : (known m f n).look j [UInt8.ofNat j] = if n - m ≤ j then (f j, 0) else ([], 13) := by
  unfold known
  by_cases h : n - m ≤ j
  · rw [if_pos h]
    have := last_known (m := m) (st := true) (la := (n : Int) - 1) (upTo_get f hj) (by rw [upTo_len]; exact h) (fun x hx hxe => by
      obtain ⟨k, hk, rfl⟩ := upTo_num f n x hx
      dsimp only at hxe
      obtain rfl : k = j := by omega
      rfl) (by dsimp only; omega) (by dsimp only; omega) [UInt8.ofNat j]
    dsimp only at this
    rw [this, if_pos rfl]
  · rw [if_neg h]
    refine last_stale (fun x hx => ?_) (by omega) (by omega) (by omega) _
    rw [List.mem_iff_getElem?] at hx
    obtain ⟨k, hk⟩ := hx
    rw [List.getElem?_drop, upTo_len] at hk
    by_cases hlt : n - m + k < n
    · rw [upTo_get f hlt] at hk
      injection hk with hk
      rw [← hk]
      dsimp only
      omega
    · rw [List.getElem?_eq_none (by rw [upTo_len]; omega)] at hk
      cases hk
theorem known_far {m : Nat} (f : Nat → List UInt8) (n : Nat) (z : Int) (q : List UInt8) (hz0 : (n : Int) ≤ z) (hz1 : z ≤ 4611686018427387904) : (known m f n).look z q = ([], if z = n then 7 else 15) := by
  unfold known
  rw [last_miss (fun x hx => by obtain ⟨j, hj, rfl⟩ := upTo_num f n x hx; dsimp only; omega) (by omega) hz1 (by omega)]
  congr 1
  by_cases h : z = n
  · rw [if_pos h, if_neg (by rintro ⟨_, h2⟩; omega)]
  · rw [if_neg h, if_pos ⟨rfl, by omega⟩]
end Go.Proofs.Ytjjmhmbmjpedkaa
end
section
/- The sum of 32 bits as plain numbers: bit steps, nibbles, bytes, texts; no program in sight. -/
namespace Go.Proofs.Ytjjmhmbmjpedkaa
def st (n : Nat) : Nat := if n % 2 = 1 then (n / 2) ^^^ 3988292384 else n / 2
def iter (f : Nat → Nat) : Nat → Nat → Nat
  | 0, n => n
  | k + 1, n => f (iter f k n)
def tbl : List Nat := [0, 498536548, 997073096, 651767980, 1994146192, 1802195444, 1303535960, 1342533948, 3988292384, 4027552580, 3604390888, 3412177804, 2607071920, 2262029012, 2685067896, 3183342108]
theorem tbl_ok : ∀ k, k < 16 → iter st 4 k = tbl.getD k 0 := by decide
theorem tbl_lt : ∀ k, tbl.getD k 0 < 4294967296 := by
  intro k
  by_cases h : k < 16
  · exact (by decide : ∀ k, k < 16 → tbl.getD k 0 < 4294967296) k h
  · rw [List.getD_eq_getElem?_getD, List.getElem?_eq_none (by show 16 ≤ k; omega)]; decide
def nib (n : Nat) : Nat := (n / 16) ^^^ (tbl.getD (n % 16) 0)
def cb (n x : Nat) : Nat := nib (nib (n ^^^ x))
def crcL (n : Nat) (bs : List UInt8) : Nat := bs.foldl (fun n x => cb n x.toNat) n
def cpl (n : Nat) : Nat := 4294967295 ^^^ n
/-- 'More'. -/
def more (n : Nat) (bs : List UInt8) : Nat := cpl (crcL (cpl n) bs)
/-- 'Sum' of parts, from a sum on. -/
def crcP (n : Nat) (ps : List (List UInt8)) : Nat := ps.foldl more n

theorem xlt {a b : Nat} (ha : a < 4294967296) (hb : b < 4294967296) : a ^^^ b < 4294967296 := Nat.xor_lt_two_pow (n := 32) ha hb
theorem st_lt {n : Nat} (h : n < 4294967296) : st n < 4294967296 := by
  unfold st
  split
  · exact xlt (by omega) (by omega)
  · omega
theorem iter_lt {n : Nat} (k : Nat) (h : n < 4294967296) : iter st k n < 4294967296 := by
  induction k with
  | zero => exact h
  | succ k ih => exact st_lt ih
theorem nib_lt {n : Nat} (h : n < 4294967296) : nib n < 4294967296 := xlt (by omega) (tbl_lt _)
theorem cb_lt {n : Nat} (x : UInt8) (h : n < 4294967296) : cb n x.toNat < 4294967296 := nib_lt (nib_lt (xlt h (by have := x.toNat_lt; omega)))
theorem crcL_lt (bs : List UInt8) : ∀ {n : Nat}, n < 4294967296 → crcL n bs < 4294967296 := by
  induction bs with
  | nil => intro n h; exact h
  | cons x bs ih => intro n h; exact ih (cb_lt x h)
theorem xself (a b : Nat) : a ^^^ (a ^^^ b) = b := by rw [← Nat.xor_assoc, Nat.xor_self, Nat.zero_xor]
theorem cpl_def (n : Nat) : cpl n = 4294967295 ^^^ n := rfl
theorem cpl_lt {n : Nat} (h : n < 4294967296) : cpl n < 4294967296 := by
  unfold cpl
  exact xlt (by decide) h
theorem more_lt {n : Nat} (bs : List UInt8) (h : n < 4294967296) : more n bs < 4294967296 := cpl_lt (crcL_lt _ (cpl_lt h))
theorem cpl_cpl (n : Nat) : cpl (cpl n) = n := by rw [cpl_def, cpl_def, xself]
theorem crcP_lt (ps : List (List UInt8)) : ∀ {n : Nat}, n < 4294967296 → crcP n ps < 4294967296 := by
  induction ps with
  | nil => intro n h; exact h
  | cons x bs ih => intro n h; exact ih (more_lt _ h)
theorem crcL_append (n : Nat) (a b : List UInt8) : crcL n (a ++ b) = crcL (crcL n a) b := List.foldl_append
theorem more_append {n : Nat} (a b : List UInt8) : more n (a ++ b) = more (more n a) b := by
  unfold more
  rw [crcL_append, cpl_cpl]
theorem more_nil (n : Nat) : more n [] = n := cpl_cpl n
/-- Parts, one behind the other, are all at once. -/
theorem crcP_join (ps : List (List UInt8)) : ∀ n : Nat, crcP n ps = more n ps.flatten := by
  induction ps with
  | nil => intro n; exact (more_nil n).symm
  | cons x bs ih =>
    intro n
    show crcP (more n x) bs = more n (x ++ bs.flatten)
    rw [ih, more_append]

/-! A bit step is linear; four of them are a nibble. -/
theorem xlc (a b c : Nat) : a ^^^ (b ^^^ c) = b ^^^ (a ^^^ c) := by rw [← Nat.xor_assoc, Nat.xor_comm a b, Nat.xor_assoc]
theorem div_xor (a b : Nat) : (a ^^^ b) / 2 = a / 2 ^^^ b / 2 := by
  apply Nat.eq_of_testBit_eq; intro i; simp [Nat.testBit_div_two]
theorem st_xor (a b : Nat) : st (a ^^^ b) = st a ^^^ st b := by
  have h : (a ^^^ b) % 2 = (a % 2 + b % 2) % 2 := by
    have h1 := @Nat.xor_mod_two_eq_one a b
    rcases Nat.mod_two_eq_zero_or_one a with x | x <;> rcases Nat.mod_two_eq_zero_or_one b with y | y <;> rcases Nat.mod_two_eq_zero_or_one (a ^^^ b) with z | z <;> simp [x, y, z] at h1 ⊢
  unfold st
  rw [h, div_xor]
  rcases Nat.mod_two_eq_zero_or_one a with x | x <;> rcases Nat.mod_two_eq_zero_or_one b with y | y <;> simp [x, y]
  · rw [Nat.xor_assoc]
  · rw [Nat.xor_comm (a / 2 ^^^ 3988292384), xlc, Nat.xor_comm (b / 2), Nat.xor_assoc, Nat.xor_comm 3988292384]
  · rw [Nat.xor_assoc, Nat.xor_comm (b / 2), xself]
theorem iter_xor (k a b : Nat) : iter st k (a ^^^ b) = iter st k a ^^^ iter st k b := by
  induction k with
  | zero => rfl
  | succ k ih => show st (iter st k (a ^^^ b)) = _; rw [ih, st_xor]; rfl
theorem iter_add (j k a : Nat) : iter st (j + k) a = iter st j (iter st k a) := by
  induction j with
  | zero => rw [Nat.zero_add]; rfl
  | succ j ih => rw [Nat.succ_add]; show st (iter st (j + k) a) = st (iter st j (iter st k a)); rw [ih]
theorem st_even (a : Nat) : st (2 * a) = a := by unfold st; rw [if_neg (by omega)]; omega
theorem nib_iter (n : Nat) : nib n = iter st 4 n := by
  have e : n = (16 * (n / 16)) ^^^ (n % 16) := by
    apply Nat.eq_of_testBit_eq; intro i
    rw [Nat.testBit_xor, show 16 = 2 ^ 4 from rfl, Nat.testBit_two_pow_mul, Nat.testBit_mod_two_pow, Nat.testBit_div_two_pow]
    by_cases h : 4 ≤ i
    · simp [h, show ¬ i < 4 by omega, show i - 4 + 4 = i by omega]
    · simp [h, show i < 4 by omega]
  have h2 : iter st 4 (16 * (n / 16)) = n / 16 := by
    show st (st (st (st (16 * (n / 16))))) = _
    rw [show 16 * (n / 16) = 2 * (2 * (2 * (2 * (n / 16)))) by omega, st_even, st_even, st_even, st_even]
  conv => rhs; rw [e]
  rw [iter_xor, h2, tbl_ok _ (Nat.mod_lt _ (by omega))]; rfl
theorem cb_iter (n x : Nat) : cb n x = iter st 8 (n ^^^ x) := by
  unfold cb; rw [nib_iter, nib_iter, ← iter_add]

/-! The division of bits: each bit of the byte as it comes. -/
def rst (n x k : Nat) : Nat := if (n % 2 + x / 2 ^ k % 2) % 2 = 1 then (n / 2) ^^^ 3988292384 else n / 2
def rsteps (x : Nat) : Nat → Nat → Nat
  | 0, n => n
  | k + 1, n => rst (rsteps x k n) x k
theorem rst_lt {n : Nat} (x k : Nat) (h : n < 4294967296) : rst n x k < 4294967296 := by
  unfold rst
  split
  · exact xlt (by omega) (by omega)
  · omega
theorem rsteps_lt {n : Nat} (x k : Nat) (h : n < 4294967296) : rsteps x k n < 4294967296 := by
  induction k with
  | zero => exact h
  | succ k ih => exact rst_lt _ _ ih
theorem rsteps_iter (x n k : Nat) : iter st k (n ^^^ x) = rsteps x k n ^^^ (x / 2 ^ k) := by
  induction k with
  | zero => show n ^^^ x = n ^^^ x / 1; rw [Nat.div_one]
  | succ k ih =>
    show st (iter st k (n ^^^ x)) = rst (rsteps x k n) x k ^^^ (x / 2 ^ (k + 1))
    rw [ih, st_xor]
    generalize rsteps x k n = m
    have e : x / 2 ^ (k + 1) = x / 2 ^ k / 2 := by rw [Nat.pow_succ, Nat.div_div_eq_div_mul]
    rw [e]
    unfold rst
    generalize x / 2 ^ k = y
    unfold st
    rcases Nat.mod_two_eq_zero_or_one m with a | a <;> rcases Nat.mod_two_eq_zero_or_one y with b | b <;> simp [a, b]
    · rw [Nat.xor_assoc, Nat.xor_comm (y / 2)]
    · rw [Nat.xor_assoc, Nat.xor_comm (y / 2), xself]
theorem cb_rsteps (n : Nat) (x : UInt8) : cb n x.toNat = rsteps x.toNat 8 n := by
  rw [cb_iter, rsteps_iter, Nat.div_eq_of_lt (by have := x.toNat_lt; omega), Nat.xor_zero]

/-! Two texts whose difference lies within four bytes have unlike sums. -/
theorem st_zero {e : Nat} (h : e < 4294967296) (h0 : st e = 0) : e = 0 := by
  unfold st at h0
  split at h0
  · have h1 : e / 2 = 3988292384 := by
      have h2 := xself 3988292384 (e / 2)
      rw [Nat.xor_comm 3988292384 (e / 2), h0, Nat.xor_zero] at h2
      exact h2.symm
    omega
  · omega
theorem iter_zero (k : Nat) : ∀ {e : Nat}, e < 4294967296 → iter st k e = 0 → e = 0 := by
  induction k with
  | zero => intro e _ h; exact h
  | succ k ih => intro e he h; exact ih he (st_zero (iter_lt k he) h)
theorem cb_xor (n e x d : Nat) : cb (n ^^^ e) (x ^^^ d) = cb n x ^^^ iter st 8 (e ^^^ d) := by
  rw [cb_iter, cb_iter, ← iter_xor]
  congr 1
  rw [Nat.xor_assoc, Nat.xor_assoc, xlc e x d]
theorem crcL_xor (post : List UInt8) : ∀ (n e : Nat), crcL (n ^^^ e) post = crcL n post ^^^ iter st (8 * post.length) e := by
  induction post with
  | nil => intro n e; rfl
  | cons x r ih =>
    intro n e
    show crcL (cb (n ^^^ e) x.toNat) r = crcL (cb n x.toNat) r ^^^ iter st (8 * (r.length + 1)) e
    have h := cb_xor n e x.toNat 0
    rw [Nat.xor_zero, Nat.xor_zero] at h
    rw [h, ih, Nat.mul_add, iter_add]
theorem st_shift (k : Nat) : ∀ e, iter st k (2 ^ k * e) = e := by
  induction k with
  | zero => intro e; show 1 * e = e; rw [Nat.one_mul]
  | succ k ih =>
    intro e
    rw [iter_add k 1, show iter st 1 (2 ^ (k + 1) * e) = 2 ^ k * e from ?_]
    · exact ih e
    · show st (2 ^ (k + 1) * e) = _
      rw [Nat.pow_succ, Nat.mul_comm (2 ^ k) 2, Nat.mul_assoc, st_even]
theorem xeq {a b : Nat} (h : a ^^^ b = 0) : a = b := by rw [← xself a b, h, Nat.xor_zero]
theorem iter8_eq {u v : Nat} (hu : u < 4294967296) (hv : v < 16777216) (h : iter st 8 u = v) : u = 256 * v := by
  have h2 := st_shift 8 v
  have h3 : iter st 8 (u ^^^ 2 ^ 8 * v) = 0 := by rw [iter_xor, h, h2, Nat.xor_self]
  exact xeq (iter_zero 8 (xlt hu (by omega)) h3)
theorem xor_out {a b c : Nat} (h : a ^^^ b = c) : a = b ^^^ c := by rw [← h, Nat.xor_comm a b, xself]
theorem four_zero {d0 d1 d2 d3 : Nat} (h0 : d0 < 256) (h1 : d1 < 256) (h2 : d2 < 256) (h3 : d3 < 256)
    (h : iter st 8 (iter st 8 (iter st 8 (iter st 8 d0 ^^^ d1) ^^^ d2) ^^^ d3) = 0) : d0 = 0 ∧ d1 = 0 ∧ d2 = 0 ∧ d3 = 0 := by
  have l0 : iter st 8 d0 < 4294967296 := iter_lt 8 (by omega)
  have l1 : iter st 8 (iter st 8 d0 ^^^ d1) < 4294967296 := iter_lt 8 (xlt l0 (by omega))
  have l2 : iter st 8 (iter st 8 (iter st 8 d0 ^^^ d1) ^^^ d2) < 4294967296 := iter_lt 8 (xlt l1 (by omega))
  have a3 := iter_zero 8 (xlt l2 (show d3 < 4294967296 by omega)) h
  have a2 := xor_out (iter8_eq (xlt l1 (show d2 < 4294967296 by omega)) (show d3 < 16777216 by omega) (xeq a3))
  have m2 : d2 ^^^ 256 * d3 < 16777216 := Nat.xor_lt_two_pow (n := 24) (by omega) (by omega)
  have a1 := xor_out (iter8_eq (xlt l0 (show d1 < 4294967296 by omega)) m2 a2)
  have m2' : d2 ^^^ 256 * d3 < 65536 := Nat.xor_lt_two_pow (n := 16) (by omega) (by omega)
  generalize hz : d2 ^^^ 256 * d3 = z at *
  have m1 : d1 ^^^ 256 * z < 16777216 := Nat.xor_lt_two_pow (n := 24) (by omega) (by omega)
  have a0 := iter8_eq (show d0 < 4294967296 by omega) m1 a1
  generalize hy : d1 ^^^ 256 * z = y at *
  have y0 : y = 0 := by omega
  subst y0
  have := xeq hy
  have z0 : z = 0 := by omega
  subst z0
  have := xeq hz
  omega
theorem crc_differs (pre post : List UInt8) (x0 x1 x2 x3 y0 y1 y2 y3 : UInt8) (d0 d1 d2 d3 : Nat) (h0 : d0 < 256) (h1 : d1 < 256) (h2 : d2 < 256) (h3 : d3 < 256)
    (e0 : y0.toNat = x0.toNat ^^^ d0) (e1 : y1.toNat = x1.toNat ^^^ d1) (e2 : y2.toNat = x2.toNat ^^^ d2) (e3 : y3.toNat = x3.toNat ^^^ d3) (hd : ¬ (d0 = 0 ∧ d1 = 0 ∧ d2 = 0 ∧ d3 = 0)) :
    more 0 (pre ++ [x0, x1, x2, x3] ++ post) ≠ more 0 (pre ++ [y0, y1, y2, y3] ++ post) := by
  intro h
  unfold more at h
  have h' : crcL (cpl 0) (pre ++ [x0, x1, x2, x3] ++ post) = crcL (cpl 0) (pre ++ [y0, y1, y2, y3] ++ post) := by rw [← cpl_cpl (crcL (cpl 0) (pre ++ [x0, x1, x2, x3] ++ post)), h, cpl_cpl]
  rw [crcL_append, crcL_append, crcL_append, crcL_append] at h'
  generalize crcL (cpl 0) pre = s at h'
  have c0 : cb s y0.toNat = cb s x0.toNat ^^^ iter st 8 d0 := by have := cb_xor s 0 x0.toNat d0; rwa [Nat.xor_zero, Nat.zero_xor, ← e0] at this
  have c1 := cb_xor (cb s x0.toNat) (iter st 8 d0) x1.toNat d1
  have c2 := cb_xor (cb (cb s x0.toNat) x1.toNat) (iter st 8 (iter st 8 d0 ^^^ d1)) x2.toNat d2
  have c3 := cb_xor (cb (cb (cb s x0.toNat) x1.toNat) x2.toNat) (iter st 8 (iter st 8 (iter st 8 d0 ^^^ d1) ^^^ d2)) x3.toNat d3
  rw [← c0, ← e1] at c1
  rw [← c1, ← e2] at c2
  rw [← c2, ← e3] at c3
  rw [show crcL s [y0, y1, y2, y3] = cb (cb (cb (cb s y0.toNat) y1.toNat) y2.toNat) y3.toNat from rfl, c3, crcL_xor] at h'
  rw [show crcL s [x0, x1, x2, x3] = cb (cb (cb (cb s x0.toNat) x1.toNat) x2.toNat) x3.toNat from rfl] at h'
  generalize hE : iter st 8 (iter st 8 (iter st 8 (iter st 8 d0 ^^^ d1) ^^^ d2) ^^^ d3) = E at *
  have hz : iter st (8 * post.length) E = 0 := by
    generalize crcL (cb (cb (cb (cb s x0.toNat) x1.toNat) x2.toNat) x3.toNat) post = c at h'
    have h6 := xself c (iter st (8 * post.length) E)
    rw [← h', Nat.xor_self] at h6
    exact h6.symm
  have l3 : E < 4294967296 := by
    rw [← hE]
    exact iter_lt 8 (xlt (iter_lt 8 (xlt (iter_lt 8 (xlt (iter_lt 8 (by omega)) (by omega))) (by omega))) (by omega))
  have := iter_zero _ l3 hz
  exact hd (four_zero h0 h1 h2 h3 (hE.trans this))
end Go.Proofs.Ytjjmhmbmjpedkaa
end
section
/- The table of nibbles, as the program makes it. -/
namespace Go.Proofs.Ytjjmhmbmjpedkaa
open Go.RowKit
def V32 (n : Nat) : Value := .int .u32 n
def tabCells (k : Nat) : Array Value := ((tbl.take k ++ List.replicate (16 - k) 0).map V32).toArray
theorem tabCells_zero : tabCells 0 = #[Value.int IntKind.u32 0, Value.int IntKind.u32 0, Value.int IntKind.u32 0, Value.int IntKind.u32 0,
            Value.int IntKind.u32 0, Value.int IntKind.u32 0, Value.int IntKind.u32 0, Value.int IntKind.u32 0,
            Value.int IntKind.u32 0, Value.int IntKind.u32 0, Value.int IntKind.u32 0, Value.int IntKind.u32 0,
            Value.int IntKind.u32 0, Value.int IntKind.u32 0, Value.int IntKind.u32 0, Value.int IntKind.u32 0] := by rfl
theorem tabCells_16 : tabCells 16 = #[Value.int IntKind.u32 0, Value.int IntKind.u32 498536548, Value.int IntKind.u32 997073096, Value.int IntKind.u32 651767980, Value.int IntKind.u32 1994146192, Value.int IntKind.u32 1802195444, Value.int IntKind.u32 1303535960, Value.int IntKind.u32 1342533948, Value.int IntKind.u32 3988292384, Value.int IntKind.u32 4027552580, Value.int IntKind.u32 3604390888, Value.int IntKind.u32 3412177804, Value.int IntKind.u32 2607071920, Value.int IntKind.u32 2262029012, Value.int IntKind.u32 2685067896, Value.int IntKind.u32 3183342108] := by rfl
theorem tabCells_at (k : Nat) (h : k < 16) : (tabCells k)[k]? = some (.int .u32 0) := by
  have e : (tbl.take k ++ List.replicate (16 - k) 0)[k]? = some 0 := (by decide : ∀ k, k < 16 → (tbl.take k ++ List.replicate (16 - k) 0)[k]? = some 0) k h
  unfold tabCells
  rw [List.getElem?_toArray, List.getElem?_map, e]; rfl
theorem tabCells_step (k : Nat) (h : k < 16) : (tabCells k).setIfInBounds k (V32 (iter st 4 k)) = tabCells (k + 1) := by
  have e : (tbl.take k ++ List.replicate (16 - k) 0).set k (iter st 4 k) = tbl.take (k + 1) ++ List.replicate (16 - (k + 1)) 0 := (by decide : ∀ k, k < 16 → (tbl.take k ++ List.replicate (16 - k) 0).set k (iter st 4 k) = tbl.take (k + 1) ++ List.replicate (16 - (k + 1)) 0) k h
  unfold tabCells
  rw [← e, List.map_set]; simp
set_option maxHeartbeats 400000 in
theorem table_any (w : World) :
    Calls Try.prog 91 #[] w fun e w' => e = .returned (.agg (tabCells 16)) ∧ Below w.heap.size w w' := by
  go_enter Try.func91, Try.ntmps91
  go_wp2
  go_loopw [2,3,4,5,6,7,8] (fun t2 t3 t4 t5 t6 t7 t8 wr => ∃ k : Nat, k ≤ 16 ∧ t4 = .int .i64 k ∧ wr = (w.alloc (Obj.cells (tabCells 0) 136)).alloc (Obj.cells (tabCells k) 136)) (fun t2 t3 t4 t5 t6 t7 t8 wr => 16 - (intOf t4).toNat)
  case atStart => 
    exact ⟨0, by omega, rfl, by simp only [tabCells_zero]⟩
  case round =>
    obtain ⟨k, hk, rfl, rfl⟩ := hrel
    by_cases hlt : k < 16
    · have hcell := tabCells_at k hlt
      go_wp2
      go_loop [3,9,10,11,12,13,14,15,16,17,18,19] (fun t3 t9 t10 t11 t12 t13 t14 t15 t16 t17 t18 t19 => ∃ j : Nat, j ≤ 4 ∧ t9 = .int .i64 j ∧ t3 = V32 (iter st j k)) (fun t3 t9 t10 t11 t12 t13 t14 t15 t16 t17 t18 t19 => 4 - (intOf t9).toNat)
      case atStart => exact ⟨0, by omega, rfl, rfl⟩
      case round => 
        obtain ⟨j, hj, rfl, rfl⟩ := hrel
        have h0 : iter st j k < 4294967296 := iter_lt j (by omega)
        have h1 : iter st (j + 1) k = st (iter st j k) := rfl
        have H1 := hid h1; clear h1
        generalize hn : iter st j k = n at *
        have Hn := hid hn; clear hn
        unfold V32
        by_cases hltj : j < 4
        · have hb : bits BinOp.and IntKind.u32 (n : Int) 1 = ((n % 2 : Nat) : Int) := by rw [show (1 : Int) = ((1 : Nat) : Int) from rfl, u32_and_nat _ _ h0 (by omega), nat_mask1]
          have hx : bits BinOp.xor IntKind.u32 (n / 2) 3988292384 = ((n / 2 ^^^ 3988292384 : Nat) : Int) := by rw [show (3988292384 : Int) = ((3988292384 : Nat) : Int) from rfl, show (n : Int) / 2 = ((n / 2 : Nat) : Int) from rfl, u32_xor_nat _ _ (by omega) (by omega)]
          have HB := hid hb; clear hb
          have HX := hid hx; clear hx
          go_wp2
          · go_round
            case rel => 
              refine ⟨j + 1, by omega, by go_num, ?_⟩
              have hb1 : (bits BinOp.and IntKind.u32 (n : Int) 1 == 1) = true := by assumption
              rw [HB.out] at hb1
              rw [H1.out, HX.out]; unfold st; rw [if_pos (by simp at hb1; omega)]
            case measure => simp [intOf]; omega
          · go_round
            case rel => 
              refine ⟨j + 1, by omega, by go_num, ?_⟩
              have hb1 : (bits BinOp.and IntKind.u32 (n : Int) 1 == 1) = false := by assumption
              rw [HB.out] at hb1
              rw [H1.out]; unfold st; rw [if_neg (by simp at hb1; omega)]; rfl
            case measure => simp [intOf]; omega
        · go_wp2
          have hstep := tabCells_step k hlt
          rw [show (4 : Nat) = j by omega, Hn.out] at hstep
          go_roundw
          case rel => 
              refine ⟨k + 1, by omega, by go_num, ?_⟩
              rw [← hstep]; rfl
          case measure => simp [intOf]; omega
    · obtain rfl : k = 16 := by omega
      have hw1 := heap_alloc2_new w (Obj.cells (tabCells 0) 136) (Obj.cells (tabCells 16) 136)
      have hw0 := heap_alloc2_old w (Obj.cells (tabCells 0) 136) (Obj.cells (tabCells 16) 136)
      have hb : Below w.heap.size w ((w.alloc (Obj.cells (tabCells 0) 136)).alloc (Obj.cells (tabCells 16) 136)) := ((Below.refl _ _).alloc (Nat.le_refl _) _).alloc (by simp) _
      generalize (w.alloc (Obj.cells (tabCells 0) 136)).alloc (Obj.cells (tabCells 16) 136) = W at *
      have H1 := hid hw1
      have H0 := hid hw0
      clear hw1 hw0
      go_wp2_with (first | (refine wpList_load_row rfl 136 (.tmp 1) rfl (w.heap.size + 1) rfl 136 (tabCells 16) (0, 0) _ H1.out Try.underlying136 rfl (by kernel_rfl) ?_) | (refine wpList_store_row rfl 136 (.tmp 0) (.tmp 24) rfl w.heap.size (tabCells 16) rfl rfl 136 (tabCells 0) H0.out (by kernel_rfl) rfl (by kernel_rfl) ?_))
      refine bodyPost_ret (results_cell_row rfl _ _ w.heap.size 136 (tabCells 16) (0, 0) _ rfl (setRow_heap _ _ _ _ _ _ H0.out) Try.underlying136 rfl (by kernel_rfl)) rfl ⟨rfl, ?_⟩
      exact hb.trans ⟨rfl, rfl, rfl, by simp, fun k hk => by simp [World.setRow, Array.getElem?_modify]; omega⟩
end Go.Proofs.Ytjjmhmbmjpedkaa
end
