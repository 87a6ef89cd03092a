/- Conditions of functions, printed by a program of this claim's own (vcgen.py) out of the loaded code; each is proved to be enough. -/
import Derived.Test.YtjjmhmbmjpedkaaProg
import Derived.Test.YtjjmhmbmjpedkaaVcAnn
set_option maxRecDepth 100000
namespace Go.Proofs.Ytjjmhmbmjpedkaa
open Go.RowKit
namespace GWinLaw
def env : Env := ⟨[(3, ⟨.int .i64, 1, .int .i64 0, 8, [.int .i64]⟩), (5, ⟨.int .u8, 1, .int .u8 0, 1, [.int .u8]⟩), (9, ⟨.str, 1, .string ByteArray.empty, 16, [.str]⟩), (22, ⟨.slice 30, 1, .slice none 0 0, 24, [.slice]⟩), (23, ⟨.int .u64, 1, .int .u64 0, 8, [.int .u64]⟩), (30, ⟨.slice 5, 1, .slice none 0 0, 24, [.slice]⟩), (34, ⟨.slice 3, 1, .slice none 0 0, 24, [.slice]⟩)], [(13, [.lf (.ptr), .lf (.int .i64)]), (14, [.lf (.bool)]), (15, [.lf (.int .i64)]), (16, [.lf (.slice), .lf (.int .i64)]), (17, [.lf (.int .i64)])]⟩
theorem ty3 : TyOk Try.prog 3 ⟨.int .i64, 1, .int .i64 0, 8, [.int .i64]⟩ := tyok (by kernel_rfl) (by kernel_rfl)
theorem ty5 : TyOk Try.prog 5 ⟨.int .u8, 1, .int .u8 0, 1, [.int .u8]⟩ := tyok (by kernel_rfl) (by kernel_rfl)
theorem ty9 : TyOk Try.prog 9 ⟨.str, 1, .string ByteArray.empty, 16, [.str]⟩ := tyok (by kernel_rfl) (by kernel_rfl)
theorem ty22 : TyOk Try.prog 22 ⟨.slice 30, 1, .slice none 0 0, 24, [.slice]⟩ := tyok (by kernel_rfl) (by kernel_rfl)
theorem ty23 : TyOk Try.prog 23 ⟨.int .u64, 1, .int .u64 0, 8, [.int .u64]⟩ := tyok (by kernel_rfl) (by kernel_rfl)
theorem ty30 : TyOk Try.prog 30 ⟨.slice 5, 1, .slice none 0 0, 24, [.slice]⟩ := tyok (by kernel_rfl) (by kernel_rfl)
theorem ty34 : TyOk Try.prog 34 ⟨.slice 3, 1, .slice none 0 0, 24, [.slice]⟩ := tyok (by kernel_rfl) (by kernel_rfl)
theorem fn13 : FnOk Try.prog 13 := fnok Try.func13 (by kernel_rfl) (by kernel_rfl)
theorem fn14 : FnOk Try.prog 14 := fnok Try.func14 (by kernel_rfl) (by kernel_rfl)
theorem fn15 : FnOk Try.prog 15 := fnok Try.func15 (by kernel_rfl) (by kernel_rfl)
theorem fn16 : FnOk Try.prog 16 := fnok Try.func16 (by kernel_rfl) (by kernel_rfl)
theorem fn17 : FnOk Try.prog 17 := fnok Try.func17 (by kernel_rfl) (by kernel_rfl)
theorem envOk : EOk Try.prog env := ⟨(by simp only [env, List.forall_mem_cons, List.not_mem_nil, false_implies, implies_true, and_true]; exact ⟨ty3, ty5, ty9, ty22, ty23, ty30, ty34⟩), (by simp only [env, List.forall_mem_cons, List.not_mem_nil, false_implies, implies_true, and_true]; exact ⟨fn13, fn14, fn15, fn16, fn17⟩), by kernel_rfl⟩
/-- purser/purserlaw18.WindowKnown -/
def lKnown_vc (x0 : Int) (a1 : Option Addr) (n1 : Nat) (c1 : Nat) (x2 : Int) (w : World) (K : Value → World → Prop) : Prop :=
  (8 : Int) ≠ 0 ∧
  Calls Try.prog 13 #[.int .i64 (IntKind.i64.wrap (1 + (IntKind.i64.wrap (Int.tmod (IntKind.u64.wrap x0) 8)))), .bool true] w fun e w_2 => KeepG [] w w_2 ∧
  ∃ (p25_0 : Option Addr) (x25_1 : Int),
  e = .returned (.tuple #[.pointer p25_0, .int .i64 x25_1]) ∧
  Calls Try.prog 14 #[] w_2 fun e_2 w_3 => KeepG [] w_2 w_3 ∧
  ∃ (b28 : Bool),
  e_2 = .returned (.bool b28) ∧
  br (!b28) (
    K (.bool false) w_3
  ) (
    br (decide (x25_1 ≠ 0)) (
      K (.bool false) w_3
    ) (
      ∃ (I : Int → World → Prop) (μ : Int → World → Nat),
      I 0 w_3 ∧
      ∀ (x10 : Int) (w_4 : World), I x10 w_4 →
      br (decide (x10 < (min ((n1 : Nat) : Int) 20))) (
        drewO w_4 fun w_5 =>
        withP a1 fun g49 o49 =>
        (0 : Int) ≤ x10 ∧ x10 < (((n1 : Nat) : Int) : Int) ∧
        ∃ (a50 : Option Addr) (n50 : Nat) (c50 : Nat), w_5.cell? ⟨g49, o49 + x10.toNat * 1, none⟩ = some (.slice a50 n50 c50) ∧
        withP a1 fun g53 o53 =>
        (0 : Int) ≤ x10 ∧ x10 < (((n1 : Nat) : Int) : Int) ∧
        ∃ (a54 : Option Addr) (n54 : Nat) (c54 : Nat), w_5.cell? ⟨g53, o53 + x10.toNat * 1, none⟩ = some (.slice a54 n54 c54) ∧
        (0 : Int) ≤ min ((n54 : Nat) : Int) 50 ∧ min ((n54 : Nat) : Int) 50 ≤ (((c50 : Nat) : Int) : Int) ∧
        newO w_5 (.cells #[.int .u8 (IntKind.u8.wrap x10)] 5) fun g w_6 =>
        w_6.cell? ⟨g49, o49 + x10.toNat * 1, none⟩ = some (.slice a50 n50 c50) ∧
        w_6.cell? ⟨g53, o53 + x10.toNat * 1, none⟩ = some (.slice a54 n54 c54) ∧
        Calls Try.prog 15 #[.pointer p25_0, .int .i64 x10, .slice (some ⟨g, 0, none⟩) 1 1, .slice a50 ((min ((n54 : Nat) : Int) 50).toNat) c50] w_6 fun e_3 w_7 => KeepG [] w_6 w_7 ∧
        ∃ (x58 : Int),
        e_3 = .returned (.int .i64 x58) ∧
        br (decide (x58 ≠ 0)) (
          K (.bool false) w_7
        ) (
          I (IntKind.i64.wrap (x10 + 1)) w_7 ∧ μ (IntKind.i64.wrap (x10 + 1)) w_7 < μ x10 w_4
        )
      ) (
        ∃ (I_2 : Int → World → Prop) (μ_2 : Int → World → Nat),
        I_2 0 w_4 ∧
        ∀ (x11 : Int) (w_8 : World), I_2 x11 w_8 →
        br (decide (x11 < (min ((n1 : Nat) : Int) 20))) (
          newO w_8 (.cells #[.int .u8 (IntKind.u8.wrap x11)] 5) fun g_2 w_9 =>
          Calls Try.prog 16 #[.pointer p25_0, .int .i64 x11, .slice (some ⟨g_2, 0, none⟩) 1 1] w_9 fun e_4 w_10 => KeepG [] w_9 w_10 ∧
          ∃ (a71_0 : Option Addr) (n71_0 : Nat) (c71_0 : Nat) (x71_1 : Int),
          e_4 = .returned (.tuple #[.slice a71_0 n71_0 c71_0, .int .i64 x71_1]) ∧
          drewO w_10 fun w_11 =>
          br (decide (x11 ≥ (IntKind.i64.wrap ((min ((n1 : Nat) : Int) 20) - (IntKind.i64.wrap (1 + (IntKind.i64.wrap (Int.tmod (IntKind.u64.wrap x0) 8)))))))) (
            br (decide (x71_1 ≠ 0)) (
              K (.bool false) w_11
            ) (
              ∃ bs84 : List UInt8, bs84.length = n71_0 ∧ RowAt w_11 a71_0 (bs84.map bV) ∧
              withP a1 fun g87 o87 =>
              (0 : Int) ≤ x11 ∧ x11 < (((n1 : Nat) : Int) : Int) ∧
              ∃ (a88 : Option Addr) (n88 : Nat) (c88 : Nat), w_11.cell? ⟨g87, o87 + x11.toNat * 1, none⟩ = some (.slice a88 n88 c88) ∧
              withP a1 fun g91 o91 =>
              (0 : Int) ≤ x11 ∧ x11 < (((n1 : Nat) : Int) : Int) ∧
              ∃ (a92 : Option Addr) (n92 : Nat) (c92 : Nat), w_11.cell? ⟨g91, o91 + x11.toNat * 1, none⟩ = some (.slice a92 n92 c92) ∧
              (0 : Int) ≤ min ((n92 : Nat) : Int) 50 ∧ min ((n92 : Nat) : Int) 50 ≤ (((c88 : Nat) : Int) : Int) ∧
              ∃ bs96 : List UInt8, bs96.length = (min ((n92 : Nat) : Int) 50).toNat ∧ RowAt w_11 a88 (bs96.map bV) ∧
              br (decide ((strOf bs84) ≠ (strOf bs96))) (
                K (.bool false) w_11
              ) (
                br (decide (x11 < (IntKind.i64.wrap ((min ((n1 : Nat) : Int) 20) - (IntKind.i64.wrap (1 + (IntKind.i64.wrap (Int.tmod (IntKind.u64.wrap x0) 8)))))))) (
                  br (decide (x71_1 ≠ 13)) (
                    K (.bool false) w_11
                  ) (
                    I_2 (IntKind.i64.wrap (x11 + 1)) w_11 ∧ μ_2 (IntKind.i64.wrap (x11 + 1)) w_11 < μ_2 x11 w_8
                  )
                ) (
                  I_2 (IntKind.i64.wrap (x11 + 1)) w_11 ∧ μ_2 (IntKind.i64.wrap (x11 + 1)) w_11 < μ_2 x11 w_8
                )
              )
            )
          ) (
            br (decide (x11 < (IntKind.i64.wrap ((min ((n1 : Nat) : Int) 20) - (IntKind.i64.wrap (1 + (IntKind.i64.wrap (Int.tmod (IntKind.u64.wrap x0) 8)))))))) (
              br (decide (x71_1 ≠ 13)) (
                K (.bool false) w_11
              ) (
                I_2 (IntKind.i64.wrap (x11 + 1)) w_11 ∧ μ_2 (IntKind.i64.wrap (x11 + 1)) w_11 < μ_2 x11 w_8
              )
            ) (
              I_2 (IntKind.i64.wrap (x11 + 1)) w_11 ∧ μ_2 (IntKind.i64.wrap (x11 + 1)) w_11 < μ_2 x11 w_8
            )
          )
        ) (
          Calls Try.prog 16 #[.pointer p25_0, .int .i64 (min ((n1 : Nat) : Int) 20), .slice none 0 0] w_8 fun e_5 w_12 => KeepG [] w_8 w_12 ∧
          ∃ (a114_0 : Option Addr) (n114_0 : Nat) (c114_0 : Nat) (x114_1 : Int),
          e_5 = .returned (.tuple #[.slice a114_0 n114_0 c114_0, .int .i64 x114_1]) ∧
          Calls Try.prog 16 #[.pointer p25_0, .int .i64 x2, .slice none 0 0] w_12 fun e_6 w_13 => KeepG [] w_12 w_13 ∧
          ∃ (a120_0 : Option Addr) (n120_0 : Nat) (c120_0 : Nat) (x120_1 : Int),
          e_6 = .returned (.tuple #[.slice a120_0 n120_0 c120_0, .int .i64 x120_1]) ∧
          br (decide (x114_1 = 7)) (
            br (decide (x2 ≤ (min ((n1 : Nat) : Int) 20))) (
              K (.bool true) w_13
            ) (
              br (decide (x2 > 4611686018427387904)) (
                K (.bool true) w_13
              ) (
                K (.bool (decide (x120_1 = 15))) w_13
              )
            )
          ) (
            K (.bool false) w_13
          )
        )
      )
    )
  )
def lKnown_notes : Notes := ⟨[(9, ⟨[0, 0, 0, 4, 12, 0, 0, 96, 224, 0, 0, 1536, 3584, 7680, 15872, 32736, 65535, 131071], [4, 16], [0, 1, 2, 3, 5, 6, 7, 8, 9, 10, 11, 12, 13, 14, 15, 17]⟩), (15, ⟨[0, 0, 0, 6, 15, 31, 63, 127, 255, 511, 1023, 511, 511, 6655, 14847, 511, 511, 98815, 229887, 492031, 1016319, 2095615, 4192767, 8388607, 16777215, 33554431, 67108863, 134217727, 134217727, 134217727, 939524095, 2147483647, 4294967295, 8589934591, 17179869183, 34359738367, 68719476735], [], [0, 1, 2, 3, 4, 5, 6, 7, 8, 9, 10, 11, 12, 13, 14, 15, 16, 17, 18, 19, 20, 21, 22, 23, 24, 25, 26, 27, 28, 29, 30, 31, 32, 33, 34, 35, 36]⟩)], [(7, ⟨[(10, .lf (.int .i64))], [], [37, 38, 39, 42, 43, 44, 45, 46, 47, 48, 49, 50, 51, 52, 53, 54, 55, 56, 57, 58, 59, 6, 40, 41, 10], []⟩), (12, ⟨[(11, .lf (.int .i64))], [], [60, 61, 62, 66, 67, 68, 69, 70, 71, 65, 72, 73, 12, 13, 74, 75, 76, 77, 78, 79, 80, 81, 82, 83, 84, 85, 86, 87, 88, 89, 90, 91, 92, 93, 94, 95, 96, 97, 98, 99, 100, 101, 102, 103, 104, 105, 106, 107, 108, 109, 110, 6, 63, 64, 11], []⟩)], []⟩
theorem lKnown_calls (x0 : Int) (a1 : Option Addr) (n1 : Nat) (c1 : Nat) (x2 : Int) (w : World) (K : Value → World → Prop) (h : lKnown_vc x0 a1 n1 c1 x2 w K) : Calls Try.prog 3 #[.int .i64 x0, .slice a1 n1 c1, .int .i64 x2] w fun e w' => ∃ v, e = .returned v ∧ K v w' :=
  calls_of_fvc envOk Try.func3 lKnown_notes [] [.int .i64 x0, .slice a1 n1 c1, .int .i64 x2] w K (use_vc h (by as_aux_lemma => kernel_rfl))
/-- purser/purserlaw18.WindowSparse -/
def lSparse_vc (x0 : Int) (a1 : Option Addr) (n1 : Nat) (c1 : Nat) (x2 : Int) (w : World) (K : Value → World → Prop) : Prop :=
  (6 : Int) ≠ 0 ∧
  Calls Try.prog 13 #[.int .i64 (IntKind.i64.wrap (1 + (IntKind.i64.wrap (Int.tmod (IntKind.u64.wrap x0) 6)))), .bool false] w fun e w_2 => KeepG [] w w_2 ∧
  ∃ (p25_0 : Option Addr) (x25_1 : Int),
  e = .returned (.tuple #[.pointer p25_0, .int .i64 x25_1]) ∧
  Calls Try.prog 14 #[] w_2 fun e_2 w_3 => KeepG [] w_2 w_3 ∧
  ∃ (b28 : Bool),
  e_2 = .returned (.bool b28) ∧
  br (!b28) (
    K (.bool false) w_3
  ) (
    br (decide (x25_1 ≠ 0)) (
      K (.bool false) w_3
    ) (
      ∃ (I : Option Addr → Nat → Nat → Int → Int → World → Prop) (μ : Option Addr → Nat → Nat → Int → Int → World → Nat),
      I none 0 0 (-1) 0 w_3 ∧
      ∀ (a9 : Option Addr) (n9 : Nat) (c9 : Nat) (x10 : Int) (x11 : Int) (w_4 : World), I a9 n9 c9 x10 x11 w_4 →
      br (decide (x11 < ((n1 : Nat) : Int))) (
        br (decide (x11 < 20)) (
          withP a1 fun g48 o48 =>
          (0 : Int) ≤ x11 ∧ x11 < (((n1 : Nat) : Int) : Int) ∧
          ∃ (x49 : Int), w_4.cell? ⟨g48, o48 + x11.toNat * 1, none⟩ = some (.int .i64 x49) ∧
          (5 : Int) ≠ 0 ∧
          newO w_4 (.cells #[.int .u8 1] 5) fun g w_5 =>
          newO w_5 (.cells #[.int .u8 (IntKind.u8.wrap x11)] 5) fun g_2 w_6 =>
          Calls Try.prog 15 #[.pointer p25_0, .int .i64 (IntKind.i64.wrap ((IntKind.i64.wrap (x10 + 1)) + (IntKind.i64.wrap (Int.tmod (IntKind.u64.wrap x49) 5)))), .slice (some ⟨g, 0, none⟩) 1 1, .slice (some ⟨g_2, 0, none⟩) 1 1] w_6 fun e_3 w_7 => KeepG [] w_6 w_7 ∧
          ∃ (x60 : Int),
          e_3 = .returned (.int .i64 x60) ∧
          br (decide (x60 ≠ 0)) (
            K (.bool false) w_7
          ) (
            newO w_7 (.cells #[.int .i64 (IntKind.i64.wrap ((IntKind.i64.wrap (x10 + 1)) + (IntKind.i64.wrap (Int.tmod (IntKind.u64.wrap x49) 5))))] 3) fun g_3 w_8 =>
            appO Try.prog [] w_8 3 1 8 34 a9 n9 c9 (.slice (some ⟨g_3, 0, none⟩) 1 1) fun m65 a65 c65 w_9 =>
            I a65 (n9 + m65) c65 (IntKind.i64.wrap ((IntKind.i64.wrap (x10 + 1)) + (IntKind.i64.wrap (Int.tmod (IntKind.u64.wrap x49) 5)))) (IntKind.i64.wrap (x11 + 1)) w_9 ∧ μ a65 (n9 + m65) c65 (IntKind.i64.wrap ((IntKind.i64.wrap (x10 + 1)) + (IntKind.i64.wrap (Int.tmod (IntKind.u64.wrap x49) 5)))) (IntKind.i64.wrap (x11 + 1)) w_9 < μ a9 n9 c9 x10 x11 w_4
          )
        ) (
          (120 : Int) ≠ 0 ∧
          ∃ (J : Int → World → Prop), (
            br (decide ((IntKind.i64.wrap (Int.tmod (IntKind.u64.wrap x2) 120)) ≤ x10)) (
              J 13 w_4
            ) (
              J 7 w_4
            )
          ) ∧
          ∀ (x12 : Int) (w_10 : World), J x12 w_10 →
          ∃ (I_2 : Int → Int → World → Prop) (μ_2 : Int → Int → World → Nat),
          I_2 x12 (max (IntKind.i64.wrap (((n9 : Nat) : Int) - (IntKind.i64.wrap (1 + (IntKind.i64.wrap (Int.tmod (IntKind.u64.wrap x0) 6)))))) 0) w_10 ∧
          ∀ (x12_2 : Int) (x13 : Int) (w_11 : World), I_2 x12_2 x13 w_11 →
          br (decide (x13 < ((n9 : Nat) : Int))) (
            withP a9 fun g86 o86 =>
            (0 : Int) ≤ x13 ∧ x13 < (((n9 : Nat) : Int) : Int) ∧
            ∃ (x87 : Int), w_11.cell? ⟨g86, o86 + x13.toNat * 1, none⟩ = some (.int .i64 x87) ∧
            br (decide (x87 = (IntKind.i64.wrap (Int.tmod (IntKind.u64.wrap x2) 120)))) (
              I_2 0 (IntKind.i64.wrap (x13 + 1)) w_11 ∧ μ_2 0 (IntKind.i64.wrap (x13 + 1)) w_11 < μ_2 x12_2 x13 w_11
            ) (
              I_2 x12_2 (IntKind.i64.wrap (x13 + 1)) w_11 ∧ μ_2 x12_2 (IntKind.i64.wrap (x13 + 1)) w_11 < μ_2 x12_2 x13 w_11
            )
          ) (
            newO w_11 (.cells #[.int .u8 1] 5) fun g_4 w_12 =>
            Calls Try.prog 16 #[.pointer p25_0, .int .i64 (IntKind.i64.wrap (Int.tmod (IntKind.u64.wrap x2) 120)), .slice (some ⟨g_4, 0, none⟩) 1 1] w_12 fun e_4 w_13 => KeepG [] w_12 w_13 ∧
            ∃ (a94_0 : Option Addr) (n94_0 : Nat) (c94_0 : Nat) (x94_1 : Int),
            e_4 = .returned (.tuple #[.slice a94_0 n94_0 c94_0, .int .i64 x94_1]) ∧
            newO w_13 (.cells #[.int .u8 2] 5) fun g_5 w_14 =>
            Calls Try.prog 16 #[.pointer p25_0, .int .i64 (IntKind.i64.wrap (Int.tmod (IntKind.u64.wrap x2) 120)), .slice (some ⟨g_5, 0, none⟩) 1 1] w_14 fun e_5 w_15 => KeepG [] w_14 w_15 ∧
            ∃ (a101_0 : Option Addr) (n101_0 : Nat) (c101_0 : Nat) (x101_1 : Int),
            e_5 = .returned (.tuple #[.slice a101_0 n101_0 c101_0, .int .i64 x101_1]) ∧
            br (decide (x94_1 = x12_2)) (
              br (decide (x12_2 ≠ 0)) (
                br (decide (x101_1 = x12_2)) (
                  Calls Try.prog 17 #[.pointer p25_0] w_15 fun e_6 w_16 => KeepG [] w_15 w_16 ∧
                  ∃ (x126 : Int),
                  e_6 = .returned (.int .i64 x126) ∧
                  K (.bool (decide (x126 = x10))) w_16
                ) (
                  br (decide (x12_2 = 0)) (
                    br (decide (x101_1 = 14)) (
                      Calls Try.prog 17 #[.pointer p25_0] w_15 fun e_7 w_17 => KeepG [] w_15 w_17 ∧
                      ∃ (x126_2 : Int),
                      e_7 = .returned (.int .i64 x126_2) ∧
                      K (.bool (decide (x126_2 = x10))) w_17
                    ) (
                      K (.bool false) w_15
                    )
                  ) (
                    K (.bool false) w_15
                  )
                )
              ) (
                br (decide (x12_2 = 0)) (
                  br (decide (x101_1 = 14)) (
                    Calls Try.prog 17 #[.pointer p25_0] w_15 fun e_8 w_18 => KeepG [] w_15 w_18 ∧
                    ∃ (x126_3 : Int),
                    e_8 = .returned (.int .i64 x126_3) ∧
                    K (.bool (decide (x126_3 = x10))) w_18
                  ) (
                    K (.bool false) w_15
                  )
                ) (
                  K (.bool false) w_15
                )
              )
            ) (
              K (.bool false) w_15
            )
          )
        )
      ) (
        (120 : Int) ≠ 0 ∧
        ∃ (J_2 : Int → World → Prop), (
          br (decide ((IntKind.i64.wrap (Int.tmod (IntKind.u64.wrap x2) 120)) ≤ x10)) (
            J_2 13 w_4
          ) (
            J_2 7 w_4
          )
        ) ∧
        ∀ (x12_3 : Int) (w_19 : World), J_2 x12_3 w_19 →
        ∃ (I_3 : Int → Int → World → Prop) (μ_3 : Int → Int → World → Nat),
        I_3 x12_3 (max (IntKind.i64.wrap (((n9 : Nat) : Int) - (IntKind.i64.wrap (1 + (IntKind.i64.wrap (Int.tmod (IntKind.u64.wrap x0) 6)))))) 0) w_19 ∧
        ∀ (x12_4 : Int) (x13_2 : Int) (w_20 : World), I_3 x12_4 x13_2 w_20 →
        br (decide (x13_2 < ((n9 : Nat) : Int))) (
          withP a9 fun g86_2 o86_2 =>
          (0 : Int) ≤ x13_2 ∧ x13_2 < (((n9 : Nat) : Int) : Int) ∧
          ∃ (x87_2 : Int), w_20.cell? ⟨g86_2, o86_2 + x13_2.toNat * 1, none⟩ = some (.int .i64 x87_2) ∧
          br (decide (x87_2 = (IntKind.i64.wrap (Int.tmod (IntKind.u64.wrap x2) 120)))) (
            I_3 0 (IntKind.i64.wrap (x13_2 + 1)) w_20 ∧ μ_3 0 (IntKind.i64.wrap (x13_2 + 1)) w_20 < μ_3 x12_4 x13_2 w_20
          ) (
            I_3 x12_4 (IntKind.i64.wrap (x13_2 + 1)) w_20 ∧ μ_3 x12_4 (IntKind.i64.wrap (x13_2 + 1)) w_20 < μ_3 x12_4 x13_2 w_20
          )
        ) (
          newO w_20 (.cells #[.int .u8 1] 5) fun g_6 w_21 =>
          Calls Try.prog 16 #[.pointer p25_0, .int .i64 (IntKind.i64.wrap (Int.tmod (IntKind.u64.wrap x2) 120)), .slice (some ⟨g_6, 0, none⟩) 1 1] w_21 fun e_9 w_22 => KeepG [] w_21 w_22 ∧
          ∃ (a94_0_2 : Option Addr) (n94_0_2 : Nat) (c94_0_2 : Nat) (x94_1_2 : Int),
          e_9 = .returned (.tuple #[.slice a94_0_2 n94_0_2 c94_0_2, .int .i64 x94_1_2]) ∧
          newO w_22 (.cells #[.int .u8 2] 5) fun g_7 w_23 =>
          Calls Try.prog 16 #[.pointer p25_0, .int .i64 (IntKind.i64.wrap (Int.tmod (IntKind.u64.wrap x2) 120)), .slice (some ⟨g_7, 0, none⟩) 1 1] w_23 fun e_10 w_24 => KeepG [] w_23 w_24 ∧
          ∃ (a101_0_2 : Option Addr) (n101_0_2 : Nat) (c101_0_2 : Nat) (x101_1_2 : Int),
          e_10 = .returned (.tuple #[.slice a101_0_2 n101_0_2 c101_0_2, .int .i64 x101_1_2]) ∧
          br (decide (x94_1_2 = x12_4)) (
            br (decide (x12_4 ≠ 0)) (
              br (decide (x101_1_2 = x12_4)) (
                Calls Try.prog 17 #[.pointer p25_0] w_24 fun e_11 w_25 => KeepG [] w_24 w_25 ∧
                ∃ (x126_4 : Int),
                e_11 = .returned (.int .i64 x126_4) ∧
                K (.bool (decide (x126_4 = x10))) w_25
              ) (
                br (decide (x12_4 = 0)) (
                  br (decide (x101_1_2 = 14)) (
                    Calls Try.prog 17 #[.pointer p25_0] w_24 fun e_12 w_26 => KeepG [] w_24 w_26 ∧
                    ∃ (x126_5 : Int),
                    e_12 = .returned (.int .i64 x126_5) ∧
                    K (.bool (decide (x126_5 = x10))) w_26
                  ) (
                    K (.bool false) w_24
                  )
                ) (
                  K (.bool false) w_24
                )
              )
            ) (
              br (decide (x12_4 = 0)) (
                br (decide (x101_1_2 = 14)) (
                  Calls Try.prog 17 #[.pointer p25_0] w_24 fun e_13 w_27 => KeepG [] w_24 w_27 ∧
                  ∃ (x126_6 : Int),
                  e_13 = .returned (.int .i64 x126_6) ∧
                  K (.bool (decide (x126_6 = x10))) w_27
                ) (
                  K (.bool false) w_24
                )
              ) (
                K (.bool false) w_24
              )
            )
          ) (
            K (.bool false) w_24
          )
        )
      )
    )
  )
def lSparse_notes : Notes := ⟨[], [(8, ⟨[(9, .lf (.slice)), (10, .lf (.int .i64)), (11, .lf (.int .i64))], [], [34, 35, 36, 37, 38, 39, 40, 41, 44, 45, 46, 47, 48, 49, 50, 51, 52, 53, 10, 54, 55, 56, 57, 58, 59, 60, 61, 6, 62, 63, 64, 65, 9, 42, 43, 11], []⟩), (19, ⟨[(12, .lf (.int .i64)), (13, .lf (.int .i64))], [], [78, 79, 80, 81, 84, 85, 86, 87, 88, 89, 12, 82, 83, 13], []⟩)], [((1, 17), ⟨[(12, .lf (.int .i64))], [], [12], []⟩)]⟩
theorem lSparse_calls (x0 : Int) (a1 : Option Addr) (n1 : Nat) (c1 : Nat) (x2 : Int) (w : World) (K : Value → World → Prop) (h : lSparse_vc x0 a1 n1 c1 x2 w K) : Calls Try.prog 4 #[.int .i64 x0, .slice a1 n1 c1, .int .i64 x2] w fun e w' => ∃ v, e = .returned v ∧ K v w' :=
  calls_of_fvc envOk Try.func4 lSparse_notes [] [.int .i64 x0, .slice a1 n1 c1, .int .i64 x2] w K (use_vc h (by as_aux_lemma => kernel_rfl))
end GWinLaw
end Go.Proofs.Ytjjmhmbmjpedkaa
