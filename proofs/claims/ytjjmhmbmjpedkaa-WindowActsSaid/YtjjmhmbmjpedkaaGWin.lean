/- Conditions of functions, printed by a program of this claim's own (vcgen.py) out of the loaded code; each is proved to be enough. -/
import Derived.Test.YtjjmhmbmjpedkaaProg
import Derived.Test.YtjjmhmbmjpedkaaVcAnn
set_option maxRecDepth 100000
namespace Go.Proofs.Ytjjmhmbmjpedkaa
open Go.RowKit
namespace GWin
def env : Env := ⟨[(3, ⟨.int .i64, 1, .int .i64 0, 8, [.int .i64]⟩), (4, ⟨.bool, 1, .bool false, 1, [.bool]⟩), (24, ⟨.ptr, 1, .pointer none, 8, [.ptr]⟩), (30, ⟨.slice 5, 1, .slice none 0 0, 24, [.slice]⟩), (91, ⟨.slice 96, 1, .slice none 0 0, 24, [.slice]⟩), (93, ⟨.struct [(0, 3), (1, 4), (2, 3), (3, 91)], 4, .agg #[.int .i64 0, .bool false, .int .i64 0, .slice none 0 0], 48, [.int .i64, .bool, .int .i64, .slice]⟩), (96, ⟨.struct [(0, 3), (1, 30), (2, 30)], 3, .agg #[.int .i64 0, .slice none 0 0, .slice none 0 0], 56, [.int .i64, .slice, .slice]⟩)], [(16, [.lf (.slice), .lf (.int .i64)]), (49, [.lf (.slice)]), (50, [.lf (.int .i64)]), (52, [.lf (.bool)])]⟩
theorem ty3 : TyOk Try.prog 3 ⟨.int .i64, 1, .int .i64 0, 8, [.int .i64]⟩ := tyok (by kernel_rfl) (by kernel_rfl)
theorem ty4 : TyOk Try.prog 4 ⟨.bool, 1, .bool false, 1, [.bool]⟩ := tyok (by kernel_rfl) (by kernel_rfl)
theorem ty24 : TyOk Try.prog 24 ⟨.ptr, 1, .pointer none, 8, [.ptr]⟩ := tyok (by kernel_rfl) (by kernel_rfl)
theorem ty30 : TyOk Try.prog 30 ⟨.slice 5, 1, .slice none 0 0, 24, [.slice]⟩ := tyok (by kernel_rfl) (by kernel_rfl)
theorem ty91 : TyOk Try.prog 91 ⟨.slice 96, 1, .slice none 0 0, 24, [.slice]⟩ := tyok (by kernel_rfl) (by kernel_rfl)
theorem ty93 : TyOk Try.prog 93 ⟨.struct [(0, 3), (1, 4), (2, 3), (3, 91)], 4, .agg #[.int .i64 0, .bool false, .int .i64 0, .slice none 0 0], 48, [.int .i64, .bool, .int .i64, .slice]⟩ := tyok (by kernel_rfl) (by kernel_rfl)
theorem ty96 : TyOk Try.prog 96 ⟨.struct [(0, 3), (1, 30), (2, 30)], 3, .agg #[.int .i64 0, .slice none 0 0, .slice none 0 0], 56, [.int .i64, .slice, .slice]⟩ := tyok (by kernel_rfl) (by kernel_rfl)
theorem fn16 : FnOk Try.prog 16 := fnok Try.func16 (by kernel_rfl) (by kernel_rfl)
theorem fn49 : FnOk Try.prog 49 := fnok Try.func49 (by kernel_rfl) (by kernel_rfl)
theorem fn50 : FnOk Try.prog 50 := fnok Try.func50 (by kernel_rfl) (by kernel_rfl)
theorem fn52 : FnOk Try.prog 52 := fnok Try.func52 (by kernel_rfl) (by kernel_rfl)
theorem envOk : EOk Try.prog env := ⟨(by simp only [env, List.forall_mem_cons, List.not_mem_nil, false_implies, implies_true, and_true]; exact ⟨ty3, ty4, ty24, ty30, ty91, ty93, ty96⟩), (by simp only [env, List.forall_mem_cons, List.not_mem_nil, false_implies, implies_true, and_true]; exact ⟨fn16, fn49, fn50, fn52⟩), by kernel_rfl⟩
/-- purser/window.New -/
def wNew_vc (x0 : Int) (b1 : Bool) (w : World) (K : Value → World → Prop) : Prop :=
  br (decide (x0 < 1)) (
    K (.tuple #[.pointer none, .int .i64 1]) w
  ) (
    br (decide (x0 > 64)) (
      K (.tuple #[.pointer none, .int .i64 1]) w
    ) (
      newO w (.cells #[.int .i64 x0, .bool b1, .int .i64 (-1), .slice none 0 0] 93) fun g w_2 =>
      K (.tuple #[.pointer (some ⟨g, 0, none⟩), .int .i64 0]) w_2
    )
  )
def wNew_notes : Notes := ⟨[], [], []⟩
theorem wNew_calls (x0 : Int) (b1 : Bool) (w : World) (K : Value → World → Prop) (h : wNew_vc x0 b1 w K) : Calls Try.prog 13 #[.int .i64 x0, .bool b1] w fun e w' => ∃ v, e = .returned v ∧ K v w' :=
  calls_of_fvc envOk Try.func13 wNew_notes [] [.int .i64 x0, .bool b1] w K (use_vc h (by as_aux_lemma => kernel_rfl))
/-- (*purser/window.Window).Look -/
def wLook_vc (p0 : Option Addr) (x1 : Int) (a2 : Option Addr) (n2 : Nat) (c2 : Nat) (w : World) (K : Value → World → Prop) : Prop :=
  newO w (.cells #[.int .i64 x1] 3) fun g w_2 =>
  br (Option.isNone p0) (
    K (.tuple #[.slice none 0 0, .int .i64 1]) w_2
  ) (
    ∃ (x12 : Int), w_2.cell? ⟨g, 0, none⟩ = some (.int .i64 x12) ∧
    br (decide (x12 < 0)) (
      K (.tuple #[.slice none 0 0, .int .i64 1]) w_2
    ) (
      ∃ (x16 : Int), w_2.cell? ⟨g, 0, none⟩ = some (.int .i64 x16) ∧
      br (decide (x16 > 4611686018427387904)) (
        K (.tuple #[.slice none 0 0, .int .i64 1]) w_2
      ) (
        withP p0 fun g20 o20 =>
        ∃ (a22 : Option Addr) (n22 : Nat) (c22 : Nat), w_2.cell? ⟨g20, o20 + 3, none⟩ = some (.slice a22 n22 c22) ∧
        Calls Try.prog 50 #[.slice a22 n22 c22, .func (.func 51) #[] #[.pointer (some ⟨g, 0, none⟩)]] w_2 fun e w_3 => KeepG [] w_2 w_3 ∧
        ∃ (x24 : Int),
        e = .returned (.int .i64 x24) ∧
        br (decide (x24 ≥ 0)) (
          withP p0 fun g30 o30 =>
          ∃ (a32 : Option Addr) (n32 : Nat) (c32 : Nat), w_3.cell? ⟨g30, o30 + 3, none⟩ = some (.slice a32 n32 c32) ∧
          withP a32 fun g34 o34 =>
          (0 : Int) ≤ x24 ∧ x24 < (((n32 : Nat) : Int) : Int) ∧
          ∃ (a36 : Option Addr) (n36 : Nat) (c36 : Nat), w_3.cell? ⟨g34, o34 + x24.toNat * 3 + 1, none⟩ = some (.slice a36 n36 c36) ∧
          Calls Try.prog 52 #[.slice a36 n36 c36, .slice a2 n2 c2] w_3 fun e_2 w_4 => KeepG [] w_3 w_4 ∧
          ∃ (b38 : Bool),
          e_2 = .returned (.bool b38) ∧
          br b38 (
            withP p0 fun g41 o41 =>
            ∃ (a43 : Option Addr) (n43 : Nat) (c43 : Nat), w_4.cell? ⟨g41, o41 + 3, none⟩ = some (.slice a43 n43 c43) ∧
            withP a43 fun g45 o45 =>
            (0 : Int) ≤ x24 ∧ x24 < (((n43 : Nat) : Int) : Int) ∧
            ∃ (a47 : Option Addr) (n47 : Nat) (c47 : Nat), w_4.cell? ⟨g45, o45 + x24.toNat * 3 + 2, none⟩ = some (.slice a47 n47 c47) ∧
            Calls Try.prog 49 #[.slice a47 n47 c47] w_4 fun e_3 w_5 => KeepG [] w_4 w_5 ∧
            ∃ (a48 : Option Addr) (n48 : Nat) (c48 : Nat),
            e_3 = .returned (.slice a48 n48 c48) ∧
            K (.tuple #[.slice a48 n48 c48, .int .i64 0]) w_5
          ) (
            br (decide (x24 ≥ 0)) (
              K (.tuple #[.slice none 0 0, .int .i64 14]) w_4
            ) (
              drewO w_4 fun w_6 =>
              ∃ (x53 : Int), w_6.cell? ⟨g, 0, none⟩ = some (.int .i64 x53) ∧
              withP p0 fun g55 o55 =>
              ∃ (x57 : Int), w_6.cell? ⟨g55, o55 + 2, none⟩ = some (.int .i64 x57) ∧
              br (decide (x53 ≤ x57)) (
                K (.tuple #[.slice none 0 0, .int .i64 13]) w_6
              ) (
                drewO w_6 fun w_7 =>
                withP p0 fun g61 o61 =>
                ∃ (b63 : Bool), w_7.cell? ⟨g61, o61 + 1, none⟩ = some (.bool b63) ∧
                br b63 (
                  ∃ (x65 : Int), w_7.cell? ⟨g, 0, none⟩ = some (.int .i64 x65) ∧
                  withP p0 fun g67 o67 =>
                  ∃ (x69 : Int), w_7.cell? ⟨g67, o67 + 2, none⟩ = some (.int .i64 x69) ∧
                  br (decide (x65 ≠ (IntKind.i64.wrap (x69 + 1)))) (
                    K (.tuple #[.slice none 0 0, .int .i64 15]) w_7
                  ) (
                    K (.tuple #[.slice none 0 0, .int .i64 7]) w_7
                  )
                ) (
                  K (.tuple #[.slice none 0 0, .int .i64 7]) w_7
                )
              )
            )
          )
        ) (
          br (decide (x24 ≥ 0)) (
            K (.tuple #[.slice none 0 0, .int .i64 14]) w_3
          ) (
            drewO w_3 fun w_8 =>
            ∃ (x53_2 : Int), w_8.cell? ⟨g, 0, none⟩ = some (.int .i64 x53_2) ∧
            withP p0 fun g55_2 o55_2 =>
            ∃ (x57_2 : Int), w_8.cell? ⟨g55_2, o55_2 + 2, none⟩ = some (.int .i64 x57_2) ∧
            br (decide (x53_2 ≤ x57_2)) (
              K (.tuple #[.slice none 0 0, .int .i64 13]) w_8
            ) (
              drewO w_8 fun w_9 =>
              withP p0 fun g61_2 o61_2 =>
              ∃ (b63_2 : Bool), w_9.cell? ⟨g61_2, o61_2 + 1, none⟩ = some (.bool b63_2) ∧
              br b63_2 (
                ∃ (x65_2 : Int), w_9.cell? ⟨g, 0, none⟩ = some (.int .i64 x65_2) ∧
                withP p0 fun g67_2 o67_2 =>
                ∃ (x69_2 : Int), w_9.cell? ⟨g67_2, o67_2 + 2, none⟩ = some (.int .i64 x69_2) ∧
                br (decide (x65_2 ≠ (IntKind.i64.wrap (x69_2 + 1)))) (
                  K (.tuple #[.slice none 0 0, .int .i64 15]) w_9
                ) (
                  K (.tuple #[.slice none 0 0, .int .i64 7]) w_9
                )
              ) (
                K (.tuple #[.slice none 0 0, .int .i64 7]) w_9
              )
            )
          )
        )
      )
    )
  )
def wLook_notes : Notes := ⟨[(8, ⟨[0, 0, 2, 6, 14, 31, 63], [], [0, 1, 2, 3, 4, 5, 6]⟩), (10, ⟨[0, 1, 3, 7, 15, 31, 31, 95, 223, 479, 991, 2047, 4095, 8191], [], [0, 1, 2, 3, 4, 5, 6, 7, 8, 9, 10, 11, 12, 13]⟩)], [], []⟩
theorem wLook_calls (p0 : Option Addr) (x1 : Int) (a2 : Option Addr) (n2 : Nat) (c2 : Nat) (w : World) (K : Value → World → Prop) (h : wLook_vc p0 x1 a2 n2 c2 w K) : Calls Try.prog 16 #[.pointer p0, .int .i64 x1, .slice a2 n2 c2] w fun e w' => ∃ v, e = .returned v ∧ K v w' :=
  calls_of_fvc envOk Try.func16 wLook_notes [] [.pointer p0, .int .i64 x1, .slice a2 n2 c2] w K (use_vc h (by as_aux_lemma => kernel_rfl))
/-- (*purser/window.Window).Keep -/
def wKeep_vc (p0 : Option Addr) (x1 : Int) (a2 : Option Addr) (n2 : Nat) (c2 : Nat) (a3 : Option Addr) (n3 : Nat) (c3 : Nat) (w : World) (K : Value → World → Prop) : Prop :=
  Calls Try.prog 16 #[.pointer p0, .int .i64 x1, .slice a2 n2 c2] w fun e w_2 => KeepG [] w w_2 ∧
  ∃ (a15_0 : Option Addr) (n15_0 : Nat) (c15_0 : Nat) (x15_1 : Int),
  e = .returned (.tuple #[.slice a15_0 n15_0 c15_0, .int .i64 x15_1]) ∧
  br (decide (x15_1 = 0)) (
    K (.int .i64 8) w_2
  ) (
    br (decide (x15_1 ≠ 7)) (
      K (.int .i64 x15_1) w_2
    ) (
      br (decide (((n2 : Nat) : Int) > 65536)) (
        K (.int .i64 5) w_2
      ) (
        br (decide (((n3 : Nat) : Int) > 65536)) (
          K (.int .i64 5) w_2
        ) (
          drewO w_2 fun w_3 =>
          withP p0 fun g36 o36 =>
          ∃ (a38 : Option Addr) (n38 : Nat) (c38 : Nat), w_3.cell? ⟨g36, o36 + 3, none⟩ = some (.slice a38 n38 c38) ∧
          Calls Try.prog 49 #[.slice a2 n2 c2] w_3 fun e_2 w_4 => KeepG [] w_3 w_4 ∧
          ∃ (a41 : Option Addr) (n41 : Nat) (c41 : Nat),
          e_2 = .returned (.slice a41 n41 c41) ∧
          w_4.cell? ⟨g36, o36 + 3, none⟩ = some (.slice a38 n38 c38) ∧
          Calls Try.prog 49 #[.slice a3 n3 c3] w_4 fun e_3 w_5 => KeepG [] w_4 w_5 ∧
          ∃ (a43 : Option Addr) (n43 : Nat) (c43 : Nat),
          e_3 = .returned (.slice a43 n43 c43) ∧
          w_5.cell? ⟨g36, o36 + 3, none⟩ = some (.slice a38 n38 c38) ∧
          newO w_5 (.cells #[.int .i64 x1, .slice a41 n41 c41, .slice a43 n43 c43] 96) fun g w_6 =>
          w_6.cell? ⟨g36, o36 + 3, none⟩ = some (.slice a38 n38 c38) ∧
          appO Try.prog [] w_6 96 3 56 91 a38 n38 c38 (.slice (some ⟨g, 0, none⟩) 1 1) fun m46 a46 c46 w_7 =>
          withP p0 fun g47 o47 =>
          stO [] w_7 g47 (o47 + 3) [.slice a46 (n38 + m46) c46] fun w_8 =>
          drewO w_8 fun w_9 =>
          withP p0 fun g50 o50 =>
          ∃ (a52 : Option Addr) (n52 : Nat) (c52 : Nat), w_9.cell? ⟨g50, o50 + 3, none⟩ = some (.slice a52 n52 c52) ∧
          withP p0 fun g55 o55 =>
          ∃ (x57 : Int), w_9.cell? ⟨g55, o55, none⟩ = some (.int .i64 x57) ∧
          br (decide (((n52 : Nat) : Int) > x57)) (
            withP p0 fun g61 o61 =>
            ∃ (a63 : Option Addr) (n63 : Nat) (c63 : Nat), w_9.cell? ⟨g61, o61 + 3, none⟩ = some (.slice a63 n63 c63) ∧
            (0 : Int) ≤ 1 ∧ 1 ≤ (((n63 : Nat) : Int) : Int) ∧
            withP p0 fun g65 o65 =>
            stO [] w_9 g65 (o65 + 3) [.slice (sliceBase a63 c63 ((1 : Int).toNat) 3) (n63 - (1 : Int).toNat) (c63 - (1 : Int).toNat)] fun w_10 =>
            withP p0 fun g69 o69 =>
            stO [] w_10 g69 (o69 + 2) [.int .i64 x1] fun w_11 =>
            K (.int .i64 0) w_11
          ) (
            withP p0 fun g69_2 o69_2 =>
            stO [] w_9 g69_2 (o69_2 + 2) [.int .i64 x1] fun w_12 =>
            K (.int .i64 0) w_12
          )
        )
      )
    )
  )
def wKeep_notes : Notes := ⟨[(8, ⟨[0, 0, 2, 6, 14, 0, 0, 64, 0, 448, 992, 2016, 4094, 8191, 16383, 32767], [7, 9, 11, 12, 15], [0, 1, 2, 3, 4, 5, 6, 8, 10, 13, 14]⟩), (9, ⟨[0, 1, 3, 7, 15, 0, 32, 96, 224, 511], [], [0, 1, 2, 3, 4, 5, 6, 7, 8, 9]⟩)], [], []⟩
theorem wKeep_calls (p0 : Option Addr) (x1 : Int) (a2 : Option Addr) (n2 : Nat) (c2 : Nat) (a3 : Option Addr) (n3 : Nat) (c3 : Nat) (w : World) (K : Value → World → Prop) (h : wKeep_vc p0 x1 a2 n2 c2 a3 n3 c3 w K) : Calls Try.prog 15 #[.pointer p0, .int .i64 x1, .slice a2 n2 c2, .slice a3 n3 c3] w fun e w' => ∃ v, e = .returned v ∧ K v w' :=
  calls_of_fvc envOk Try.func15 wKeep_notes [] [.pointer p0, .int .i64 x1, .slice a2 n2 c2, .slice a3 n3 c3] w K (use_vc h (by as_aux_lemma => kernel_rfl))
/-- (*purser/window.Window).Last -/
def wLast_vc (p0 : Option Addr) (w : World) (K : Value → World → Prop) : Prop :=
  br (Option.isNone p0) (
    K (.int .i64 0) w
  ) (
    withP p0 fun g6 o6 =>
    ∃ (x8 : Int), w.cell? ⟨g6, o6 + 2, none⟩ = some (.int .i64 x8) ∧
    K (.int .i64 x8) w
  )
def wLast_notes : Notes := ⟨[], [], []⟩
theorem wLast_calls (p0 : Option Addr) (w : World) (K : Value → World → Prop) (h : wLast_vc p0 w K) : Calls Try.prog 17 #[.pointer p0] w fun e w' => ∃ v, e = .returned v ∧ K v w' :=
  calls_of_fvc envOk Try.func17 wLast_notes [] [.pointer p0] w K (use_vc h (by as_aux_lemma => kernel_rfl))
/-- (*purser/window.Window).Len -/
def wLen_vc (p0 : Option Addr) (w : World) (K : Value → World → Prop) : Prop :=
  br (Option.isNone p0) (
    K (.int .i64 0) w
  ) (
    withP p0 fun g6 o6 =>
    ∃ (a8 : Option Addr) (n8 : Nat) (c8 : Nat), w.cell? ⟨g6, o6 + 3, none⟩ = some (.slice a8 n8 c8) ∧
    K (.int .i64 ((n8 : Nat) : Int)) w
  )
def wLen_notes : Notes := ⟨[], [], []⟩
theorem wLen_calls (p0 : Option Addr) (w : World) (K : Value → World → Prop) (h : wLen_vc p0 w K) : Calls Try.prog 31 #[.pointer p0] w fun e w' => ∃ v, e = .returned v ∧ K v w' :=
  calls_of_fvc envOk Try.func31 wLen_notes [] [.pointer p0] w K (use_vc h (by as_aux_lemma => kernel_rfl))
end GWin
end Go.Proofs.Ytjjmhmbmjpedkaa
