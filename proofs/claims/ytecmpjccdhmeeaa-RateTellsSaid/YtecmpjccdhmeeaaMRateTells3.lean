import Derived.Test.YtecmpjccdhmeeaaProg
import Derived.Test.YtecmpjccdhmeeaaMRateTells2
section
/- Conditions of functions, printed by a program of this claim's own (vcgen.py) out of the loaded code; each is proved to be enough. -/
set_option maxRecDepth 100000
namespace Go.Proofs.Ytecmpjccdhmeeaa
open Go.RowKit
namespace GRateL
def env : Env := ⟨[(3, ⟨.int .i64, 1, .int .i64 0, 8, [.int .i64]⟩), (4, ⟨.bool, 1, .bool false, 1, [.bool]⟩), (22, ⟨.slice 120, 1, .slice none 0 0, 24, [.slice]⟩), (24, ⟨.struct [(0, 3), (1, 3), (2, 3), (3, 22)], 4, .agg #[.int .i64 0, .int .i64 0, .int .i64 0, .slice none 0 0], 48, [.int .i64, .int .i64, .int .i64, .slice]⟩), (26, ⟨.struct [(0, 3), (1, 3), (2, 3), (3, 24), (7, 24)], 11, .agg #[.int .i64 0, .int .i64 0, .int .i64 0, .int .i64 0, .int .i64 0, .int .i64 0, .slice none 0 0, .int .i64 0, .int .i64 0, .int .i64 0, .slice none 0 0], 120, [.int .i64, .int .i64, .int .i64, .int .i64, .int .i64, .int .i64, .slice, .int .i64, .int .i64, .int .i64, .slice]⟩), (32, ⟨.struct [(0, 3), (1, 3), (2, 3), (3, 24), (7, 24)], 11, .agg #[.int .i64 0, .int .i64 0, .int .i64 0, .int .i64 0, .int .i64 0, .int .i64 0, .slice none 0 0, .int .i64 0, .int .i64 0, .int .i64 0, .slice none 0 0], 120, [.int .i64, .int .i64, .int .i64, .int .i64, .int .i64, .int .i64, .slice, .int .i64, .int .i64, .int .i64, .slice]⟩), (50, ⟨.int .u64, 1, .int .u64 0, 8, [.int .u64]⟩), (51, ⟨.slice 116, 1, .slice none 0 0, 24, [.slice]⟩), (53, ⟨.struct [(0, 51), (1, 3), (2, 3), (3, 3)], 4, .agg #[.slice none 0 0, .int .i64 0, .int .i64 0, .int .i64 0], 48, [.slice, .int .i64, .int .i64, .int .i64]⟩), (66, ⟨.struct [(0, 3), (1, 3), (2, 3), (3, 3)], 4, .agg #[.int .i64 0, .int .i64 0, .int .i64 0, .int .i64 0], 32, [.int .i64, .int .i64, .int .i64, .int .i64]⟩), (67, ⟨.struct [(0, 51), (1, 3), (2, 3), (3, 3)], 4, .agg #[.slice none 0 0, .int .i64 0, .int .i64 0, .int .i64 0], 48, [.slice, .int .i64, .int .i64, .int .i64]⟩), (120, ⟨.struct [(0, 3), (1, 3)], 2, .agg #[.int .i64 0, .int .i64 0], 16, [.int .i64, .int .i64]⟩)], [(14, [.lf (.int .i64)]), (23, [.agg [.slice, .int .i64, .int .i64, .int .i64], .lf (.int .i64)]), (24, [.lf (.int .i64), .lf (.int .i64)]), (29, [.agg [.int .i64, .int .i64, .int .i64, .int .i64, .int .i64, .int .i64, .slice, .int .i64, .int .i64, .int .i64, .slice]]), (30, [.agg [.int .i64, .int .i64, .int .i64, .int .i64, .int .i64, .int .i64, .slice, .int .i64, .int .i64, .int .i64, .slice]]), (31, [.agg [.slice, .int .i64, .int .i64, .int .i64], .lf (.int .i64)]), (32, [.lf (.int .i64), .lf (.int .i64)]), (33, [.lf (.int .i64), .lf (.int .i64), .lf (.int .i64)]), (34, [.lf (.int .i64), .lf (.int .i64), .lf (.int .i64)]), (35, [.lf (.bool)]), (36, [.lf (.bool)]), (37, [.lf (.int .i64), .lf (.bool)]), (38, [.lf (.bool)])], []⟩
theorem ty3 : TyOk Try.prog 3 ⟨.int .i64, 1, .int .i64 0, 8, [.int .i64]⟩ := tyok (by kernel_rfl) (by kernel_rfl)
theorem ty4 : TyOk Try.prog 4 ⟨.bool, 1, .bool false, 1, [.bool]⟩ := tyok (by kernel_rfl) (by kernel_rfl)
theorem ty22 : TyOk Try.prog 22 ⟨.slice 120, 1, .slice none 0 0, 24, [.slice]⟩ := tyok (by kernel_rfl) (by kernel_rfl)
theorem ty24 : TyOk Try.prog 24 ⟨.struct [(0, 3), (1, 3), (2, 3), (3, 22)], 4, .agg #[.int .i64 0, .int .i64 0, .int .i64 0, .slice none 0 0], 48, [.int .i64, .int .i64, .int .i64, .slice]⟩ := tyok (by kernel_rfl) (by kernel_rfl)
theorem ty26 : TyOk Try.prog 26 ⟨.struct [(0, 3), (1, 3), (2, 3), (3, 24), (7, 24)], 11, .agg #[.int .i64 0, .int .i64 0, .int .i64 0, .int .i64 0, .int .i64 0, .int .i64 0, .slice none 0 0, .int .i64 0, .int .i64 0, .int .i64 0, .slice none 0 0], 120, [.int .i64, .int .i64, .int .i64, .int .i64, .int .i64, .int .i64, .slice, .int .i64, .int .i64, .int .i64, .slice]⟩ := tyok (by kernel_rfl) (by kernel_rfl)
theorem ty32 : TyOk Try.prog 32 ⟨.struct [(0, 3), (1, 3), (2, 3), (3, 24), (7, 24)], 11, .agg #[.int .i64 0, .int .i64 0, .int .i64 0, .int .i64 0, .int .i64 0, .int .i64 0, .slice none 0 0, .int .i64 0, .int .i64 0, .int .i64 0, .slice none 0 0], 120, [.int .i64, .int .i64, .int .i64, .int .i64, .int .i64, .int .i64, .slice, .int .i64, .int .i64, .int .i64, .slice]⟩ := tyok (by kernel_rfl) (by kernel_rfl)
theorem ty50 : TyOk Try.prog 50 ⟨.int .u64, 1, .int .u64 0, 8, [.int .u64]⟩ := tyok (by kernel_rfl) (by kernel_rfl)
theorem ty51 : TyOk Try.prog 51 ⟨.slice 116, 1, .slice none 0 0, 24, [.slice]⟩ := tyok (by kernel_rfl) (by kernel_rfl)
theorem ty53 : TyOk Try.prog 53 ⟨.struct [(0, 51), (1, 3), (2, 3), (3, 3)], 4, .agg #[.slice none 0 0, .int .i64 0, .int .i64 0, .int .i64 0], 48, [.slice, .int .i64, .int .i64, .int .i64]⟩ := tyok (by kernel_rfl) (by kernel_rfl)
theorem ty66 : TyOk Try.prog 66 ⟨.struct [(0, 3), (1, 3), (2, 3), (3, 3)], 4, .agg #[.int .i64 0, .int .i64 0, .int .i64 0, .int .i64 0], 32, [.int .i64, .int .i64, .int .i64, .int .i64]⟩ := tyok (by kernel_rfl) (by kernel_rfl)
theorem ty67 : TyOk Try.prog 67 ⟨.struct [(0, 51), (1, 3), (2, 3), (3, 3)], 4, .agg #[.slice none 0 0, .int .i64 0, .int .i64 0, .int .i64 0], 48, [.slice, .int .i64, .int .i64, .int .i64]⟩ := tyok (by kernel_rfl) (by kernel_rfl)
theorem ty120 : TyOk Try.prog 120 ⟨.struct [(0, 3), (1, 3)], 2, .agg #[.int .i64 0, .int .i64 0], 16, [.int .i64, .int .i64]⟩ := tyok (by kernel_rfl) (by kernel_rfl)
theorem fn14 : FnOk Try.prog 14 := fnok Try.func14 (by kernel_rfl) (by kernel_rfl)
theorem fn23 : FnOk Try.prog 23 := fnok Try.func23 (by kernel_rfl) (by kernel_rfl)
theorem fn24 : FnOk Try.prog 24 := fnok Try.func24 (by kernel_rfl) (by kernel_rfl)
theorem fn29 : FnOk Try.prog 29 := fnok Try.func29 (by kernel_rfl) (by kernel_rfl)
theorem fn30 : FnOk Try.prog 30 := fnok Try.func30 (by kernel_rfl) (by kernel_rfl)
theorem fn31 : FnOk Try.prog 31 := fnok Try.func31 (by kernel_rfl) (by kernel_rfl)
theorem fn32 : FnOk Try.prog 32 := fnok Try.func32 (by kernel_rfl) (by kernel_rfl)
theorem fn33 : FnOk Try.prog 33 := fnok Try.func33 (by kernel_rfl) (by kernel_rfl)
theorem fn34 : FnOk Try.prog 34 := fnok Try.func34 (by kernel_rfl) (by kernel_rfl)
theorem fn35 : FnOk Try.prog 35 := fnok Try.func35 (by kernel_rfl) (by kernel_rfl)
theorem fn36 : FnOk Try.prog 36 := fnok Try.func36 (by kernel_rfl) (by kernel_rfl)
theorem fn37 : FnOk Try.prog 37 := fnok Try.func37 (by kernel_rfl) (by kernel_rfl)
theorem fn38 : FnOk Try.prog 38 := fnok Try.func38 (by kernel_rfl) (by kernel_rfl)
theorem envOk : EOk Try.prog env := ⟨(by simp only [env, List.forall_mem_cons, List.not_mem_nil, false_implies, implies_true, and_true]; exact ⟨ty3, ty4, ty22, ty24, ty26, ty32, ty50, ty51, ty53, ty66, ty67, ty120⟩), (by simp only [env, List.forall_mem_cons, List.not_mem_nil, false_implies, implies_true, and_true]; exact ⟨fn14, fn23, fn24, fn29, fn30, fn31, fn32, fn33, fn34, fn35, fn36, fn37, fn38⟩), by kernel_rfl, (fun _ h => by cases h)⟩
/-- purser/purserlaw11.tame -/
def tame_vc (x0_0 : Int) (x0_1 : Int) (x0_2 : Int) (x0_3 : Int) (x0_4 : Int) (x0_5 : Int) (a0_6 : Option Addr) (n0_6 : Nat) (c0_6 : Nat) (x0_7 : Int) (x0_8 : Int) (x0_9 : Int) (a0_10 : Option Addr) (n0_10 : Nat) (c0_10 : Nat) (w : World) (K : Value → World → Prop) : Prop :=
  newO w (.cells #[.int .i64 x0_0, .int .i64 x0_1, .int .i64 x0_2, .int .i64 x0_3, .int .i64 x0_4, .int .i64 x0_5, .slice a0_6 n0_6 c0_6, .int .i64 x0_7, .int .i64 x0_8, .int .i64 x0_9, .slice a0_10 n0_10 c0_10] 26) fun g w_2 =>
  newO w_2 (.cells #[.int .i64 0, .int .i64 0, .int .i64 0, .int .i64 0, .int .i64 0, .int .i64 0, .slice none 0 0, .int .i64 0, .int .i64 0, .int .i64 0, .slice none 0 0] 26) fun g_2 w_3 =>
  newO w_3 (.cells #[] 120) fun g_3 w_4 =>
  (0 : Int) ≤ min ((n0_6 : Nat) : Int) 9 ∧ min ((n0_6 : Nat) : Int) 9 ≤ (((c0_6 : Nat) : Int) : Int) ∧
  appO Try.prog [g_2, g] w_4 120 2 16 22 (some ⟨g_3, 0, none⟩) 0 0 (.slice a0_6 ((min ((n0_6 : Nat) : Int) 9).toNat) c0_6) fun m13 a13 c13 w_5 =>
  ∀ w_6 : World, BoxSt g w_5 w_6 →
  newO w_6 (.cells #[] 120) fun g_4 w_7 =>
  (0 : Int) ≤ min ((n0_10 : Nat) : Int) 9 ∧ min ((n0_10 : Nat) : Int) 9 ≤ (((c0_10 : Nat) : Int) : Int) ∧
  appO Try.prog [g_2, g] w_7 120 2 16 22 (some ⟨g_4, 0, none⟩) 0 0 (.slice a0_10 ((min ((n0_10 : Nat) : Int) 9).toNat) c0_10) fun m26 a26 c26 w_8 =>
  ∀ w_9 : World, BoxSt g w_8 w_9 →
  ∀ w_10 : World, BoxSt g_2 w_9 w_10 →
  K (.agg #[.int .i64 x0_0, .int .i64 x0_1, .int .i64 x0_2, .int .i64 x0_3, .int .i64 x0_4, .int .i64 x0_5, .slice a13 (0 + m13) c13, .int .i64 x0_7, .int .i64 x0_8, .int .i64 x0_9, .slice a26 (0 + m26) c26]) w_10
def tame_notes : Notes := ⟨[], [], []⟩
theorem tame_calls (x0_0 : Int) (x0_1 : Int) (x0_2 : Int) (x0_3 : Int) (x0_4 : Int) (x0_5 : Int) (a0_6 : Option Addr) (n0_6 : Nat) (c0_6 : Nat) (x0_7 : Int) (x0_8 : Int) (x0_9 : Int) (a0_10 : Option Addr) (n0_10 : Nat) (c0_10 : Nat) (w : World) (K : Value → World → Prop) (h : tame_vc x0_0 x0_1 x0_2 x0_3 x0_4 x0_5 a0_6 n0_6 c0_6 x0_7 x0_8 x0_9 a0_10 n0_10 c0_10 w K) : Calls Try.prog 29 #[.agg #[.int .i64 x0_0, .int .i64 x0_1, .int .i64 x0_2, .int .i64 x0_3, .int .i64 x0_4, .int .i64 x0_5, .slice a0_6 n0_6 c0_6, .int .i64 x0_7, .int .i64 x0_8, .int .i64 x0_9, .slice a0_10 n0_10 c0_10]] w fun e w' => ∃ v, e = .returned v ∧ K v w' :=
  calls_of_fvc envOk Try.func29 tame_notes [1, 2] [.agg #[.int .i64 x0_0, .int .i64 x0_1, .int .i64 x0_2, .int .i64 x0_3, .int .i64 x0_4, .int .i64 x0_5, .slice a0_6 n0_6 c0_6, .int .i64 x0_7, .int .i64 x0_8, .int .i64 x0_9, .slice a0_10 n0_10 c0_10]] w K (use_vc h (by as_aux_lemma => kernel_rfl))
/-- purser/purserlaw11.to -/
def lto_vc (x0_0 : Int) (x0_1 : Int) (x0_2 : Int) (x0_3 : Int) (x0_4 : Int) (x0_5 : Int) (a0_6 : Option Addr) (n0_6 : Nat) (c0_6 : Nat) (x0_7 : Int) (x0_8 : Int) (x0_9 : Int) (a0_10 : Option Addr) (n0_10 : Nat) (c0_10 : Nat) (w : World) (K : Value → World → Prop) : Prop :=
  newO w (.cells #[.int .i64 x0_0, .int .i64 x0_1, .int .i64 x0_2, .int .i64 x0_3, .int .i64 x0_4, .int .i64 x0_5, .slice a0_6 n0_6 c0_6, .int .i64 x0_7, .int .i64 x0_8, .int .i64 x0_9, .slice a0_10 n0_10 c0_10] 26) fun g w_2 =>
  newO w_2 (.cells #[.int .i64 0, .int .i64 0, .int .i64 0, .int .i64 0, .int .i64 0, .int .i64 0, .slice none 0 0, .int .i64 0, .int .i64 0, .int .i64 0, .slice none 0 0] 32) fun g_2 w_3 =>
  ∀ w_4 : World, BoxSt g_2 w_3 w_4 →
  K (.agg #[.int .i64 x0_0, .int .i64 x0_1, .int .i64 x0_2, .int .i64 x0_3, .int .i64 x0_4, .int .i64 x0_5, .slice a0_6 n0_6 c0_6, .int .i64 x0_7, .int .i64 x0_8, .int .i64 x0_9, .slice a0_10 n0_10 c0_10]) w_4
def lto_notes : Notes := ⟨[], [], []⟩
theorem lto_calls (x0_0 : Int) (x0_1 : Int) (x0_2 : Int) (x0_3 : Int) (x0_4 : Int) (x0_5 : Int) (a0_6 : Option Addr) (n0_6 : Nat) (c0_6 : Nat) (x0_7 : Int) (x0_8 : Int) (x0_9 : Int) (a0_10 : Option Addr) (n0_10 : Nat) (c0_10 : Nat) (w : World) (K : Value → World → Prop) (h : lto_vc x0_0 x0_1 x0_2 x0_3 x0_4 x0_5 a0_6 n0_6 c0_6 x0_7 x0_8 x0_9 a0_10 n0_10 c0_10 w K) : Calls Try.prog 30 #[.agg #[.int .i64 x0_0, .int .i64 x0_1, .int .i64 x0_2, .int .i64 x0_3, .int .i64 x0_4, .int .i64 x0_5, .slice a0_6 n0_6 c0_6, .int .i64 x0_7, .int .i64 x0_8, .int .i64 x0_9, .slice a0_10 n0_10 c0_10]] w fun e w' => ∃ v, e = .returned v ∧ K v w' :=
  calls_of_fvc envOk Try.func30 lto_notes [1, 2] [.agg #[.int .i64 x0_0, .int .i64 x0_1, .int .i64 x0_2, .int .i64 x0_3, .int .i64 x0_4, .int .i64 x0_5, .slice a0_6 n0_6 c0_6, .int .i64 x0_7, .int .i64 x0_8, .int .i64 x0_9, .slice a0_10 n0_10 c0_10]] w K (use_vc h (by as_aux_lemma => kernel_rfl))
/-- purser/purserlaw11.rates -/
def rates_vc  (w : World) (K : Value → World → Prop) : Prop :=
  newO w (.cells #[.int .i64 0, .int .i64 3] 120) fun g w_2 =>
  newO w_2 (.cells #[.int .i64 0, .int .i64 0, .int .i64 0, .int .i64 0, .int .i64 0, .int .i64 0, .slice none 0 0, .int .i64 0, .int .i64 0, .int .i64 0, .slice none 0 0] 32) fun g_2 w_3 =>
  ∀ w_4 : World, BoxSt g_2 w_3 w_4 →
  Calls Try.prog 23 #[.agg #[.int .i64 0, .int .i64 0, .int .i64 0, .int .i64 1, .int .i64 1, .int .i64 10, .slice (some ⟨g, 0, none⟩) 1 1, .int .i64 0, .int .i64 0, .int .i64 0, .slice none 0 0], .int .i64 0, .int .i64 0, .int .i64 11] w_4 fun e w_5 => KeepG [g_2] w_4 w_5 ∧
  ∃ (a13_0_0 : Option Addr) (n13_0_0 : Nat) (c13_0_0 : Nat) (x13_0_1 : Int) (x13_0_2 : Int) (x13_0_3 : Int) (x13_1 : Int),
  e = .returned (.tuple #[.agg #[.slice a13_0_0 n13_0_0 c13_0_0, .int .i64 x13_0_1, .int .i64 x13_0_2, .int .i64 x13_0_3], .int .i64 x13_1]) ∧
  newO w_5 (.cells #[.slice none 0 0, .int .i64 0, .int .i64 0, .int .i64 0] 53) fun g_3 w_6 =>
  ∀ w_7 : World, BoxSt g_3 w_6 w_7 →
  Calls Try.prog 33 #[.agg #[.int .i64 0, .int .i64 0, .int .i64 0, .int .i64 1, .int .i64 1, .int .i64 10, .slice (some ⟨g, 0, none⟩) 1 1, .int .i64 0, .int .i64 0, .int .i64 0, .slice none 0 0], .int .i64 7, .int .i64 100] w_7 fun e_2 w_8 => KeepG [g_3, g_2] w_7 w_8 ∧
  ∃ (x18_0 : Int) (x18_1 : Int) (x18_2 : Int),
  e_2 = .returned (.tuple #[.int .i64 x18_0, .int .i64 x18_1, .int .i64 x18_2]) ∧
  br (decide (x13_1 = 0)) (
    br (decide (x18_2 = 0)) (
      br (decide (x13_0_1 = 2)) (
        br (decide (x13_0_2 = 6)) (
          br (decide (x13_0_3 = 2)) (
            br (decide (x18_0 = 20)) (
              K (.bool (decide (x18_1 = 6))) w_8
            ) (
              K (.bool false) w_8
            )
          ) (
            K (.bool false) w_8
          )
        ) (
          K (.bool false) w_8
        )
      ) (
        K (.bool false) w_8
      )
    ) (
      K (.bool false) w_8
    )
  ) (
    K (.bool false) w_8
  )
def rates_notes : Notes := ⟨[], [], []⟩
theorem rates_calls  (w : World) (K : Value → World → Prop) (h : rates_vc  w K) : Calls Try.prog 35 #[] w fun e w' => ∃ v, e = .returned v ∧ K v w' :=
  calls_of_fvc envOk Try.func35 rates_notes [1, 2] [] w K (use_vc h (by as_aux_lemma => kernel_rfl))
/-- purser/purserlaw11.RateTells -/
def tells_vc (x0_0 : Int) (x0_1 : Int) (x0_2 : Int) (x0_3 : Int) (x0_4 : Int) (x0_5 : Int) (a0_6 : Option Addr) (n0_6 : Nat) (c0_6 : Nat) (x0_7 : Int) (x0_8 : Int) (x0_9 : Int) (a0_10 : Option Addr) (n0_10 : Nat) (c0_10 : Nat) (x1_0 : Int) (x1_1 : Int) (x1_2 : Int) (x1_3 : Int) (w : World) (K : Value → World → Prop) : Prop :=
  newO w (.cells #[.int .i64 x0_0, .int .i64 x0_1, .int .i64 x0_2, .int .i64 x0_3, .int .i64 x0_4, .int .i64 x0_5, .slice a0_6 n0_6 c0_6, .int .i64 x0_7, .int .i64 x0_8, .int .i64 x0_9, .slice a0_10 n0_10 c0_10] 26) fun g w_2 =>
  newO w_2 (.cells #[.int .i64 x1_0, .int .i64 x1_1, .int .i64 x1_2, .int .i64 x1_3] 66) fun g_2 w_3 =>
  Calls Try.prog 29 #[.agg #[.int .i64 x0_0, .int .i64 x0_1, .int .i64 x0_2, .int .i64 x0_3, .int .i64 x0_4, .int .i64 x0_5, .slice a0_6 n0_6 c0_6, .int .i64 x0_7, .int .i64 x0_8, .int .i64 x0_9, .slice a0_10 n0_10 c0_10]] w_3 fun e w_4 => KeepG [g_2, g] w_3 w_4 ∧
  ∃ (x21_0 : Int) (x21_1 : Int) (x21_2 : Int) (x21_3 : Int) (x21_4 : Int) (x21_5 : Int) (a21_6 : Option Addr) (n21_6 : Nat) (c21_6 : Nat) (x21_7 : Int) (x21_8 : Int) (x21_9 : Int) (a21_10 : Option Addr) (n21_10 : Nat) (c21_10 : Nat),
  e = .returned (.agg #[.int .i64 x21_0, .int .i64 x21_1, .int .i64 x21_2, .int .i64 x21_3, .int .i64 x21_4, .int .i64 x21_5, .slice a21_6 n21_6 c21_6, .int .i64 x21_7, .int .i64 x21_8, .int .i64 x21_9, .slice a21_10 n21_10 c21_10]) ∧
  ∀ w_5 : World, BoxSt g w_4 w_5 →
  Calls Try.prog 30 #[.agg #[.int .i64 x21_0, .int .i64 x21_1, .int .i64 x21_2, .int .i64 x21_3, .int .i64 x21_4, .int .i64 x21_5, .slice a21_6 n21_6 c21_6, .int .i64 x21_7, .int .i64 x21_8, .int .i64 x21_9, .slice a21_10 n21_10 c21_10]] w_5 fun e_2 w_6 => KeepG [g_2, g] w_5 w_6 ∧
  ∃ (x23_0 : Int) (x23_1 : Int) (x23_2 : Int) (x23_3 : Int) (x23_4 : Int) (x23_5 : Int) (a23_6 : Option Addr) (n23_6 : Nat) (c23_6 : Nat) (x23_7 : Int) (x23_8 : Int) (x23_9 : Int) (a23_10 : Option Addr) (n23_10 : Nat) (c23_10 : Nat),
  e_2 = .returned (.agg #[.int .i64 x23_0, .int .i64 x23_1, .int .i64 x23_2, .int .i64 x23_3, .int .i64 x23_4, .int .i64 x23_5, .slice a23_6 n23_6 c23_6, .int .i64 x23_7, .int .i64 x23_8, .int .i64 x23_9, .slice a23_10 n23_10 c23_10]) ∧
  newO w_6 (.cells #[.int .i64 0, .int .i64 0, .int .i64 0, .int .i64 0, .int .i64 0, .int .i64 0, .slice none 0 0, .int .i64 0, .int .i64 0, .int .i64 0, .slice none 0 0] 32) fun g_3 w_7 =>
  ∀ w_8 : World, BoxSt g_3 w_7 w_8 →
  Calls Try.prog 23 #[.agg #[.int .i64 x23_0, .int .i64 x23_1, .int .i64 x23_2, .int .i64 x23_3, .int .i64 x23_4, .int .i64 x23_5, .slice a23_6 n23_6 c23_6, .int .i64 x23_7, .int .i64 x23_8, .int .i64 x23_9, .slice a23_10 n23_10 c23_10], .int .i64 x1_0, .int .i64 x1_1, .int .i64 x1_2] w_8 fun e_3 w_9 => KeepG [g_3, g_2, g] w_8 w_9 ∧
  ∃ (a32_0_0 : Option Addr) (n32_0_0 : Nat) (c32_0_0 : Nat) (x32_0_1 : Int) (x32_0_2 : Int) (x32_0_3 : Int) (x32_1 : Int),
  e_3 = .returned (.tuple #[.agg #[.slice a32_0_0 n32_0_0 c32_0_0, .int .i64 x32_0_1, .int .i64 x32_0_2, .int .i64 x32_0_3], .int .i64 x32_1]) ∧
  newO w_9 (.cells #[.slice none 0 0, .int .i64 0, .int .i64 0, .int .i64 0] 53) fun g_4 w_10 =>
  ∀ w_11 : World, BoxSt g_4 w_10 w_11 →
  Calls Try.prog 31 #[.agg #[.int .i64 x21_0, .int .i64 x21_1, .int .i64 x21_2, .int .i64 x21_3, .int .i64 x21_4, .int .i64 x21_5, .slice a21_6 n21_6 c21_6, .int .i64 x21_7, .int .i64 x21_8, .int .i64 x21_9, .slice a21_10 n21_10 c21_10], .int .i64 x1_0, .int .i64 x1_1, .int .i64 x1_2] w_11 fun e_4 w_12 => KeepG [g_4, g_3, g_2, g] w_11 w_12 ∧
  ∃ (a43_0_0 : Option Addr) (n43_0_0 : Nat) (c43_0_0 : Nat) (x43_0_1 : Int) (x43_0_2 : Int) (x43_0_3 : Int) (x43_1 : Int),
  e_4 = .returned (.tuple #[.agg #[.slice a43_0_0 n43_0_0 c43_0_0, .int .i64 x43_0_1, .int .i64 x43_0_2, .int .i64 x43_0_3], .int .i64 x43_1]) ∧
  newO w_12 (.cells #[.slice none 0 0, .int .i64 0, .int .i64 0, .int .i64 0] 67) fun g_5 w_13 =>
  ∀ w_14 : World, BoxSt g_5 w_13 w_14 →
  Calls Try.prog 24 #[.agg #[.int .i64 x23_0, .int .i64 x23_1, .int .i64 x23_2, .int .i64 x23_3, .int .i64 x23_4, .int .i64 x23_5, .slice a23_6 n23_6 c23_6, .int .i64 x23_7, .int .i64 x23_8, .int .i64 x23_9, .slice a23_10 n23_10 c23_10], .int .i64 x1_2] w_14 fun e_5 w_15 => KeepG [g_5, g_4, g_3, g_2, g] w_14 w_15 ∧
  ∃ (x50_0 : Int) (x50_1 : Int),
  e_5 = .returned (.tuple #[.int .i64 x50_0, .int .i64 x50_1]) ∧
  Calls Try.prog 32 #[.agg #[.int .i64 x21_0, .int .i64 x21_1, .int .i64 x21_2, .int .i64 x21_3, .int .i64 x21_4, .int .i64 x21_5, .slice a21_6 n21_6 c21_6, .int .i64 x21_7, .int .i64 x21_8, .int .i64 x21_9, .slice a21_10 n21_10 c21_10], .int .i64 x1_2] w_15 fun e_6 w_16 => KeepG [g_5, g_4, g_3, g_2, g] w_15 w_16 ∧
  ∃ (x57_0 : Int) (x57_1 : Int),
  e_6 = .returned (.tuple #[.int .i64 x57_0, .int .i64 x57_1]) ∧
  Calls Try.prog 33 #[.agg #[.int .i64 x23_0, .int .i64 x23_1, .int .i64 x23_2, .int .i64 x23_3, .int .i64 x23_4, .int .i64 x23_5, .slice a23_6 n23_6 c23_6, .int .i64 x23_7, .int .i64 x23_8, .int .i64 x23_9, .slice a23_10 n23_10 c23_10], .int .i64 x1_3, .int .i64 x1_2] w_16 fun e_7 w_17 => KeepG [g_5, g_4, g_3, g_2, g] w_16 w_17 ∧
  ∃ (x66_0 : Int) (x66_1 : Int) (x66_2 : Int),
  e_7 = .returned (.tuple #[.int .i64 x66_0, .int .i64 x66_1, .int .i64 x66_2]) ∧
  Calls Try.prog 34 #[.agg #[.int .i64 x21_0, .int .i64 x21_1, .int .i64 x21_2, .int .i64 x21_3, .int .i64 x21_4, .int .i64 x21_5, .slice a21_6 n21_6 c21_6, .int .i64 x21_7, .int .i64 x21_8, .int .i64 x21_9, .slice a21_10 n21_10 c21_10], .int .i64 x1_3, .int .i64 x1_2] w_17 fun e_8 w_18 => KeepG [g_5, g_4, g_3, g_2, g] w_17 w_18 ∧
  ∃ (x76_0 : Int) (x76_1 : Int) (x76_2 : Int),
  e_8 = .returned (.tuple #[.int .i64 x76_0, .int .i64 x76_1, .int .i64 x76_2]) ∧
  Calls Try.prog 35 #[] w_18 fun e_9 w_19 => KeepG [g_5, g_4, g_3, g_2, g] w_18 w_19 ∧
  ∃ (b80 : Bool),
  e_9 = .returned (.bool b80) ∧
  br b80 (
    br (decide (x32_1 = x43_1)) (
      Calls Try.prog 36 #[.slice a32_0_0 n32_0_0 c32_0_0, .slice a43_0_0 n43_0_0 c43_0_0] w_19 fun e_10 w_20 => KeepG [g_5, g_4, g_3, g_2, g] w_19 w_20 ∧
      ∃ (b91 : Bool),
      e_10 = .returned (.bool b91) ∧
      br b91 (
        br (decide (x32_0_1 = x43_0_1)) (
          br (decide (x32_0_2 = x43_0_2)) (
            br (decide (x32_0_3 = x43_0_3)) (
              br (decide (x50_0 = x57_0)) (
                br (decide (x50_1 = x57_1)) (
                  br (decide (x66_0 = x76_0)) (
                    br (decide (x66_1 = x76_1)) (
                      K (.bool (decide (x66_2 = x76_2))) w_20
                    ) (
                      K (.bool false) w_20
                    )
                  ) (
                    K (.bool false) w_20
                  )
                ) (
                  K (.bool false) w_20
                )
              ) (
                K (.bool false) w_20
              )
            ) (
              K (.bool false) w_20
            )
          ) (
            K (.bool false) w_20
          )
        ) (
          K (.bool false) w_20
        )
      ) (
        K (.bool false) w_20
      )
    ) (
      K (.bool false) w_19
    )
  ) (
    K (.bool false) w_19
  )
def tells_notes : Notes := ⟨[], [], []⟩
theorem tells_calls (x0_0 : Int) (x0_1 : Int) (x0_2 : Int) (x0_3 : Int) (x0_4 : Int) (x0_5 : Int) (a0_6 : Option Addr) (n0_6 : Nat) (c0_6 : Nat) (x0_7 : Int) (x0_8 : Int) (x0_9 : Int) (a0_10 : Option Addr) (n0_10 : Nat) (c0_10 : Nat) (x1_0 : Int) (x1_1 : Int) (x1_2 : Int) (x1_3 : Int) (w : World) (K : Value → World → Prop) (h : tells_vc x0_0 x0_1 x0_2 x0_3 x0_4 x0_5 a0_6 n0_6 c0_6 x0_7 x0_8 x0_9 a0_10 n0_10 c0_10 x1_0 x1_1 x1_2 x1_3 w K) : Calls Try.prog 6 #[.agg #[.int .i64 x0_0, .int .i64 x0_1, .int .i64 x0_2, .int .i64 x0_3, .int .i64 x0_4, .int .i64 x0_5, .slice a0_6 n0_6 c0_6, .int .i64 x0_7, .int .i64 x0_8, .int .i64 x0_9, .slice a0_10 n0_10 c0_10], .agg #[.int .i64 x1_0, .int .i64 x1_1, .int .i64 x1_2, .int .i64 x1_3]] w fun e w' => ∃ v, e = .returned v ∧ K v w' :=
  calls_of_fvc envOk Try.func6 tells_notes [2, 3, 5, 6, 8] [.agg #[.int .i64 x0_0, .int .i64 x0_1, .int .i64 x0_2, .int .i64 x0_3, .int .i64 x0_4, .int .i64 x0_5, .slice a0_6 n0_6 c0_6, .int .i64 x0_7, .int .i64 x0_8, .int .i64 x0_9, .slice a0_10 n0_10 c0_10], .agg #[.int .i64 x1_0, .int .i64 x1_1, .int .i64 x1_2, .int .i64 x1_3]] w K (use_vc h (by as_aux_lemma => kernel_rfl))
/-- purser/purserlaw11.RateBounded -/
def bounded_k1 (K : Value → World → Prop) (x1_1 : Int) (x1_2 : Int) (g : Nat) (g_2 : Nat) (x12_0 : Int) (x12_1 : Int) (x12_2 : Int) (x12_3 : Int) (x12_4 : Int) (x12_5 : Int) (a12_6 : Option Addr) (n12_6 : Nat) (c12_6 : Nat) (x12_7 : Int) (x12_8 : Int) (x12_9 : Int) (a12_10 : Option Addr) (n12_10 : Nat) (c12_10 : Nat) (x6 : Int) (g_4 : Nat) (a5_0 : Option Addr) (n5_0 : Nat) (c5_0 : Nat) (x5_1 : Int) (x5_2 : Int) (x5_3 : Int) (w_11 : World) : Prop :=
  drewO w_11 fun w_12 =>
  Calls Try.prog 30 #[.agg #[.int .i64 x12_0, .int .i64 x12_1, .int .i64 x12_2, .int .i64 x12_3, .int .i64 x12_4, .int .i64 x12_5, .slice a12_6 n12_6 c12_6, .int .i64 x12_7, .int .i64 x12_8, .int .i64 x12_9, .slice a12_10 n12_10 c12_10]] w_12 fun e_4 w_13 => KeepG [g_4, g_2, g] w_12 w_13 ∧
  ∃ (x27_0 : Int) (x27_1 : Int) (x27_2 : Int) (x27_3 : Int) (x27_4 : Int) (x27_5 : Int) (a27_6 : Option Addr) (n27_6 : Nat) (c27_6 : Nat) (x27_7 : Int) (x27_8 : Int) (x27_9 : Int) (a27_10 : Option Addr) (n27_10 : Nat) (c27_10 : Nat),
  e_4 = .returned (.agg #[.int .i64 x27_0, .int .i64 x27_1, .int .i64 x27_2, .int .i64 x27_3, .int .i64 x27_4, .int .i64 x27_5, .slice a27_6 n27_6 c27_6, .int .i64 x27_7, .int .i64 x27_8, .int .i64 x27_9, .slice a27_10 n27_10 c27_10]) ∧
  Calls Try.prog 24 #[.agg #[.int .i64 x27_0, .int .i64 x27_1, .int .i64 x27_2, .int .i64 x27_3, .int .i64 x27_4, .int .i64 x27_5, .slice a27_6 n27_6 c27_6, .int .i64 x27_7, .int .i64 x27_8, .int .i64 x27_9, .slice a27_10 n27_10 c27_10], .int .i64 x1_2] w_13 fun e_5 w_14 => KeepG [g_4, g_2, g] w_13 w_14 ∧
  ∃ (x30_0 : Int) (x30_1 : Int),
  e_5 = .returned (.tuple #[.int .i64 x30_0, .int .i64 x30_1]) ∧
  Calls Try.prog 35 #[] w_14 fun e_6 w_15 => KeepG [g_4, g_2, g] w_14 w_15 ∧
  ∃ (b33 : Bool),
  e_6 = .returned (.bool b33) ∧
  br (!b33) (
    Calls Try.prog 35 #[] w_15 fun e_7 w_16 => KeepG [g_4, g_2, g] w_15 w_16 ∧
    ∃ (b39 : Bool),
    e_7 = .returned (.bool b39) ∧
    K (.bool b39) w_16
  ) (
    br (decide (x6 ≠ 0)) (
      Calls Try.prog 35 #[] w_15 fun e_8 w_17 => KeepG [g_4, g_2, g] w_15 w_17 ∧
      ∃ (b39_2 : Bool),
      e_8 = .returned (.bool b39_2) ∧
      K (.bool b39_2) w_17
    ) (
      Calls Try.prog 37 #[.slice a5_0 n5_0 c5_0] w_15 fun e_9 w_18 => KeepG [g_4, g_2, g] w_15 w_18 ∧
      ∃ (x43_0 : Int) (b43_1 : Bool),
      e_9 = .returned (.tuple #[.int .i64 x43_0, .bool b43_1]) ∧
      br (decide (x30_1 = 0)) (
        br (decide (x5_2 ≥ 0)) (
          br (decide (x5_2 ≤ x30_0)) (
            br b43_1 (
              br (decide (x43_0 = x5_2)) (
                K (.bool (decide (x5_3 = (IntKind.i64.wrap (x1_1 + x5_1))))) w_18
              ) (
                K (.bool false) w_18
              )
            ) (
              K (.bool false) w_18
            )
          ) (
            K (.bool false) w_18
          )
        ) (
          K (.bool false) w_18
        )
      ) (
        K (.bool false) w_18
      )
    )
  )
def bounded_vc (x0_0 : Int) (x0_1 : Int) (x0_2 : Int) (x0_3 : Int) (x0_4 : Int) (x0_5 : Int) (a0_6 : Option Addr) (n0_6 : Nat) (c0_6 : Nat) (x0_7 : Int) (x0_8 : Int) (x0_9 : Int) (a0_10 : Option Addr) (n0_10 : Nat) (c0_10 : Nat) (x1_0 : Int) (x1_1 : Int) (x1_2 : Int) (x1_3 : Int) (w : World) (K : Value → World → Prop) : Prop :=
  newO w (.cells #[.int .i64 x0_0, .int .i64 x0_1, .int .i64 x0_2, .int .i64 x0_3, .int .i64 x0_4, .int .i64 x0_5, .slice a0_6 n0_6 c0_6, .int .i64 x0_7, .int .i64 x0_8, .int .i64 x0_9, .slice a0_10 n0_10 c0_10] 26) fun g w_2 =>
  newO w_2 (.cells #[.int .i64 x1_0, .int .i64 x1_1, .int .i64 x1_2, .int .i64 x1_3] 66) fun g_2 w_3 =>
  Calls Try.prog 29 #[.agg #[.int .i64 x0_0, .int .i64 x0_1, .int .i64 x0_2, .int .i64 x0_3, .int .i64 x0_4, .int .i64 x0_5, .slice a0_6 n0_6 c0_6, .int .i64 x0_7, .int .i64 x0_8, .int .i64 x0_9, .slice a0_10 n0_10 c0_10]] w_3 fun e w_4 => KeepG [g_2, g] w_3 w_4 ∧
  ∃ (x12_0 : Int) (x12_1 : Int) (x12_2 : Int) (x12_3 : Int) (x12_4 : Int) (x12_5 : Int) (a12_6 : Option Addr) (n12_6 : Nat) (c12_6 : Nat) (x12_7 : Int) (x12_8 : Int) (x12_9 : Int) (a12_10 : Option Addr) (n12_10 : Nat) (c12_10 : Nat),
  e = .returned (.agg #[.int .i64 x12_0, .int .i64 x12_1, .int .i64 x12_2, .int .i64 x12_3, .int .i64 x12_4, .int .i64 x12_5, .slice a12_6 n12_6 c12_6, .int .i64 x12_7, .int .i64 x12_8, .int .i64 x12_9, .slice a12_10 n12_10 c12_10]) ∧
  ∀ w_5 : World, BoxSt g w_4 w_5 →
  drewO w_5 fun w_6 =>
  (
    Calls Try.prog 30 #[.agg #[.int .i64 x12_0, .int .i64 x12_1, .int .i64 x12_2, .int .i64 x12_3, .int .i64 x12_4, .int .i64 x12_5, .slice a12_6 n12_6 c12_6, .int .i64 x12_7, .int .i64 x12_8, .int .i64 x12_9, .slice a12_10 n12_10 c12_10]] w_6 fun e_2 w_7 => KeepG [g_2, g] w_6 w_7 ∧
    ∃ (x15_0 : Int) (x15_1 : Int) (x15_2 : Int) (x15_3 : Int) (x15_4 : Int) (x15_5 : Int) (a15_6 : Option Addr) (n15_6 : Nat) (c15_6 : Nat) (x15_7 : Int) (x15_8 : Int) (x15_9 : Int) (a15_10 : Option Addr) (n15_10 : Nat) (c15_10 : Nat),
    e_2 = .returned (.agg #[.int .i64 x15_0, .int .i64 x15_1, .int .i64 x15_2, .int .i64 x15_3, .int .i64 x15_4, .int .i64 x15_5, .slice a15_6 n15_6 c15_6, .int .i64 x15_7, .int .i64 x15_8, .int .i64 x15_9, .slice a15_10 n15_10 c15_10]) ∧
    (
      Calls Try.prog 23 #[.agg #[.int .i64 x15_0, .int .i64 x15_1, .int .i64 x15_2, .int .i64 x15_3, .int .i64 x15_4, .int .i64 x15_5, .slice a15_6 n15_6 c15_6, .int .i64 x15_7, .int .i64 x15_8, .int .i64 x15_9, .slice a15_10 n15_10 c15_10], .int .i64 x1_0, .int .i64 x1_1, .int .i64 x1_2] w_7 fun e_3 w_8 => KeepG [g_2, g] w_7 w_8 ∧
      ∃ (a22_0_0 : Option Addr) (n22_0_0 : Nat) (c22_0_0 : Nat) (x22_0_1 : Int) (x22_0_2 : Int) (x22_0_3 : Int) (x22_1 : Int),
      e_3 = .returned (.tuple #[.agg #[.slice a22_0_0 n22_0_0 c22_0_0, .int .i64 x22_0_1, .int .i64 x22_0_2, .int .i64 x22_0_3], .int .i64 x22_1]) ∧
      newO w_8 (.cells #[.slice none 0 0, .int .i64 0, .int .i64 0, .int .i64 0] 53) fun g_3 w_9 =>
      ∀ w_10 : World, BoxSt g_3 w_9 w_10 →
      bounded_k1 K x1_1 x1_2 g g_2 x12_0 x12_1 x12_2 x12_3 x12_4 x12_5 a12_6 n12_6 c12_6 x12_7 x12_8 x12_9 a12_10 n12_10 c12_10 x22_1 g_3 a22_0_0 n22_0_0 c22_0_0 x22_0_1 x22_0_2 x22_0_3 w_10
    ) ∧
    (
      newO w_7 (.cells #[.slice none 0 0, .int .i64 0, .int .i64 0, .int .i64 0] 53) fun g_5 w_19 =>
      Calls Try.prog 23 #[.agg #[.int .i64 x15_0, .int .i64 x15_1, .int .i64 x15_2, .int .i64 x15_3, .int .i64 x15_4, .int .i64 x15_5, .slice a15_6 n15_6 c15_6, .int .i64 x15_7, .int .i64 x15_8, .int .i64 x15_9, .slice a15_10 n15_10 c15_10], .int .i64 x1_0, .int .i64 x1_1, .int .i64 x1_2] w_19 fun e_10 w_20 => KeepG [g_5, g_2, g] w_19 w_20 ∧
      ∃ (a22_0_0_2 : Option Addr) (n22_0_0_2 : Nat) (c22_0_0_2 : Nat) (x22_0_1_2 : Int) (x22_0_2_2 : Int) (x22_0_3_2 : Int) (x22_1_2 : Int),
      e_10 = .returned (.tuple #[.agg #[.slice a22_0_0_2 n22_0_0_2 c22_0_0_2, .int .i64 x22_0_1_2, .int .i64 x22_0_2_2, .int .i64 x22_0_3_2], .int .i64 x22_1_2]) ∧
      ∀ w_21 : World, BoxSt g_5 w_20 w_21 →
      bounded_k1 K x1_1 x1_2 g g_2 x12_0 x12_1 x12_2 x12_3 x12_4 x12_5 a12_6 n12_6 c12_6 x12_7 x12_8 x12_9 a12_10 n12_10 c12_10 x22_1_2 g_5 a22_0_0_2 n22_0_0_2 c22_0_0_2 x22_0_1_2 x22_0_2_2 x22_0_3_2 w_21
    )
  ) ∧
  (
    newO w_6 (.cells #[.slice none 0 0, .int .i64 0, .int .i64 0, .int .i64 0] 53) fun g_6 w_22 =>
    Calls Try.prog 30 #[.agg #[.int .i64 x12_0, .int .i64 x12_1, .int .i64 x12_2, .int .i64 x12_3, .int .i64 x12_4, .int .i64 x12_5, .slice a12_6 n12_6 c12_6, .int .i64 x12_7, .int .i64 x12_8, .int .i64 x12_9, .slice a12_10 n12_10 c12_10]] w_22 fun e_11 w_23 => KeepG [g_6, g_2, g] w_22 w_23 ∧
    ∃ (x15_0_2 : Int) (x15_1_2 : Int) (x15_2_2 : Int) (x15_3_2 : Int) (x15_4_2 : Int) (x15_5_2 : Int) (a15_6_2 : Option Addr) (n15_6_2 : Nat) (c15_6_2 : Nat) (x15_7_2 : Int) (x15_8_2 : Int) (x15_9_2 : Int) (a15_10_2 : Option Addr) (n15_10_2 : Nat) (c15_10_2 : Nat),
    e_11 = .returned (.agg #[.int .i64 x15_0_2, .int .i64 x15_1_2, .int .i64 x15_2_2, .int .i64 x15_3_2, .int .i64 x15_4_2, .int .i64 x15_5_2, .slice a15_6_2 n15_6_2 c15_6_2, .int .i64 x15_7_2, .int .i64 x15_8_2, .int .i64 x15_9_2, .slice a15_10_2 n15_10_2 c15_10_2]) ∧
    Calls Try.prog 23 #[.agg #[.int .i64 x15_0_2, .int .i64 x15_1_2, .int .i64 x15_2_2, .int .i64 x15_3_2, .int .i64 x15_4_2, .int .i64 x15_5_2, .slice a15_6_2 n15_6_2 c15_6_2, .int .i64 x15_7_2, .int .i64 x15_8_2, .int .i64 x15_9_2, .slice a15_10_2 n15_10_2 c15_10_2], .int .i64 x1_0, .int .i64 x1_1, .int .i64 x1_2] w_23 fun e_12 w_24 => KeepG [g_6, g_2, g] w_23 w_24 ∧
    ∃ (a22_0_0_3 : Option Addr) (n22_0_0_3 : Nat) (c22_0_0_3 : Nat) (x22_0_1_3 : Int) (x22_0_2_3 : Int) (x22_0_3_3 : Int) (x22_1_3 : Int),
    e_12 = .returned (.tuple #[.agg #[.slice a22_0_0_3 n22_0_0_3 c22_0_0_3, .int .i64 x22_0_1_3, .int .i64 x22_0_2_3, .int .i64 x22_0_3_3], .int .i64 x22_1_3]) ∧
    ∀ w_25 : World, BoxSt g_6 w_24 w_25 →
    bounded_k1 K x1_1 x1_2 g g_2 x12_0 x12_1 x12_2 x12_3 x12_4 x12_5 a12_6 n12_6 c12_6 x12_7 x12_8 x12_9 a12_10 n12_10 c12_10 x22_1_3 g_6 a22_0_0_3 n22_0_0_3 c22_0_0_3 x22_0_1_3 x22_0_2_3 x22_0_3_3 w_25
  )
def bounded_notes : Notes := ⟨[(2, ⟨[0, 1, 0, 4, 0, 16, 0, 64, 255, 511, 1023, 1023, 0, 6143, 16383], [1, 8, 12, 13], [0, 2, 3, 4, 5, 6, 7, 9, 10, 11, 14]⟩), (3, ⟨[0, 1, 0, 4, 15, 31, 63, 63, 127, 511], [1, 4], [0, 2, 3, 5, 6, 7, 8, 9]⟩)], [], []⟩
theorem bounded_calls (x0_0 : Int) (x0_1 : Int) (x0_2 : Int) (x0_3 : Int) (x0_4 : Int) (x0_5 : Int) (a0_6 : Option Addr) (n0_6 : Nat) (c0_6 : Nat) (x0_7 : Int) (x0_8 : Int) (x0_9 : Int) (a0_10 : Option Addr) (n0_10 : Nat) (c0_10 : Nat) (x1_0 : Int) (x1_1 : Int) (x1_2 : Int) (x1_3 : Int) (w : World) (K : Value → World → Prop) (h : bounded_vc x0_0 x0_1 x0_2 x0_3 x0_4 x0_5 a0_6 n0_6 c0_6 x0_7 x0_8 x0_9 a0_10 n0_10 c0_10 x1_0 x1_1 x1_2 x1_3 w K) : Calls Try.prog 7 #[.agg #[.int .i64 x0_0, .int .i64 x0_1, .int .i64 x0_2, .int .i64 x0_3, .int .i64 x0_4, .int .i64 x0_5, .slice a0_6 n0_6 c0_6, .int .i64 x0_7, .int .i64 x0_8, .int .i64 x0_9, .slice a0_10 n0_10 c0_10], .agg #[.int .i64 x1_0, .int .i64 x1_1, .int .i64 x1_2, .int .i64 x1_3]] w fun e w' => ∃ v, e = .returned v ∧ K v w' :=
  calls_of_fvc envOk Try.func7 bounded_notes [2, 3, 5] [.agg #[.int .i64 x0_0, .int .i64 x0_1, .int .i64 x0_2, .int .i64 x0_3, .int .i64 x0_4, .int .i64 x0_5, .slice a0_6 n0_6 c0_6, .int .i64 x0_7, .int .i64 x0_8, .int .i64 x0_9, .slice a0_10 n0_10 c0_10], .agg #[.int .i64 x1_0, .int .i64 x1_1, .int .i64 x1_2, .int .i64 x1_3]] w K (use_vc h (by as_aux_lemma => kernel_rfl))
/-- purser/purserlaw11.RateFits -/
def fits_vc (x0_0 : Int) (x0_1 : Int) (x0_2 : Int) (x0_3 : Int) (x0_4 : Int) (x0_5 : Int) (a0_6 : Option Addr) (n0_6 : Nat) (c0_6 : Nat) (x0_7 : Int) (x0_8 : Int) (x0_9 : Int) (a0_10 : Option Addr) (n0_10 : Nat) (c0_10 : Nat) (x1 : Int) (x2 : Int) (w : World) (K : Value → World → Prop) : Prop :=
  newO w (.cells #[.int .i64 x0_0, .int .i64 x0_1, .int .i64 x0_2, .int .i64 x0_3, .int .i64 x0_4, .int .i64 x0_5, .slice a0_6 n0_6 c0_6, .int .i64 x0_7, .int .i64 x0_8, .int .i64 x0_9, .slice a0_10 n0_10 c0_10] 26) fun g w_2 =>
  Calls Try.prog 29 #[.agg #[.int .i64 x0_0, .int .i64 x0_1, .int .i64 x0_2, .int .i64 x0_3, .int .i64 x0_4, .int .i64 x0_5, .slice a0_6 n0_6 c0_6, .int .i64 x0_7, .int .i64 x0_8, .int .i64 x0_9, .slice a0_10 n0_10 c0_10]] w_2 fun e w_3 => KeepG [g] w_2 w_3 ∧
  ∃ (x15_0 : Int) (x15_1 : Int) (x15_2 : Int) (x15_3 : Int) (x15_4 : Int) (x15_5 : Int) (a15_6 : Option Addr) (n15_6 : Nat) (c15_6 : Nat) (x15_7 : Int) (x15_8 : Int) (x15_9 : Int) (a15_10 : Option Addr) (n15_10 : Nat) (c15_10 : Nat),
  e = .returned (.agg #[.int .i64 x15_0, .int .i64 x15_1, .int .i64 x15_2, .int .i64 x15_3, .int .i64 x15_4, .int .i64 x15_5, .slice a15_6 n15_6 c15_6, .int .i64 x15_7, .int .i64 x15_8, .int .i64 x15_9, .slice a15_10 n15_10 c15_10]) ∧
  ∀ w_4 : World, BoxSt g w_3 w_4 →
  Calls Try.prog 30 #[.agg #[.int .i64 x15_0, .int .i64 x15_1, .int .i64 x15_2, .int .i64 x15_3, .int .i64 x15_4, .int .i64 x15_5, .slice a15_6 n15_6 c15_6, .int .i64 x15_7, .int .i64 x15_8, .int .i64 x15_9, .slice a15_10 n15_10 c15_10]] w_4 fun e_2 w_5 => KeepG [g] w_4 w_5 ∧
  ∃ (x18_0 : Int) (x18_1 : Int) (x18_2 : Int) (x18_3 : Int) (x18_4 : Int) (x18_5 : Int) (a18_6 : Option Addr) (n18_6 : Nat) (c18_6 : Nat) (x18_7 : Int) (x18_8 : Int) (x18_9 : Int) (a18_10 : Option Addr) (n18_10 : Nat) (c18_10 : Nat),
  e_2 = .returned (.agg #[.int .i64 x18_0, .int .i64 x18_1, .int .i64 x18_2, .int .i64 x18_3, .int .i64 x18_4, .int .i64 x18_5, .slice a18_6 n18_6 c18_6, .int .i64 x18_7, .int .i64 x18_8, .int .i64 x18_9, .slice a18_10 n18_10 c18_10]) ∧
  Calls Try.prog 33 #[.agg #[.int .i64 x18_0, .int .i64 x18_1, .int .i64 x18_2, .int .i64 x18_3, .int .i64 x18_4, .int .i64 x18_5, .slice a18_6 n18_6 c18_6, .int .i64 x18_7, .int .i64 x18_8, .int .i64 x18_9, .slice a18_10 n18_10 c18_10], .int .i64 x1, .int .i64 x2] w_5 fun e_3 w_6 => KeepG [g] w_5 w_6 ∧
  ∃ (x21_0 : Int) (x21_1 : Int) (x21_2 : Int),
  e_3 = .returned (.tuple #[.int .i64 x21_0, .int .i64 x21_1, .int .i64 x21_2]) ∧
  Calls Try.prog 35 #[] w_6 fun e_4 w_7 => KeepG [g] w_6 w_7 ∧
  ∃ (b25 : Bool),
  e_4 = .returned (.bool b25) ∧
  br (!b25) (
    Calls Try.prog 35 #[] w_7 fun e_5 w_8 => KeepG [g] w_7 w_8 ∧
    ∃ (b31 : Bool),
    e_5 = .returned (.bool b31) ∧
    br b31 (
      br (decide (x21_0 = 0)) (
        K (.bool (decide (x21_1 = 0))) w_8
      ) (
        K (.bool false) w_8
      )
    ) (
      K (.bool false) w_8
    )
  ) (
    br (decide (x21_2 ≠ 0)) (
      Calls Try.prog 35 #[] w_7 fun e_6 w_9 => KeepG [g] w_7 w_9 ∧
      ∃ (b31_2 : Bool),
      e_6 = .returned (.bool b31_2) ∧
      br b31_2 (
        br (decide (x21_0 = 0)) (
          K (.bool (decide (x21_1 = 0))) w_9
        ) (
          K (.bool false) w_9
        )
      ) (
        K (.bool false) w_9
      )
    ) (
      Calls Try.prog 30 #[.agg #[.int .i64 x15_0, .int .i64 x15_1, .int .i64 x15_2, .int .i64 x15_3, .int .i64 x15_4, .int .i64 x15_5, .slice a15_6 n15_6 c15_6, .int .i64 x15_7, .int .i64 x15_8, .int .i64 x15_9, .slice a15_10 n15_10 c15_10]] w_7 fun e_7 w_10 => KeepG [g] w_7 w_10 ∧
      ∃ (x42_0 : Int) (x42_1 : Int) (x42_2 : Int) (x42_3 : Int) (x42_4 : Int) (x42_5 : Int) (a42_6 : Option Addr) (n42_6 : Nat) (c42_6 : Nat) (x42_7 : Int) (x42_8 : Int) (x42_9 : Int) (a42_10 : Option Addr) (n42_10 : Nat) (c42_10 : Nat),
      e_7 = .returned (.agg #[.int .i64 x42_0, .int .i64 x42_1, .int .i64 x42_2, .int .i64 x42_3, .int .i64 x42_4, .int .i64 x42_5, .slice a42_6 n42_6 c42_6, .int .i64 x42_7, .int .i64 x42_8, .int .i64 x42_9, .slice a42_10 n42_10 c42_10]) ∧
      Calls Try.prog 24 #[.agg #[.int .i64 x42_0, .int .i64 x42_1, .int .i64 x42_2, .int .i64 x42_3, .int .i64 x42_4, .int .i64 x42_5, .slice a42_6 n42_6 c42_6, .int .i64 x42_7, .int .i64 x42_8, .int .i64 x42_9, .slice a42_10 n42_10 c42_10], .int .i64 x21_0] w_10 fun e_8 w_11 => KeepG [g] w_10 w_11 ∧
      ∃ (x44_0 : Int) (x44_1 : Int),
      e_8 = .returned (.tuple #[.int .i64 x44_0, .int .i64 x44_1]) ∧
      br (decide (x44_1 ≠ 0)) (
        K (.bool false) w_11
      ) (
        br (decide (x44_0 ≠ x21_1)) (
          K (.bool false) w_11
        ) (
          br (decide (x21_1 > x1)) (
            K (.bool false) w_11
          ) (
            br (decide (x21_0 < 0)) (
              K (.bool false) w_11
            ) (
              br (decide (x21_0 > x2)) (
                K (.bool false) w_11
              ) (
                br (decide (x21_0 = x2)) (
                  K (.bool true) w_11
                ) (
                  Calls Try.prog 30 #[.agg #[.int .i64 x15_0, .int .i64 x15_1, .int .i64 x15_2, .int .i64 x15_3, .int .i64 x15_4, .int .i64 x15_5, .slice a15_6 n15_6 c15_6, .int .i64 x15_7, .int .i64 x15_8, .int .i64 x15_9, .slice a15_10 n15_10 c15_10]] w_11 fun e_9 w_12 => KeepG [g] w_11 w_12 ∧
                  ∃ (x73_0 : Int) (x73_1 : Int) (x73_2 : Int) (x73_3 : Int) (x73_4 : Int) (x73_5 : Int) (a73_6 : Option Addr) (n73_6 : Nat) (c73_6 : Nat) (x73_7 : Int) (x73_8 : Int) (x73_9 : Int) (a73_10 : Option Addr) (n73_10 : Nat) (c73_10 : Nat),
                  e_9 = .returned (.agg #[.int .i64 x73_0, .int .i64 x73_1, .int .i64 x73_2, .int .i64 x73_3, .int .i64 x73_4, .int .i64 x73_5, .slice a73_6 n73_6 c73_6, .int .i64 x73_7, .int .i64 x73_8, .int .i64 x73_9, .slice a73_10 n73_10 c73_10]) ∧
                  Calls Try.prog 24 #[.agg #[.int .i64 x73_0, .int .i64 x73_1, .int .i64 x73_2, .int .i64 x73_3, .int .i64 x73_4, .int .i64 x73_5, .slice a73_6 n73_6 c73_6, .int .i64 x73_7, .int .i64 x73_8, .int .i64 x73_9, .slice a73_10 n73_10 c73_10], .int .i64 (IntKind.i64.wrap (x21_0 + 1))] w_12 fun e_10 w_13 => KeepG [g] w_12 w_13 ∧
                  ∃ (x76_0 : Int) (x76_1 : Int),
                  e_10 = .returned (.tuple #[.int .i64 x76_0, .int .i64 x76_1]) ∧
                  br (decide (x76_1 = 0)) (
                    K (.bool (decide (x76_0 > x1))) w_13
                  ) (
                    K (.bool false) w_13
                  )
                )
              )
            )
          )
        )
      )
    )
  )
def fits_notes : Notes := ⟨[], [], []⟩
theorem fits_calls (x0_0 : Int) (x0_1 : Int) (x0_2 : Int) (x0_3 : Int) (x0_4 : Int) (x0_5 : Int) (a0_6 : Option Addr) (n0_6 : Nat) (c0_6 : Nat) (x0_7 : Int) (x0_8 : Int) (x0_9 : Int) (a0_10 : Option Addr) (n0_10 : Nat) (c0_10 : Nat) (x1 : Int) (x2 : Int) (w : World) (K : Value → World → Prop) (h : fits_vc x0_0 x0_1 x0_2 x0_3 x0_4 x0_5 a0_6 n0_6 c0_6 x0_7 x0_8 x0_9 a0_10 n0_10 c0_10 x1 x2 w K) : Calls Try.prog 8 #[.agg #[.int .i64 x0_0, .int .i64 x0_1, .int .i64 x0_2, .int .i64 x0_3, .int .i64 x0_4, .int .i64 x0_5, .slice a0_6 n0_6 c0_6, .int .i64 x0_7, .int .i64 x0_8, .int .i64 x0_9, .slice a0_10 n0_10 c0_10], .int .i64 x1, .int .i64 x2] w fun e w' => ∃ v, e = .returned v ∧ K v w' :=
  calls_of_fvc envOk Try.func8 fits_notes [3] [.agg #[.int .i64 x0_0, .int .i64 x0_1, .int .i64 x0_2, .int .i64 x0_3, .int .i64 x0_4, .int .i64 x0_5, .slice a0_6 n0_6 c0_6, .int .i64 x0_7, .int .i64 x0_8, .int .i64 x0_9, .slice a0_10 n0_10 c0_10], .int .i64 x1, .int .i64 x2] w K (use_vc h (by as_aux_lemma => kernel_rfl))
/-- purser/purserlaw11.RateApart -/
def apart_k1 (K : Value → World → Prop) (x1_0 : Int) (x1_1 : Int) (x1_2 : Int) (x2 : Int) (g : Nat) (g_2 : Nat) (x19_0 : Int) (x19_1 : Int) (x19_2 : Int) (x19_3 : Int) (x19_4 : Int) (x19_5 : Int) (a19_6 : Option Addr) (n19_6 : Nat) (c19_6 : Nat) (x19_7 : Int) (x19_8 : Int) (x19_9 : Int) (a19_10 : Option Addr) (n19_10 : Nat) (c19_10 : Nat) (x85_0_1 : Int) (x85_0_2 : Int) (x85_1 : Int) (g_3 : Nat) (x15 : Int) (g_5 : Nat) (x14_1 : Int) (x14_2 : Int) (x14_3 : Int) (w_21 : World) : Prop :=
  Calls Try.prog 30 #[.agg #[.int .i64 x19_0, .int .i64 x19_1, .int .i64 x19_2, .int .i64 x19_3, .int .i64 x19_4, .int .i64 x19_5, .slice a19_6 n19_6 c19_6, .int .i64 x19_7, .int .i64 x19_8, .int .i64 x19_9, .slice a19_10 n19_10 c19_10]] w_21 fun e_9 w_22 => KeepG [g_5, g_3, g_2, g] w_21 w_22 ∧
  ∃ (x100_0 : Int) (x100_1 : Int) (x100_2 : Int) (x100_3 : Int) (x100_4 : Int) (x100_5 : Int) (a100_6 : Option Addr) (n100_6 : Nat) (c100_6 : Nat) (x100_7 : Int) (x100_8 : Int) (x100_9 : Int) (a100_10 : Option Addr) (n100_10 : Nat) (c100_10 : Nat),
  e_9 = .returned (.agg #[.int .i64 x100_0, .int .i64 x100_1, .int .i64 x100_2, .int .i64 x100_3, .int .i64 x100_4, .int .i64 x100_5, .slice a100_6 n100_6 c100_6, .int .i64 x100_7, .int .i64 x100_8, .int .i64 x100_9, .slice a100_10 n100_10 c100_10]) ∧
  Calls Try.prog 23 #[.agg #[.int .i64 x100_0, .int .i64 x100_1, .int .i64 x100_2, .int .i64 x100_3, .int .i64 x100_4, .int .i64 x100_5, .slice a100_6 n100_6 c100_6, .int .i64 x100_7, .int .i64 x100_8, .int .i64 x100_9, .slice a100_10 n100_10 c100_10], .int .i64 (IntKind.i64.wrap (Int.fdiv (IntKind.u64.wrap x1_0) (2 ^ (min (1 : Int).toNat (IntKind.bits .u64))))), .int .i64 (IntKind.i64.wrap (Int.tmod (IntKind.u64.wrap x1_1) 274877906944)), .int .i64 (IntKind.i64.wrap ((IntKind.i64.wrap ((IntKind.i64.wrap (Int.tmod (IntKind.u64.wrap x1_2) (IntKind.u64.wrap (IntKind.i64.wrap ((IntKind.i64.wrap (Int.tdiv 536870912 x19_5)) + 1))))) * x19_5)) + (IntKind.i64.wrap ((IntKind.i64.wrap (Int.tmod (IntKind.u64.wrap x2) (IntKind.u64.wrap (IntKind.i64.wrap ((IntKind.i64.wrap (Int.tdiv 536870912 x19_5)) + 1))))) * x19_5))))] w_22 fun e_10 w_23 => KeepG [g_5, g_3, g_2, g] w_22 w_23 ∧
  ∃ (a106_0_0 : Option Addr) (n106_0_0 : Nat) (c106_0_0 : Nat) (x106_0_1 : Int) (x106_0_2 : Int) (x106_0_3 : Int) (x106_1 : Int),
  e_10 = .returned (.tuple #[.agg #[.slice a106_0_0 n106_0_0 c106_0_0, .int .i64 x106_0_1, .int .i64 x106_0_2, .int .i64 x106_0_3], .int .i64 x106_1]) ∧
  newO w_23 (.cells #[.slice none 0 0, .int .i64 0, .int .i64 0, .int .i64 0] 53) fun g_6 w_24 =>
  ∀ w_25 : World, BoxSt g_6 w_24 w_25 →
  br (decide (x85_1 = 0)) (
    br (decide (x15 = 0)) (
      br (decide (x106_1 = 0)) (
        br (decide ((IntKind.i64.wrap (x85_0_2 + x14_2)) = x106_0_2)) (
          br (decide (x14_3 = x106_0_3)) (
            K (.bool (decide ((IntKind.i64.wrap (x85_0_1 + x14_1)) = x106_0_1))) w_25
          ) (
            K (.bool false) w_25
          )
        ) (
          K (.bool false) w_25
        )
      ) (
        K (.bool false) w_25
      )
    ) (
      K (.bool false) w_25
    )
  ) (
    K (.bool false) w_25
  )
def apart_vc (x0_0 : Int) (x0_1 : Int) (x0_2 : Int) (x0_3 : Int) (x0_4 : Int) (x0_5 : Int) (a0_6 : Option Addr) (n0_6 : Nat) (c0_6 : Nat) (x0_7 : Int) (x0_8 : Int) (x0_9 : Int) (a0_10 : Option Addr) (n0_10 : Nat) (c0_10 : Nat) (x1_0 : Int) (x1_1 : Int) (x1_2 : Int) (x1_3 : Int) (x2 : Int) (w : World) (K : Value → World → Prop) : Prop :=
  newO w (.cells #[.int .i64 x0_0, .int .i64 x0_1, .int .i64 x0_2, .int .i64 x0_3, .int .i64 x0_4, .int .i64 x0_5, .slice a0_6 n0_6 c0_6, .int .i64 x0_7, .int .i64 x0_8, .int .i64 x0_9, .slice a0_10 n0_10 c0_10] 26) fun g w_2 =>
  newO w_2 (.cells #[.int .i64 x1_0, .int .i64 x1_1, .int .i64 x1_2, .int .i64 x1_3] 66) fun g_2 w_3 =>
  Calls Try.prog 29 #[.agg #[.int .i64 x0_0, .int .i64 x0_1, .int .i64 x0_2, .int .i64 x0_3, .int .i64 x0_4, .int .i64 x0_5, .slice a0_6 n0_6 c0_6, .int .i64 x0_7, .int .i64 x0_8, .int .i64 x0_9, .slice a0_10 n0_10 c0_10]] w_3 fun e w_4 => KeepG [g_2, g] w_3 w_4 ∧
  ∃ (x19_0 : Int) (x19_1 : Int) (x19_2 : Int) (x19_3 : Int) (x19_4 : Int) (x19_5 : Int) (a19_6 : Option Addr) (n19_6 : Nat) (c19_6 : Nat) (x19_7 : Int) (x19_8 : Int) (x19_9 : Int) (a19_10 : Option Addr) (n19_10 : Nat) (c19_10 : Nat),
  e = .returned (.agg #[.int .i64 x19_0, .int .i64 x19_1, .int .i64 x19_2, .int .i64 x19_3, .int .i64 x19_4, .int .i64 x19_5, .slice a19_6 n19_6 c19_6, .int .i64 x19_7, .int .i64 x19_8, .int .i64 x19_9, .slice a19_10 n19_10 c19_10]) ∧
  ∀ w_5 : World, BoxSt g w_4 w_5 →
  ∃ (J : Bool → World → Prop), (
    Calls Try.prog 35 #[] w_5 fun e_2 w_6 => KeepG [g_2, g] w_5 w_6 ∧
    ∃ (b20 : Bool),
    e_2 = .returned (.bool b20) ∧
    br (!b20) (
      J true w_6
    ) (
      Calls Try.prog 14 #[.agg #[.int .i64 x19_0, .int .i64 x19_1, .int .i64 x19_2, .int .i64 x19_3, .int .i64 x19_4, .int .i64 x19_5, .slice a19_6 n19_6 c19_6, .int .i64 x19_7, .int .i64 x19_8, .int .i64 x19_9, .slice a19_10 n19_10 c19_10]] w_6 fun e_3 w_7 => KeepG [g_2, g] w_6 w_7 ∧
      ∃ (x24 : Int),
      e_3 = .returned (.int .i64 x24) ∧
      br (decide (x24 ≠ 0)) (
        J true w_7
      ) (
        br (decide (x19_4 ≠ 1)) (
          J true w_7
        ) (
          br (decide (x19_0 ≠ 0)) (
            J (decide (x19_8 ≠ 1)) w_7
          ) (
            J false w_7
          )
        )
      )
    )
  ) ∧
  ∀ (b43 : Bool) (w_8 : World), J b43 w_8 →
  br b43 (
    Calls Try.prog 35 #[] w_8 fun e_4 w_9 => KeepG [g_2, g] w_8 w_9 ∧
    ∃ (b44 : Bool),
    e_4 = .returned (.bool b44) ∧
    K (.bool b44) w_9
  ) (
    drewO w_8 fun w_10 =>
    (x19_5 : Int) ≠ 0 ∧
    ((IntKind.u64.wrap (IntKind.i64.wrap ((IntKind.i64.wrap (Int.tdiv 536870912 x19_5)) + 1))) : Int) ≠ 0 ∧
    (x19_5 : Int) ≠ 0 ∧
    ((IntKind.u64.wrap (IntKind.i64.wrap ((IntKind.i64.wrap (Int.tdiv 536870912 x19_5)) + 1))) : Int) ≠ 0 ∧
    drewO w_10 fun w_11 =>
    (0 : Int) ≤ 1 ∧
    (274877906944 : Int) ≠ 0 ∧
    Calls Try.prog 30 #[.agg #[.int .i64 x19_0, .int .i64 x19_1, .int .i64 x19_2, .int .i64 x19_3, .int .i64 x19_4, .int .i64 x19_5, .slice a19_6 n19_6 c19_6, .int .i64 x19_7, .int .i64 x19_8, .int .i64 x19_9, .slice a19_10 n19_10 c19_10]] w_11 fun e_5 w_12 => KeepG [g_2, g] w_11 w_12 ∧
    ∃ (x81_0 : Int) (x81_1 : Int) (x81_2 : Int) (x81_3 : Int) (x81_4 : Int) (x81_5 : Int) (a81_6 : Option Addr) (n81_6 : Nat) (c81_6 : Nat) (x81_7 : Int) (x81_8 : Int) (x81_9 : Int) (a81_10 : Option Addr) (n81_10 : Nat) (c81_10 : Nat),
    e_5 = .returned (.agg #[.int .i64 x81_0, .int .i64 x81_1, .int .i64 x81_2, .int .i64 x81_3, .int .i64 x81_4, .int .i64 x81_5, .slice a81_6 n81_6 c81_6, .int .i64 x81_7, .int .i64 x81_8, .int .i64 x81_9, .slice a81_10 n81_10 c81_10]) ∧
    Calls Try.prog 23 #[.agg #[.int .i64 x81_0, .int .i64 x81_1, .int .i64 x81_2, .int .i64 x81_3, .int .i64 x81_4, .int .i64 x81_5, .slice a81_6 n81_6 c81_6, .int .i64 x81_7, .int .i64 x81_8, .int .i64 x81_9, .slice a81_10 n81_10 c81_10], .int .i64 (IntKind.i64.wrap (Int.fdiv (IntKind.u64.wrap x1_0) (2 ^ (min (1 : Int).toNat (IntKind.bits .u64))))), .int .i64 (IntKind.i64.wrap (Int.tmod (IntKind.u64.wrap x1_1) 274877906944)), .int .i64 (IntKind.i64.wrap ((IntKind.i64.wrap (Int.tmod (IntKind.u64.wrap x1_2) (IntKind.u64.wrap (IntKind.i64.wrap ((IntKind.i64.wrap (Int.tdiv 536870912 x19_5)) + 1))))) * x19_5))] w_12 fun e_6 w_13 => KeepG [g_2, g] w_12 w_13 ∧
    ∃ (a85_0_0 : Option Addr) (n85_0_0 : Nat) (c85_0_0 : Nat) (x85_0_1 : Int) (x85_0_2 : Int) (x85_0_3 : Int) (x85_1 : Int),
    e_6 = .returned (.tuple #[.agg #[.slice a85_0_0 n85_0_0 c85_0_0, .int .i64 x85_0_1, .int .i64 x85_0_2, .int .i64 x85_0_3], .int .i64 x85_1]) ∧
    newO w_13 (.cells #[.slice none 0 0, .int .i64 0, .int .i64 0, .int .i64 0] 53) fun g_3 w_14 =>
    ∀ w_15 : World, BoxSt g_3 w_14 w_15 →
    drewO w_15 fun w_16 =>
    (
      Calls Try.prog 30 #[.agg #[.int .i64 x19_0, .int .i64 x19_1, .int .i64 x19_2, .int .i64 x19_3, .int .i64 x19_4, .int .i64 x19_5, .slice a19_6 n19_6 c19_6, .int .i64 x19_7, .int .i64 x19_8, .int .i64 x19_9, .slice a19_10 n19_10 c19_10]] w_16 fun e_7 w_17 => KeepG [g_3, g_2, g] w_16 w_17 ∧
      ∃ (x90_0 : Int) (x90_1 : Int) (x90_2 : Int) (x90_3 : Int) (x90_4 : Int) (x90_5 : Int) (a90_6 : Option Addr) (n90_6 : Nat) (c90_6 : Nat) (x90_7 : Int) (x90_8 : Int) (x90_9 : Int) (a90_10 : Option Addr) (n90_10 : Nat) (c90_10 : Nat),
      e_7 = .returned (.agg #[.int .i64 x90_0, .int .i64 x90_1, .int .i64 x90_2, .int .i64 x90_3, .int .i64 x90_4, .int .i64 x90_5, .slice a90_6 n90_6 c90_6, .int .i64 x90_7, .int .i64 x90_8, .int .i64 x90_9, .slice a90_10 n90_10 c90_10]) ∧
      (
        Calls Try.prog 23 #[.agg #[.int .i64 x90_0, .int .i64 x90_1, .int .i64 x90_2, .int .i64 x90_3, .int .i64 x90_4, .int .i64 x90_5, .slice a90_6 n90_6 c90_6, .int .i64 x90_7, .int .i64 x90_8, .int .i64 x90_9, .slice a90_10 n90_10 c90_10], .int .i64 (IntKind.i64.wrap (Int.fdiv (IntKind.u64.wrap x1_0) (2 ^ (min (1 : Int).toNat (IntKind.bits .u64))))), .int .i64 x85_0_3, .int .i64 (IntKind.i64.wrap ((IntKind.i64.wrap (Int.tmod (IntKind.u64.wrap x2) (IntKind.u64.wrap (IntKind.i64.wrap ((IntKind.i64.wrap (Int.tdiv 536870912 x19_5)) + 1))))) * x19_5))] w_17 fun e_8 w_18 => KeepG [g_3, g_2, g] w_17 w_18 ∧
        ∃ (a95_0_0 : Option Addr) (n95_0_0 : Nat) (c95_0_0 : Nat) (x95_0_1 : Int) (x95_0_2 : Int) (x95_0_3 : Int) (x95_1 : Int),
        e_8 = .returned (.tuple #[.agg #[.slice a95_0_0 n95_0_0 c95_0_0, .int .i64 x95_0_1, .int .i64 x95_0_2, .int .i64 x95_0_3], .int .i64 x95_1]) ∧
        newO w_18 (.cells #[.slice none 0 0, .int .i64 0, .int .i64 0, .int .i64 0] 53) fun g_4 w_19 =>
        ∀ w_20 : World, BoxSt g_4 w_19 w_20 →
        apart_k1 K x1_0 x1_1 x1_2 x2 g g_2 x19_0 x19_1 x19_2 x19_3 x19_4 x19_5 a19_6 n19_6 c19_6 x19_7 x19_8 x19_9 a19_10 n19_10 c19_10 x85_0_1 x85_0_2 x85_1 g_3 x95_1 g_4 x95_0_1 x95_0_2 x95_0_3 w_20
      ) ∧
      (
        newO w_17 (.cells #[.slice none 0 0, .int .i64 0, .int .i64 0, .int .i64 0] 53) fun g_7 w_26 =>
        Calls Try.prog 23 #[.agg #[.int .i64 x90_0, .int .i64 x90_1, .int .i64 x90_2, .int .i64 x90_3, .int .i64 x90_4, .int .i64 x90_5, .slice a90_6 n90_6 c90_6, .int .i64 x90_7, .int .i64 x90_8, .int .i64 x90_9, .slice a90_10 n90_10 c90_10], .int .i64 (IntKind.i64.wrap (Int.fdiv (IntKind.u64.wrap x1_0) (2 ^ (min (1 : Int).toNat (IntKind.bits .u64))))), .int .i64 x85_0_3, .int .i64 (IntKind.i64.wrap ((IntKind.i64.wrap (Int.tmod (IntKind.u64.wrap x2) (IntKind.u64.wrap (IntKind.i64.wrap ((IntKind.i64.wrap (Int.tdiv 536870912 x19_5)) + 1))))) * x19_5))] w_26 fun e_11 w_27 => KeepG [g_7, g_3, g_2, g] w_26 w_27 ∧
        ∃ (a95_0_0_2 : Option Addr) (n95_0_0_2 : Nat) (c95_0_0_2 : Nat) (x95_0_1_2 : Int) (x95_0_2_2 : Int) (x95_0_3_2 : Int) (x95_1_2 : Int),
        e_11 = .returned (.tuple #[.agg #[.slice a95_0_0_2 n95_0_0_2 c95_0_0_2, .int .i64 x95_0_1_2, .int .i64 x95_0_2_2, .int .i64 x95_0_3_2], .int .i64 x95_1_2]) ∧
        ∀ w_28 : World, BoxSt g_7 w_27 w_28 →
        apart_k1 K x1_0 x1_1 x1_2 x2 g g_2 x19_0 x19_1 x19_2 x19_3 x19_4 x19_5 a19_6 n19_6 c19_6 x19_7 x19_8 x19_9 a19_10 n19_10 c19_10 x85_0_1 x85_0_2 x85_1 g_3 x95_1_2 g_7 x95_0_1_2 x95_0_2_2 x95_0_3_2 w_28
      )
    ) ∧
    (
      newO w_16 (.cells #[.slice none 0 0, .int .i64 0, .int .i64 0, .int .i64 0] 53) fun g_8 w_29 =>
      Calls Try.prog 30 #[.agg #[.int .i64 x19_0, .int .i64 x19_1, .int .i64 x19_2, .int .i64 x19_3, .int .i64 x19_4, .int .i64 x19_5, .slice a19_6 n19_6 c19_6, .int .i64 x19_7, .int .i64 x19_8, .int .i64 x19_9, .slice a19_10 n19_10 c19_10]] w_29 fun e_12 w_30 => KeepG [g_8, g_3, g_2, g] w_29 w_30 ∧
      ∃ (x90_0_2 : Int) (x90_1_2 : Int) (x90_2_2 : Int) (x90_3_2 : Int) (x90_4_2 : Int) (x90_5_2 : Int) (a90_6_2 : Option Addr) (n90_6_2 : Nat) (c90_6_2 : Nat) (x90_7_2 : Int) (x90_8_2 : Int) (x90_9_2 : Int) (a90_10_2 : Option Addr) (n90_10_2 : Nat) (c90_10_2 : Nat),
      e_12 = .returned (.agg #[.int .i64 x90_0_2, .int .i64 x90_1_2, .int .i64 x90_2_2, .int .i64 x90_3_2, .int .i64 x90_4_2, .int .i64 x90_5_2, .slice a90_6_2 n90_6_2 c90_6_2, .int .i64 x90_7_2, .int .i64 x90_8_2, .int .i64 x90_9_2, .slice a90_10_2 n90_10_2 c90_10_2]) ∧
      Calls Try.prog 23 #[.agg #[.int .i64 x90_0_2, .int .i64 x90_1_2, .int .i64 x90_2_2, .int .i64 x90_3_2, .int .i64 x90_4_2, .int .i64 x90_5_2, .slice a90_6_2 n90_6_2 c90_6_2, .int .i64 x90_7_2, .int .i64 x90_8_2, .int .i64 x90_9_2, .slice a90_10_2 n90_10_2 c90_10_2], .int .i64 (IntKind.i64.wrap (Int.fdiv (IntKind.u64.wrap x1_0) (2 ^ (min (1 : Int).toNat (IntKind.bits .u64))))), .int .i64 x85_0_3, .int .i64 (IntKind.i64.wrap ((IntKind.i64.wrap (Int.tmod (IntKind.u64.wrap x2) (IntKind.u64.wrap (IntKind.i64.wrap ((IntKind.i64.wrap (Int.tdiv 536870912 x19_5)) + 1))))) * x19_5))] w_30 fun e_13 w_31 => KeepG [g_8, g_3, g_2, g] w_30 w_31 ∧
      ∃ (a95_0_0_3 : Option Addr) (n95_0_0_3 : Nat) (c95_0_0_3 : Nat) (x95_0_1_3 : Int) (x95_0_2_3 : Int) (x95_0_3_3 : Int) (x95_1_3 : Int),
      e_13 = .returned (.tuple #[.agg #[.slice a95_0_0_3 n95_0_0_3 c95_0_0_3, .int .i64 x95_0_1_3, .int .i64 x95_0_2_3, .int .i64 x95_0_3_3], .int .i64 x95_1_3]) ∧
      ∀ w_32 : World, BoxSt g_8 w_31 w_32 →
      apart_k1 K x1_0 x1_1 x1_2 x2 g g_2 x19_0 x19_1 x19_2 x19_3 x19_4 x19_5 a19_6 n19_6 c19_6 x19_7 x19_8 x19_9 a19_10 n19_10 c19_10 x85_0_1 x85_0_2 x85_1 g_3 x95_1_3 g_8 x95_0_1_3 x95_0_2_3 x95_0_3_3 w_32
    )
  )
def apart_notes : Notes := ⟨[(5, ⟨[0, 1, 3, 0, 8, 24, 56, 127, 255, 0, 1023, 0, 2048, 0, 8192, 24576, 57344, 129024, 260096, 0, 1046528, 2047, 4194303], [], [0, 1, 2, 3, 4, 5, 6, 7, 8, 9, 10, 11, 12, 13, 14, 15, 16, 17, 18, 19, 20, 21, 22]⟩), (6, ⟨[0, 1, 3, 7, 15, 0, 32, 96, 224, 480, 31, 2047], [], [0, 1, 2, 3, 4, 5, 6, 7, 8, 9, 10, 11]⟩), (8, ⟨[0, 1, 0, 0, 8, 0, 63, 127, 255, 255, 0, 1535, 4095], [1, 6, 10, 11], [0, 2, 3, 4, 5, 7, 8, 9, 12]⟩)], [], [((0, 2), ⟨[(43, .lf (.bool))], [], [20, 21, 22, 23, 24, 25, 26, 27, 28, 29, 30, 31, 32, 33, 34, 35, 36, 37, 38, 39, 40, 41, 42, 43], []⟩)]⟩
theorem apart_calls (x0_0 : Int) (x0_1 : Int) (x0_2 : Int) (x0_3 : Int) (x0_4 : Int) (x0_5 : Int) (a0_6 : Option Addr) (n0_6 : Nat) (c0_6 : Nat) (x0_7 : Int) (x0_8 : Int) (x0_9 : Int) (a0_10 : Option Addr) (n0_10 : Nat) (c0_10 : Nat) (x1_0 : Int) (x1_1 : Int) (x1_2 : Int) (x1_3 : Int) (x2 : Int) (w : World) (K : Value → World → Prop) (h : apart_vc x0_0 x0_1 x0_2 x0_3 x0_4 x0_5 a0_6 n0_6 c0_6 x0_7 x0_8 x0_9 a0_10 n0_10 c0_10 x1_0 x1_1 x1_2 x1_3 x2 w K) : Calls Try.prog 9 #[.agg #[.int .i64 x0_0, .int .i64 x0_1, .int .i64 x0_2, .int .i64 x0_3, .int .i64 x0_4, .int .i64 x0_5, .slice a0_6 n0_6 c0_6, .int .i64 x0_7, .int .i64 x0_8, .int .i64 x0_9, .slice a0_10 n0_10 c0_10], .agg #[.int .i64 x1_0, .int .i64 x1_1, .int .i64 x1_2, .int .i64 x1_3], .int .i64 x2] w fun e w' => ∃ v, e = .returned v ∧ K v w' :=
  calls_of_fvc envOk Try.func9 apart_notes [3, 4, 12, 14, 16] [.agg #[.int .i64 x0_0, .int .i64 x0_1, .int .i64 x0_2, .int .i64 x0_3, .int .i64 x0_4, .int .i64 x0_5, .slice a0_6 n0_6 c0_6, .int .i64 x0_7, .int .i64 x0_8, .int .i64 x0_9, .slice a0_10 n0_10 c0_10], .agg #[.int .i64 x1_0, .int .i64 x1_1, .int .i64 x1_2, .int .i64 x1_3], .int .i64 x2] w K (use_vc h (by as_aux_lemma => kernel_rfl))
/-- purser/purserlaw11.RateSteady -/
def steady_k1 (K : Value → World → Prop) (g : Nat) (g_2 : Nat) (x8 : Int) (g_4 : Nat) (a7_0 : Option Addr) (n7_0 : Nat) (c7_0 : Nat) (x7_1 : Int) (x7_2 : Int) (x10 : Int) (g_6 : Nat) (a9_0 : Option Addr) (n9_0 : Nat) (c9_0 : Nat) (x9_1 : Int) (x9_2 : Int) (w_25 : World) : Prop :=
  br (decide (x8 = x10)) (
    br (decide (x7_2 = x9_2)) (
      br (decide (x7_1 = x9_1)) (
        Calls Try.prog 36 #[.slice a7_0 n7_0 c7_0, .slice a9_0 n9_0 c9_0] w_25 fun e_11 w_26 => KeepG [g_6, g_4, g_2, g] w_25 w_26 ∧
        ∃ (b85 : Bool),
        e_11 = .returned (.bool b85) ∧
        K (.bool b85) w_26
      ) (
        K (.bool false) w_25
      )
    ) (
      K (.bool false) w_25
    )
  ) (
    K (.bool false) w_25
  )
def steady_k2 (K : Value → World → Prop) (x1_1 : Int) (x1_2 : Int) (x2 : Int) (g : Nat) (g_2 : Nat) (x12_0 : Int) (x12_1 : Int) (x12_2 : Int) (x12_3 : Int) (x12_4 : Int) (x12_5 : Int) (a12_6 : Option Addr) (n12_6 : Nat) (c12_6 : Nat) (x12_7 : Int) (x12_8 : Int) (x12_9 : Int) (a12_10 : Option Addr) (n12_10 : Nat) (c12_10 : Nat) (x8 : Int) (g_4 : Nat) (a7_0 : Option Addr) (n7_0 : Nat) (c7_0 : Nat) (x7_1 : Int) (x7_2 : Int) (w_19 : World) : Prop :=
  drewO w_19 fun w_20 =>
  (
    Calls Try.prog 30 #[.agg #[.int .i64 x12_0, .int .i64 x12_1, .int .i64 x12_2, .int .i64 x12_3, .int .i64 x12_4, .int .i64 x12_5, .slice a12_6 n12_6 c12_6, .int .i64 x12_7, .int .i64 x12_8, .int .i64 x12_9, .slice a12_10 n12_10 c12_10]] w_20 fun e_9 w_21 => KeepG [g_4, g_2, g] w_20 w_21 ∧
    ∃ (x54_0 : Int) (x54_1 : Int) (x54_2 : Int) (x54_3 : Int) (x54_4 : Int) (x54_5 : Int) (a54_6 : Option Addr) (n54_6 : Nat) (c54_6 : Nat) (x54_7 : Int) (x54_8 : Int) (x54_9 : Int) (a54_10 : Option Addr) (n54_10 : Nat) (c54_10 : Nat),
    e_9 = .returned (.agg #[.int .i64 x54_0, .int .i64 x54_1, .int .i64 x54_2, .int .i64 x54_3, .int .i64 x54_4, .int .i64 x54_5, .slice a54_6 n54_6 c54_6, .int .i64 x54_7, .int .i64 x54_8, .int .i64 x54_9, .slice a54_10 n54_10 c54_10]) ∧
    (
      Calls Try.prog 23 #[.agg #[.int .i64 x54_0, .int .i64 x54_1, .int .i64 x54_2, .int .i64 x54_3, .int .i64 x54_4, .int .i64 x54_5, .slice a54_6 n54_6 c54_6, .int .i64 x54_7, .int .i64 x54_8, .int .i64 x54_9, .slice a54_10 n54_10 c54_10], .int .i64 x2, .int .i64 x1_1, .int .i64 x1_2] w_21 fun e_10 w_22 => KeepG [g_4, g_2, g] w_21 w_22 ∧
      ∃ (a60_0_0 : Option Addr) (n60_0_0 : Nat) (c60_0_0 : Nat) (x60_0_1 : Int) (x60_0_2 : Int) (x60_0_3 : Int) (x60_1 : Int),
      e_10 = .returned (.tuple #[.agg #[.slice a60_0_0 n60_0_0 c60_0_0, .int .i64 x60_0_1, .int .i64 x60_0_2, .int .i64 x60_0_3], .int .i64 x60_1]) ∧
      newO w_22 (.cells #[.slice none 0 0, .int .i64 0, .int .i64 0, .int .i64 0] 53) fun g_5 w_23 =>
      ∀ w_24 : World, BoxSt g_5 w_23 w_24 →
      steady_k1 K g g_2 x8 g_4 a7_0 n7_0 c7_0 x7_1 x7_2 x60_1 g_5 a60_0_0 n60_0_0 c60_0_0 x60_0_1 x60_0_2 w_24
    ) ∧
    (
      newO w_21 (.cells #[.slice none 0 0, .int .i64 0, .int .i64 0, .int .i64 0] 53) fun g_7 w_27 =>
      Calls Try.prog 23 #[.agg #[.int .i64 x54_0, .int .i64 x54_1, .int .i64 x54_2, .int .i64 x54_3, .int .i64 x54_4, .int .i64 x54_5, .slice a54_6 n54_6 c54_6, .int .i64 x54_7, .int .i64 x54_8, .int .i64 x54_9, .slice a54_10 n54_10 c54_10], .int .i64 x2, .int .i64 x1_1, .int .i64 x1_2] w_27 fun e_12 w_28 => KeepG [g_7, g_4, g_2, g] w_27 w_28 ∧
      ∃ (a60_0_0_2 : Option Addr) (n60_0_0_2 : Nat) (c60_0_0_2 : Nat) (x60_0_1_2 : Int) (x60_0_2_2 : Int) (x60_0_3_2 : Int) (x60_1_2 : Int),
      e_12 = .returned (.tuple #[.agg #[.slice a60_0_0_2 n60_0_0_2 c60_0_0_2, .int .i64 x60_0_1_2, .int .i64 x60_0_2_2, .int .i64 x60_0_3_2], .int .i64 x60_1_2]) ∧
      ∀ w_29 : World, BoxSt g_7 w_28 w_29 →
      steady_k1 K g g_2 x8 g_4 a7_0 n7_0 c7_0 x7_1 x7_2 x60_1_2 g_7 a60_0_0_2 n60_0_0_2 c60_0_0_2 x60_0_1_2 x60_0_2_2 w_29
    )
  ) ∧
  (
    newO w_20 (.cells #[.slice none 0 0, .int .i64 0, .int .i64 0, .int .i64 0] 53) fun g_8 w_30 =>
    Calls Try.prog 30 #[.agg #[.int .i64 x12_0, .int .i64 x12_1, .int .i64 x12_2, .int .i64 x12_3, .int .i64 x12_4, .int .i64 x12_5, .slice a12_6 n12_6 c12_6, .int .i64 x12_7, .int .i64 x12_8, .int .i64 x12_9, .slice a12_10 n12_10 c12_10]] w_30 fun e_13 w_31 => KeepG [g_8, g_4, g_2, g] w_30 w_31 ∧
    ∃ (x54_0_2 : Int) (x54_1_2 : Int) (x54_2_2 : Int) (x54_3_2 : Int) (x54_4_2 : Int) (x54_5_2 : Int) (a54_6_2 : Option Addr) (n54_6_2 : Nat) (c54_6_2 : Nat) (x54_7_2 : Int) (x54_8_2 : Int) (x54_9_2 : Int) (a54_10_2 : Option Addr) (n54_10_2 : Nat) (c54_10_2 : Nat),
    e_13 = .returned (.agg #[.int .i64 x54_0_2, .int .i64 x54_1_2, .int .i64 x54_2_2, .int .i64 x54_3_2, .int .i64 x54_4_2, .int .i64 x54_5_2, .slice a54_6_2 n54_6_2 c54_6_2, .int .i64 x54_7_2, .int .i64 x54_8_2, .int .i64 x54_9_2, .slice a54_10_2 n54_10_2 c54_10_2]) ∧
    Calls Try.prog 23 #[.agg #[.int .i64 x54_0_2, .int .i64 x54_1_2, .int .i64 x54_2_2, .int .i64 x54_3_2, .int .i64 x54_4_2, .int .i64 x54_5_2, .slice a54_6_2 n54_6_2 c54_6_2, .int .i64 x54_7_2, .int .i64 x54_8_2, .int .i64 x54_9_2, .slice a54_10_2 n54_10_2 c54_10_2], .int .i64 x2, .int .i64 x1_1, .int .i64 x1_2] w_31 fun e_14 w_32 => KeepG [g_8, g_4, g_2, g] w_31 w_32 ∧
    ∃ (a60_0_0_3 : Option Addr) (n60_0_0_3 : Nat) (c60_0_0_3 : Nat) (x60_0_1_3 : Int) (x60_0_2_3 : Int) (x60_0_3_3 : Int) (x60_1_3 : Int),
    e_14 = .returned (.tuple #[.agg #[.slice a60_0_0_3 n60_0_0_3 c60_0_0_3, .int .i64 x60_0_1_3, .int .i64 x60_0_2_3, .int .i64 x60_0_3_3], .int .i64 x60_1_3]) ∧
    ∀ w_33 : World, BoxSt g_8 w_32 w_33 →
    steady_k1 K g g_2 x8 g_4 a7_0 n7_0 c7_0 x7_1 x7_2 x60_1_3 g_8 a60_0_0_3 n60_0_0_3 c60_0_0_3 x60_0_1_3 x60_0_2_3 w_33
  )
def steady_vc (x0_0 : Int) (x0_1 : Int) (x0_2 : Int) (x0_3 : Int) (x0_4 : Int) (x0_5 : Int) (a0_6 : Option Addr) (n0_6 : Nat) (c0_6 : Nat) (x0_7 : Int) (x0_8 : Int) (x0_9 : Int) (a0_10 : Option Addr) (n0_10 : Nat) (c0_10 : Nat) (x1_0 : Int) (x1_1 : Int) (x1_2 : Int) (x1_3 : Int) (x2 : Int) (w : World) (K : Value → World → Prop) : Prop :=
  newO w (.cells #[.int .i64 x0_0, .int .i64 x0_1, .int .i64 x0_2, .int .i64 x0_3, .int .i64 x0_4, .int .i64 x0_5, .slice a0_6 n0_6 c0_6, .int .i64 x0_7, .int .i64 x0_8, .int .i64 x0_9, .slice a0_10 n0_10 c0_10] 26) fun g w_2 =>
  newO w_2 (.cells #[.int .i64 x1_0, .int .i64 x1_1, .int .i64 x1_2, .int .i64 x1_3] 66) fun g_2 w_3 =>
  Calls Try.prog 29 #[.agg #[.int .i64 x0_0, .int .i64 x0_1, .int .i64 x0_2, .int .i64 x0_3, .int .i64 x0_4, .int .i64 x0_5, .slice a0_6 n0_6 c0_6, .int .i64 x0_7, .int .i64 x0_8, .int .i64 x0_9, .slice a0_10 n0_10 c0_10]] w_3 fun e w_4 => KeepG [g_2, g] w_3 w_4 ∧
  ∃ (x12_0 : Int) (x12_1 : Int) (x12_2 : Int) (x12_3 : Int) (x12_4 : Int) (x12_5 : Int) (a12_6 : Option Addr) (n12_6 : Nat) (c12_6 : Nat) (x12_7 : Int) (x12_8 : Int) (x12_9 : Int) (a12_10 : Option Addr) (n12_10 : Nat) (c12_10 : Nat),
  e = .returned (.agg #[.int .i64 x12_0, .int .i64 x12_1, .int .i64 x12_2, .int .i64 x12_3, .int .i64 x12_4, .int .i64 x12_5, .slice a12_6 n12_6 c12_6, .int .i64 x12_7, .int .i64 x12_8, .int .i64 x12_9, .slice a12_10 n12_10 c12_10]) ∧
  ∀ w_5 : World, BoxSt g w_4 w_5 →
  ∃ (J : Bool → World → Prop), (
    drewO w_5 fun w_6 =>
    Calls Try.prog 35 #[] w_6 fun e_2 w_7 => KeepG [g_2, g] w_6 w_7 ∧
    ∃ (b13 : Bool),
    e_2 = .returned (.bool b13) ∧
    br (!b13) (
      J true w_7
    ) (
      Calls Try.prog 14 #[.agg #[.int .i64 x12_0, .int .i64 x12_1, .int .i64 x12_2, .int .i64 x12_3, .int .i64 x12_4, .int .i64 x12_5, .slice a12_6 n12_6 c12_6, .int .i64 x12_7, .int .i64 x12_8, .int .i64 x12_9, .slice a12_10 n12_10 c12_10]] w_7 fun e_3 w_9 => KeepG [g_2, g] w_7 w_9 ∧
      ∃ (x17 : Int),
      e_3 = .returned (.int .i64 x17) ∧
      br (decide (x17 ≠ 0)) (
        J true w_9
      ) (
        br (decide (x1_0 < 0)) (
          J true w_9
        ) (
          br (decide (x2 < 0)) (
            J true w_9
          ) (
            Calls Try.prog 38 #[.agg #[.int .i64 x12_0, .int .i64 x12_1, .int .i64 x12_2, .int .i64 x12_3, .int .i64 x12_4, .int .i64 x12_5, .slice a12_6 n12_6 c12_6, .int .i64 x12_7, .int .i64 x12_8, .int .i64 x12_9, .slice a12_10 n12_10 c12_10], .int .i64 x1_0] w_9 fun e_4 w_10 => KeepG [g_2, g] w_9 w_10 ∧
            ∃ (b33 : Bool),
            e_4 = .returned (.bool b33) ∧
            Calls Try.prog 38 #[.agg #[.int .i64 x12_0, .int .i64 x12_1, .int .i64 x12_2, .int .i64 x12_3, .int .i64 x12_4, .int .i64 x12_5, .slice a12_6 n12_6 c12_6, .int .i64 x12_7, .int .i64 x12_8, .int .i64 x12_9, .slice a12_10 n12_10 c12_10], .int .i64 x2] w_10 fun e_5 w_11 => KeepG [g_2, g] w_10 w_11 ∧
            ∃ (b36 : Bool),
            e_5 = .returned (.bool b36) ∧
            J (decide (b33 ≠ b36)) w_11
          )
        )
      )
    )
  ) ∧
  ∀ (b38 : Bool) (w_12 : World), J b38 w_12 →
  br b38 (
    Calls Try.prog 35 #[] w_12 fun e_6 w_13 => KeepG [g_2, g] w_12 w_13 ∧
    ∃ (b39 : Bool),
    e_6 = .returned (.bool b39) ∧
    K (.bool b39) w_13
  ) (
    drewO w_12 fun w_14 =>
    (
      Calls Try.prog 30 #[.agg #[.int .i64 x12_0, .int .i64 x12_1, .int .i64 x12_2, .int .i64 x12_3, .int .i64 x12_4, .int .i64 x12_5, .slice a12_6 n12_6 c12_6, .int .i64 x12_7, .int .i64 x12_8, .int .i64 x12_9, .slice a12_10 n12_10 c12_10]] w_14 fun e_7 w_15 => KeepG [g_2, g] w_14 w_15 ∧
      ∃ (x42_0 : Int) (x42_1 : Int) (x42_2 : Int) (x42_3 : Int) (x42_4 : Int) (x42_5 : Int) (a42_6 : Option Addr) (n42_6 : Nat) (c42_6 : Nat) (x42_7 : Int) (x42_8 : Int) (x42_9 : Int) (a42_10 : Option Addr) (n42_10 : Nat) (c42_10 : Nat),
      e_7 = .returned (.agg #[.int .i64 x42_0, .int .i64 x42_1, .int .i64 x42_2, .int .i64 x42_3, .int .i64 x42_4, .int .i64 x42_5, .slice a42_6 n42_6 c42_6, .int .i64 x42_7, .int .i64 x42_8, .int .i64 x42_9, .slice a42_10 n42_10 c42_10]) ∧
      (
        Calls Try.prog 23 #[.agg #[.int .i64 x42_0, .int .i64 x42_1, .int .i64 x42_2, .int .i64 x42_3, .int .i64 x42_4, .int .i64 x42_5, .slice a42_6 n42_6 c42_6, .int .i64 x42_7, .int .i64 x42_8, .int .i64 x42_9, .slice a42_10 n42_10 c42_10], .int .i64 x1_0, .int .i64 x1_1, .int .i64 x1_2] w_15 fun e_8 w_16 => KeepG [g_2, g] w_15 w_16 ∧
        ∃ (a49_0_0 : Option Addr) (n49_0_0 : Nat) (c49_0_0 : Nat) (x49_0_1 : Int) (x49_0_2 : Int) (x49_0_3 : Int) (x49_1 : Int),
        e_8 = .returned (.tuple #[.agg #[.slice a49_0_0 n49_0_0 c49_0_0, .int .i64 x49_0_1, .int .i64 x49_0_2, .int .i64 x49_0_3], .int .i64 x49_1]) ∧
        newO w_16 (.cells #[.slice none 0 0, .int .i64 0, .int .i64 0, .int .i64 0] 53) fun g_3 w_17 =>
        ∀ w_18 : World, BoxSt g_3 w_17 w_18 →
        steady_k2 K x1_1 x1_2 x2 g g_2 x12_0 x12_1 x12_2 x12_3 x12_4 x12_5 a12_6 n12_6 c12_6 x12_7 x12_8 x12_9 a12_10 n12_10 c12_10 x49_1 g_3 a49_0_0 n49_0_0 c49_0_0 x49_0_1 x49_0_2 w_18
      ) ∧
      (
        newO w_15 (.cells #[.slice none 0 0, .int .i64 0, .int .i64 0, .int .i64 0] 53) fun g_9 w_34 =>
        Calls Try.prog 23 #[.agg #[.int .i64 x42_0, .int .i64 x42_1, .int .i64 x42_2, .int .i64 x42_3, .int .i64 x42_4, .int .i64 x42_5, .slice a42_6 n42_6 c42_6, .int .i64 x42_7, .int .i64 x42_8, .int .i64 x42_9, .slice a42_10 n42_10 c42_10], .int .i64 x1_0, .int .i64 x1_1, .int .i64 x1_2] w_34 fun e_15 w_35 => KeepG [g_9, g_2, g] w_34 w_35 ∧
        ∃ (a49_0_0_2 : Option Addr) (n49_0_0_2 : Nat) (c49_0_0_2 : Nat) (x49_0_1_2 : Int) (x49_0_2_2 : Int) (x49_0_3_2 : Int) (x49_1_2 : Int),
        e_15 = .returned (.tuple #[.agg #[.slice a49_0_0_2 n49_0_0_2 c49_0_0_2, .int .i64 x49_0_1_2, .int .i64 x49_0_2_2, .int .i64 x49_0_3_2], .int .i64 x49_1_2]) ∧
        ∀ w_36 : World, BoxSt g_9 w_35 w_36 →
        steady_k2 K x1_1 x1_2 x2 g g_2 x12_0 x12_1 x12_2 x12_3 x12_4 x12_5 a12_6 n12_6 c12_6 x12_7 x12_8 x12_9 a12_10 n12_10 c12_10 x49_1_2 g_9 a49_0_0_2 n49_0_0_2 c49_0_0_2 x49_0_1_2 x49_0_2_2 w_36
      )
    ) ∧
    (
      newO w_14 (.cells #[.slice none 0 0, .int .i64 0, .int .i64 0, .int .i64 0] 53) fun g_10 w_37 =>
      Calls Try.prog 30 #[.agg #[.int .i64 x12_0, .int .i64 x12_1, .int .i64 x12_2, .int .i64 x12_3, .int .i64 x12_4, .int .i64 x12_5, .slice a12_6 n12_6 c12_6, .int .i64 x12_7, .int .i64 x12_8, .int .i64 x12_9, .slice a12_10 n12_10 c12_10]] w_37 fun e_16 w_38 => KeepG [g_10, g_2, g] w_37 w_38 ∧
      ∃ (x42_0_2 : Int) (x42_1_2 : Int) (x42_2_2 : Int) (x42_3_2 : Int) (x42_4_2 : Int) (x42_5_2 : Int) (a42_6_2 : Option Addr) (n42_6_2 : Nat) (c42_6_2 : Nat) (x42_7_2 : Int) (x42_8_2 : Int) (x42_9_2 : Int) (a42_10_2 : Option Addr) (n42_10_2 : Nat) (c42_10_2 : Nat),
      e_16 = .returned (.agg #[.int .i64 x42_0_2, .int .i64 x42_1_2, .int .i64 x42_2_2, .int .i64 x42_3_2, .int .i64 x42_4_2, .int .i64 x42_5_2, .slice a42_6_2 n42_6_2 c42_6_2, .int .i64 x42_7_2, .int .i64 x42_8_2, .int .i64 x42_9_2, .slice a42_10_2 n42_10_2 c42_10_2]) ∧
      Calls Try.prog 23 #[.agg #[.int .i64 x42_0_2, .int .i64 x42_1_2, .int .i64 x42_2_2, .int .i64 x42_3_2, .int .i64 x42_4_2, .int .i64 x42_5_2, .slice a42_6_2 n42_6_2 c42_6_2, .int .i64 x42_7_2, .int .i64 x42_8_2, .int .i64 x42_9_2, .slice a42_10_2 n42_10_2 c42_10_2], .int .i64 x1_0, .int .i64 x1_1, .int .i64 x1_2] w_38 fun e_17 w_39 => KeepG [g_10, g_2, g] w_38 w_39 ∧
      ∃ (a49_0_0_3 : Option Addr) (n49_0_0_3 : Nat) (c49_0_0_3 : Nat) (x49_0_1_3 : Int) (x49_0_2_3 : Int) (x49_0_3_3 : Int) (x49_1_3 : Int),
      e_17 = .returned (.tuple #[.agg #[.slice a49_0_0_3 n49_0_0_3 c49_0_0_3, .int .i64 x49_0_1_3, .int .i64 x49_0_2_3, .int .i64 x49_0_3_3], .int .i64 x49_1_3]) ∧
      ∀ w_40 : World, BoxSt g_10 w_39 w_40 →
      steady_k2 K x1_1 x1_2 x2 g g_2 x12_0 x12_1 x12_2 x12_3 x12_4 x12_5 a12_6 n12_6 c12_6 x12_7 x12_8 x12_9 a12_10 n12_10 c12_10 x49_1_3 g_10 a49_0_0_3 n49_0_0_3 c49_0_0_3 x49_0_1_3 x49_0_2_3 w_40
    )
  )
def steady_notes : Notes := ⟨[(2, ⟨[0, 1, 3, 7, 15, 31, 63, 127, 255, 511, 1023, 2047, 4095, 8191, 16383, 32767, 65535, 131071, 131071, 393215, 1048575, 131071, 131071, 8388607, 16777215, 33554431], [0, 4, 20, 23], [1, 2, 3, 5, 6, 7, 8, 9, 10, 11, 12, 13, 14, 15, 16, 17, 18, 19, 21, 22, 24, 25]⟩), (4, ⟨[0, 1, 0, 4, 0, 16, 0, 64, 255, 511, 1023, 1023, 0, 6143, 16383], [1, 8, 12, 13], [0, 2, 3, 4, 5, 6, 7, 9, 10, 11, 14]⟩), (5, ⟨[0, 1, 0, 0, 8, 0, 32, 127, 255, 511, 511, 0, 3071, 8191], [1, 7, 11, 12], [0, 2, 3, 4, 5, 6, 8, 9, 10, 13]⟩)], [], [((0, 2), ⟨[(38, .lf (.bool))], [], [13, 14, 15, 16, 17, 18, 19, 20, 21, 22, 23, 24, 25, 26, 27, 28, 29, 30, 31, 32, 33, 34, 35, 36, 37, 38], []⟩)]⟩
theorem steady_calls (x0_0 : Int) (x0_1 : Int) (x0_2 : Int) (x0_3 : Int) (x0_4 : Int) (x0_5 : Int) (a0_6 : Option Addr) (n0_6 : Nat) (c0_6 : Nat) (x0_7 : Int) (x0_8 : Int) (x0_9 : Int) (a0_10 : Option Addr) (n0_10 : Nat) (c0_10 : Nat) (x1_0 : Int) (x1_1 : Int) (x1_2 : Int) (x1_3 : Int) (x2 : Int) (w : World) (K : Value → World → Prop) (h : steady_vc x0_0 x0_1 x0_2 x0_3 x0_4 x0_5 a0_6 n0_6 c0_6 x0_7 x0_8 x0_9 a0_10 n0_10 c0_10 x1_0 x1_1 x1_2 x1_3 x2 w K) : Calls Try.prog 10 #[.agg #[.int .i64 x0_0, .int .i64 x0_1, .int .i64 x0_2, .int .i64 x0_3, .int .i64 x0_4, .int .i64 x0_5, .slice a0_6 n0_6 c0_6, .int .i64 x0_7, .int .i64 x0_8, .int .i64 x0_9, .slice a0_10 n0_10 c0_10], .agg #[.int .i64 x1_0, .int .i64 x1_1, .int .i64 x1_2, .int .i64 x1_3], .int .i64 x2] w fun e w' => ∃ v, e = .returned v ∧ K v w' :=
  calls_of_fvc envOk Try.func10 steady_notes [3, 4, 7, 9] [.agg #[.int .i64 x0_0, .int .i64 x0_1, .int .i64 x0_2, .int .i64 x0_3, .int .i64 x0_4, .int .i64 x0_5, .slice a0_6 n0_6 c0_6, .int .i64 x0_7, .int .i64 x0_8, .int .i64 x0_9, .slice a0_10 n0_10 c0_10], .agg #[.int .i64 x1_0, .int .i64 x1_1, .int .i64 x1_2, .int .i64 x1_3], .int .i64 x2] w K (use_vc h (by as_aux_lemma => kernel_rfl))
end GRateL
end Go.Proofs.Ytecmpjccdhmeeaa
end
