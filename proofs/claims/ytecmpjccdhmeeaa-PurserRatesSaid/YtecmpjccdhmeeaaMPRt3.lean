import Derived.Test.YtecmpjccdhmeeaaProg
import Derived.Test.YtecmpjccdhmeeaaMPRt2
import Derived.Test.YtecmpjccdhmeeaaMPRt1
import Derived.ProofKit
import Derived.Deep.Matrix
import Derived.Deep.Slices
import Derived.OpenShut
set_option linter.unusedVariables false
section
/- Conditions of functions, printed by a program of this claim's own (vcgen.py) out of the loaded code; each is proved to be enough. -/
set_option maxRecDepth 100000
namespace Go.Proofs.Ytecmpjccdhmeeaa
open Go.RowKit
namespace GTar
def env : Env := ⟨[(3, ⟨.int .i64, 1, .int .i64 0, 8, [.int .i64]⟩), (4, ⟨.bool, 1, .bool false, 1, [.bool]⟩), (22, ⟨.slice 120, 1, .slice none 0 0, 24, [.slice]⟩), (24, ⟨.struct [(0, 3), (1, 3), (2, 3), (3, 22)], 4, .agg #[.int .i64 0, .int .i64 0, .int .i64 0, .slice none 0 0], 48, [.int .i64, .int .i64, .int .i64, .slice]⟩), (26, ⟨.struct [(0, 3), (1, 3), (2, 3), (3, 24), (7, 24)], 11, .agg #[.int .i64 0, .int .i64 0, .int .i64 0, .int .i64 0, .int .i64 0, .int .i64 0, .slice none 0 0, .int .i64 0, .int .i64 0, .int .i64 0, .slice none 0 0], 120, [.int .i64, .int .i64, .int .i64, .int .i64, .int .i64, .int .i64, .slice, .int .i64, .int .i64, .int .i64, .slice]⟩), (32, ⟨.struct [(0, 3), (1, 3), (2, 3), (3, 24), (7, 24)], 11, .agg #[.int .i64 0, .int .i64 0, .int .i64 0, .int .i64 0, .int .i64 0, .int .i64 0, .slice none 0 0, .int .i64 0, .int .i64 0, .int .i64 0, .slice none 0 0], 120, [.int .i64, .int .i64, .int .i64, .int .i64, .int .i64, .int .i64, .slice, .int .i64, .int .i64, .int .i64, .slice]⟩), (45, ⟨.slice 3, 1, .slice none 0 0, 24, [.slice]⟩), (50, ⟨.int .u64, 1, .int .u64 0, 8, [.int .u64]⟩), (51, ⟨.slice 116, 1, .slice none 0 0, 24, [.slice]⟩), (53, ⟨.struct [(0, 51), (1, 3), (2, 3), (3, 3)], 4, .agg #[.slice none 0 0, .int .i64 0, .int .i64 0, .int .i64 0], 48, [.slice, .int .i64, .int .i64, .int .i64]⟩), (67, ⟨.struct [(0, 51), (1, 3), (2, 3), (3, 3)], 4, .agg #[.slice none 0 0, .int .i64 0, .int .i64 0, .int .i64 0], 48, [.slice, .int .i64, .int .i64, .int .i64]⟩), (116, ⟨.struct [(0, 3), (1, 3), (2, 3)], 3, .agg #[.int .i64 0, .int .i64 0, .int .i64 0], 24, [.int .i64, .int .i64, .int .i64]⟩), (120, ⟨.struct [(0, 3), (1, 3)], 2, .agg #[.int .i64 0, .int .i64 0], 16, [.int .i64, .int .i64]⟩), (121, ⟨.arr 10 50, 10, .agg #[.int .u64 0, .int .u64 0, .int .u64 0, .int .u64 0, .int .u64 0, .int .u64 0, .int .u64 0, .int .u64 0, .int .u64 0, .int .u64 0], 80, [.int .u64, .int .u64, .int .u64, .int .u64, .int .u64, .int .u64, .int .u64, .int .u64, .int .u64, .int .u64]⟩), (123, ⟨.struct [(0, 121), (10, 4)], 11, .agg #[.int .u64 0, .int .u64 0, .int .u64 0, .int .u64 0, .int .u64 0, .int .u64 0, .int .u64 0, .int .u64 0, .int .u64 0, .int .u64 0, .bool false], 88, [.int .u64, .int .u64, .int .u64, .int .u64, .int .u64, .int .u64, .int .u64, .int .u64, .int .u64, .int .u64, .bool]⟩)], [(14, [.lf (.int .i64)]), (22, [.lf (.int .i64)]), (24, [.lf (.int .i64), .lf (.int .i64)]), (32, [.lf (.int .i64), .lf (.int .i64)]), (37, [.lf (.int .i64), .lf (.bool)]), (38, [.lf (.bool)]), (43, [.lf (.int .i64)]), (45, [.agg [.int .i64, .int .i64, .int .i64, .slice], .lf (.bool)]), (46, [.lf (.int .i64)]), (58, [.lf (.int .i64)]), (59, [.lf (.bool)]), (60, [.lf (.bool)]), (61, [.lf (.bool)]), (62, [.lf (.int .i64), .lf (.bool)]), (63, [.lf (.slice), .lf (.int .i64)]), (64, [.lf (.int .i64), .lf (.bool)]), (65, [.lf (.int .i64)]), (66, [.lf (.int .i64), .lf (.bool)]), (68, [.lf (.int .i64), .lf (.bool)]), (69, [.lf (.slice), .lf (.int .i64)]), (70, [.lf (.int .i64)]), (71, [.lf (.int .i64), .lf (.bool)]), (72, [.agg [.int .u64, .int .u64, .int .u64, .int .u64, .int .u64, .int .u64, .int .u64, .int .u64, .int .u64, .int .u64, .bool]]), (73, [.agg [.int .u64, .int .u64, .int .u64, .int .u64, .int .u64, .int .u64, .int .u64, .int .u64, .int .u64, .int .u64, .bool]]), (74, [.lf (.int .i64), .lf (.bool)]), (75, [.agg [.int .u64, .int .u64, .int .u64, .int .u64, .int .u64, .int .u64, .int .u64, .int .u64, .int .u64, .int .u64, .bool]]), (78, [.lf (.bool)]), (79, [.agg [.int .i64, .int .i64, .int .i64, .slice]]), (85, [.lf (.int .i64)]), (86, [.agg [.int .i64, .int .i64, .int .i64]]), (87, [.lf (.int .i64)]), (89, [.lf (.int .i64)]), (96, [.lf (.slice)]), (99, [.lf (.int .i64)]), (100, [.lf (.bool)])], [116, 120]⟩
theorem ty3 : TyOk Try.prog 3 ⟨.int .i64, 1, .int .i64 0, 8, [.int .i64]⟩ := tyok (by kernel_rfl) (by kernel_rfl)
theorem ty4 : TyOk Try.prog 4 ⟨.bool, 1, .bool false, 1, [.bool]⟩ := tyok (by kernel_rfl) (by kernel_rfl)
theorem ty22 : TyOk Try.prog 22 ⟨.slice 120, 1, .slice none 0 0, 24, [.slice]⟩ := tyok (by kernel_rfl) (by kernel_rfl)
theorem ty24 : TyOk Try.prog 24 ⟨.struct [(0, 3), (1, 3), (2, 3), (3, 22)], 4, .agg #[.int .i64 0, .int .i64 0, .int .i64 0, .slice none 0 0], 48, [.int .i64, .int .i64, .int .i64, .slice]⟩ := tyok (by kernel_rfl) (by kernel_rfl)
theorem ty26 : TyOk Try.prog 26 ⟨.struct [(0, 3), (1, 3), (2, 3), (3, 24), (7, 24)], 11, .agg #[.int .i64 0, .int .i64 0, .int .i64 0, .int .i64 0, .int .i64 0, .int .i64 0, .slice none 0 0, .int .i64 0, .int .i64 0, .int .i64 0, .slice none 0 0], 120, [.int .i64, .int .i64, .int .i64, .int .i64, .int .i64, .int .i64, .slice, .int .i64, .int .i64, .int .i64, .slice]⟩ := tyok (by kernel_rfl) (by kernel_rfl)
theorem ty32 : TyOk Try.prog 32 ⟨.struct [(0, 3), (1, 3), (2, 3), (3, 24), (7, 24)], 11, .agg #[.int .i64 0, .int .i64 0, .int .i64 0, .int .i64 0, .int .i64 0, .int .i64 0, .slice none 0 0, .int .i64 0, .int .i64 0, .int .i64 0, .slice none 0 0], 120, [.int .i64, .int .i64, .int .i64, .int .i64, .int .i64, .int .i64, .slice, .int .i64, .int .i64, .int .i64, .slice]⟩ := tyok (by kernel_rfl) (by kernel_rfl)
theorem ty45 : TyOk Try.prog 45 ⟨.slice 3, 1, .slice none 0 0, 24, [.slice]⟩ := tyok (by kernel_rfl) (by kernel_rfl)
theorem ty50 : TyOk Try.prog 50 ⟨.int .u64, 1, .int .u64 0, 8, [.int .u64]⟩ := tyok (by kernel_rfl) (by kernel_rfl)
theorem ty51 : TyOk Try.prog 51 ⟨.slice 116, 1, .slice none 0 0, 24, [.slice]⟩ := tyok (by kernel_rfl) (by kernel_rfl)
theorem ty53 : TyOk Try.prog 53 ⟨.struct [(0, 51), (1, 3), (2, 3), (3, 3)], 4, .agg #[.slice none 0 0, .int .i64 0, .int .i64 0, .int .i64 0], 48, [.slice, .int .i64, .int .i64, .int .i64]⟩ := tyok (by kernel_rfl) (by kernel_rfl)
theorem ty67 : TyOk Try.prog 67 ⟨.struct [(0, 51), (1, 3), (2, 3), (3, 3)], 4, .agg #[.slice none 0 0, .int .i64 0, .int .i64 0, .int .i64 0], 48, [.slice, .int .i64, .int .i64, .int .i64]⟩ := tyok (by kernel_rfl) (by kernel_rfl)
theorem ty116 : TyOk Try.prog 116 ⟨.struct [(0, 3), (1, 3), (2, 3)], 3, .agg #[.int .i64 0, .int .i64 0, .int .i64 0], 24, [.int .i64, .int .i64, .int .i64]⟩ := tyok (by kernel_rfl) (by kernel_rfl)
theorem ty120 : TyOk Try.prog 120 ⟨.struct [(0, 3), (1, 3)], 2, .agg #[.int .i64 0, .int .i64 0], 16, [.int .i64, .int .i64]⟩ := tyok (by kernel_rfl) (by kernel_rfl)
theorem ty121 : TyOk Try.prog 121 ⟨.arr 10 50, 10, .agg #[.int .u64 0, .int .u64 0, .int .u64 0, .int .u64 0, .int .u64 0, .int .u64 0, .int .u64 0, .int .u64 0, .int .u64 0, .int .u64 0], 80, [.int .u64, .int .u64, .int .u64, .int .u64, .int .u64, .int .u64, .int .u64, .int .u64, .int .u64, .int .u64]⟩ := tyok (by kernel_rfl) (by kernel_rfl)
theorem ty123 : TyOk Try.prog 123 ⟨.struct [(0, 121), (10, 4)], 11, .agg #[.int .u64 0, .int .u64 0, .int .u64 0, .int .u64 0, .int .u64 0, .int .u64 0, .int .u64 0, .int .u64 0, .int .u64 0, .int .u64 0, .bool false], 88, [.int .u64, .int .u64, .int .u64, .int .u64, .int .u64, .int .u64, .int .u64, .int .u64, .int .u64, .int .u64, .bool]⟩ := tyok (by kernel_rfl) (by kernel_rfl)
theorem fn14 : FnOk Try.prog 14 := fnok Try.func14 (by kernel_rfl) (by kernel_rfl)
theorem fn22 : FnOk Try.prog 22 := fnok Try.func22 (by kernel_rfl) (by kernel_rfl)
theorem fn24 : FnOk Try.prog 24 := fnok Try.func24 (by kernel_rfl) (by kernel_rfl)
theorem fn32 : FnOk Try.prog 32 := fnok Try.func32 (by kernel_rfl) (by kernel_rfl)
theorem fn37 : FnOk Try.prog 37 := fnok Try.func37 (by kernel_rfl) (by kernel_rfl)
theorem fn38 : FnOk Try.prog 38 := fnok Try.func38 (by kernel_rfl) (by kernel_rfl)
theorem fn43 : FnOk Try.prog 43 := fnok Try.func43 (by kernel_rfl) (by kernel_rfl)
theorem fn45 : FnOk Try.prog 45 := fnok Try.func45 (by kernel_rfl) (by kernel_rfl)
theorem fn46 : FnOk Try.prog 46 := fnok Try.func46 (by kernel_rfl) (by kernel_rfl)
theorem fn58 : FnOk Try.prog 58 := fnok Try.func58 (by kernel_rfl) (by kernel_rfl)
theorem fn59 : FnOk Try.prog 59 := fnok Try.func59 (by kernel_rfl) (by kernel_rfl)
theorem fn60 : FnOk Try.prog 60 := fnok Try.func60 (by kernel_rfl) (by kernel_rfl)
theorem fn61 : FnOk Try.prog 61 := fnok Try.func61 (by kernel_rfl) (by kernel_rfl)
theorem fn62 : FnOk Try.prog 62 := fnok Try.func62 (by kernel_rfl) (by kernel_rfl)
theorem fn63 : FnOk Try.prog 63 := fnok Try.func63 (by kernel_rfl) (by kernel_rfl)
theorem fn64 : FnOk Try.prog 64 := fnok Try.func64 (by kernel_rfl) (by kernel_rfl)
theorem fn65 : FnOk Try.prog 65 := fnok Try.func65 (by kernel_rfl) (by kernel_rfl)
theorem fn66 : FnOk Try.prog 66 := fnok Try.func66 (by kernel_rfl) (by kernel_rfl)
theorem fn68 : FnOk Try.prog 68 := fnok Try.func68 (by kernel_rfl) (by kernel_rfl)
theorem fn69 : FnOk Try.prog 69 := fnok Try.func69 (by kernel_rfl) (by kernel_rfl)
theorem fn70 : FnOk Try.prog 70 := fnok Try.func70 (by kernel_rfl) (by kernel_rfl)
theorem fn71 : FnOk Try.prog 71 := fnok Try.func71 (by kernel_rfl) (by kernel_rfl)
theorem fn72 : FnOk Try.prog 72 := fnok Try.func72 (by kernel_rfl) (by kernel_rfl)
theorem fn73 : FnOk Try.prog 73 := fnok Try.func73 (by kernel_rfl) (by kernel_rfl)
theorem fn74 : FnOk Try.prog 74 := fnok Try.func74 (by kernel_rfl) (by kernel_rfl)
theorem fn75 : FnOk Try.prog 75 := fnok Try.func75 (by kernel_rfl) (by kernel_rfl)
theorem fn78 : FnOk Try.prog 78 := fnok Try.func78 (by kernel_rfl) (by kernel_rfl)
theorem fn79 : FnOk Try.prog 79 := fnok Try.func79 (by kernel_rfl) (by kernel_rfl)
theorem fn85 : FnOk Try.prog 85 := fnok Try.func85 (by kernel_rfl) (by kernel_rfl)
theorem fn86 : FnOk Try.prog 86 := fnok Try.func86 (by kernel_rfl) (by kernel_rfl)
theorem fn87 : FnOk Try.prog 87 := fnok Try.func87 (by kernel_rfl) (by kernel_rfl)
theorem fn89 : FnOk Try.prog 89 := fnok Try.func89 (by kernel_rfl) (by kernel_rfl)
theorem fn96 : FnOk Try.prog 96 := fnok Try.func96 (by kernel_rfl) (by kernel_rfl)
theorem fn99 : FnOk Try.prog 99 := fnok Try.func99 (by kernel_rfl) (by kernel_rfl)
theorem fn100 : FnOk Try.prog 100 := fnok Try.func100 (by kernel_rfl) (by kernel_rfl)
theorem eqt116 : EqTy Try.prog 116 := ⟨by kernel_rfl, by kernel_rfl, by kernel_rfl⟩
theorem eqt120 : EqTy Try.prog 120 := ⟨by kernel_rfl, by kernel_rfl, by kernel_rfl⟩
theorem envOk : EOk Try.prog env := ⟨(by simp only [env, List.forall_mem_cons, List.not_mem_nil, false_implies, implies_true, and_true]; exact ⟨ty3, ty4, ty22, ty24, ty26, ty32, ty45, ty50, ty51, ty53, ty67, ty116, ty120, ty121, ty123⟩), (by simp only [env, List.forall_mem_cons, List.not_mem_nil, false_implies, implies_true, and_true]; exact ⟨fn14, fn22, fn24, fn32, fn37, fn38, fn43, fn45, fn46, fn58, fn59, fn60, fn61, fn62, fn63, fn64, fn65, fn66, fn68, fn69, fn70, fn71, fn72, fn73, fn74, fn75, fn78, fn79, fn85, fn86, fn87, fn89, fn96, fn99, fn100⟩), by kernel_rfl, (by simp only [env, List.forall_mem_cons, List.not_mem_nil, false_implies, implies_true, and_true]; exact ⟨eqt116, eqt120⟩)⟩
/-- purser/tariff.within -/
def within_vc (x0 : Int) (x1 : Int) (x2 : Int) (w : World) (K : Value → World → Prop) : Prop :=
  br (decide (x0 ≥ x1)) (
    K (.bool (decide (x0 ≤ x2))) w
  ) (
    K (.bool false) w
  )
def within_notes : Notes := ⟨[], [], []⟩
theorem within_calls (x0 : Int) (x1 : Int) (x2 : Int) (w : World) (K : Value → World → Prop) (h : within_vc x0 x1 x2 w K) : Calls Try.prog 60 #[.int .i64 x0, .int .i64 x1, .int .i64 x2] w fun e w' => ∃ v, e = .returned v ∧ K v w' :=
  calls_of_fvc envOk Try.func60 within_notes [] [.int .i64 x0, .int .i64 x1, .int .i64 x2] w K (use_vc h (by as_aux_lemma => kernel_rfl))
/-- purser/tariff.tiers -/
def tiers_vc (a0 : Option Addr) (n0 : Nat) (c0 : Nat) (w : World) (K : Value → World → Prop) : Prop :=
  ∃ (I : Int → Int → World → Prop) (μ : Int → Int → World → Nat),
  I 0 0 w ∧
  ∀ (x3 : Int) (x9 : Int) (w_2 : World), I x3 x9 w_2 →
  br (decide (x9 < ((n0 : Nat) : Int))) (
    withP a0 fun g12 o12 =>
    (0 : Int) ≤ x9 ∧ x9 < (((n0 : Nat) : Int) : Int) ∧
    ∃ (x13_0 : Int) (x13_1 : Int),
    cellsAt w_2 g12 (o12 + x9.toNat * 2) [.int .i64 x13_0, .int .i64 x13_1] ∧
    newO w_2 (.cells #[.int .i64 0, .int .i64 0] 120) fun g w_3 =>
    ∀ w_4 : World, BoxSt g w_3 w_4 →
    Calls Try.prog 60 #[.int .i64 x13_1, .int .i64 0, .int .i64 1048576] w_4 fun e w_5 => KeepG [g] w_4 w_5 ∧
    ∃ (b22 : Bool),
    e = .returned (.bool b22) ∧
    br (!b22) (
      K (.int .i64 1) w_5
    ) (
      br (decide (x9 = (IntKind.i64.wrap (((n0 : Nat) : Int) - 1)))) (
        br (decide (x13_0 ≠ 0)) (
          K (.int .i64 15) w_5
        ) (
          br (!(decide (x9 = (IntKind.i64.wrap (((n0 : Nat) : Int) - 1))))) (
            Calls Try.prog 60 #[.int .i64 x13_0, .int .i64 (IntKind.i64.wrap (x3 + 1)), .int .i64 1099511627776] w_5 fun e_2 w_6 => KeepG [g] w_5 w_6 ∧
            ∃ (b38 : Bool),
            e_2 = .returned (.bool b38) ∧
            br (!b38) (
              K (.int .i64 15) w_6
            ) (
              I x13_0 (IntKind.i64.wrap (x9 + 1)) w_6 ∧ μ x13_0 (IntKind.i64.wrap (x9 + 1)) w_6 < μ x3 x9 w_2
            )
          ) (
            I x13_0 (IntKind.i64.wrap (x9 + 1)) w_5 ∧ μ x13_0 (IntKind.i64.wrap (x9 + 1)) w_5 < μ x3 x9 w_2
          )
        )
      ) (
        br (!(decide (x9 = (IntKind.i64.wrap (((n0 : Nat) : Int) - 1))))) (
          Calls Try.prog 60 #[.int .i64 x13_0, .int .i64 (IntKind.i64.wrap (x3 + 1)), .int .i64 1099511627776] w_5 fun e_3 w_7 => KeepG [g] w_5 w_7 ∧
          ∃ (b38_2 : Bool),
          e_3 = .returned (.bool b38_2) ∧
          br (!b38_2) (
            K (.int .i64 15) w_7
          ) (
            I x13_0 (IntKind.i64.wrap (x9 + 1)) w_7 ∧ μ x13_0 (IntKind.i64.wrap (x9 + 1)) w_7 < μ x3 x9 w_2
          )
        ) (
          I x13_0 (IntKind.i64.wrap (x9 + 1)) w_5 ∧ μ x13_0 (IntKind.i64.wrap (x9 + 1)) w_5 < μ x3 x9 w_2
        )
      )
    )
  ) (
    K (.int .i64 0) w_2
  )
def tiers_notes : Notes := ⟨[], [(3, ⟨[(3, .lf (.int .i64)), (9, .lf (.int .i64))], [], [10, 11, 12, 13, 5, 4, 14, 15, 16, 17, 18, 6, 20, 21, 22, 23, 19, 2, 25, 26, 27, 28, 29, 30, 24, 31, 32, 33, 34, 35, 36, 37, 38, 39, 40, 41, 42, 3, 43, 9], [5]⟩)], []⟩
theorem tiers_calls (a0 : Option Addr) (n0 : Nat) (c0 : Nat) (w : World) (K : Value → World → Prop) (h : tiers_vc a0 n0 c0 w K) : Calls Try.prog 85 #[.slice a0 n0 c0] w fun e w' => ∃ v, e = .returned v ∧ K v w' :=
  calls_of_fvc envOk Try.func85 tiers_notes [5] [.slice a0 n0 c0] w K (use_vc h (by as_aux_lemma => kernel_rfl))
/-- purser/tariff.Check -/
def check_vc (x0_0 : Int) (x0_1 : Int) (x0_2 : Int) (a0_3 : Option Addr) (n0_3 : Nat) (c0_3 : Nat) (w : World) (K : Value → World → Prop) : Prop :=
  newO w (.cells #[.int .i64 x0_0, .int .i64 x0_1, .int .i64 x0_2, .slice a0_3 n0_3 c0_3] 24) fun g w_2 =>
  Calls Try.prog 60 #[.int .i64 x0_0, .int .i64 1, .int .i64 8] w_2 fun e w_3 => KeepG [g] w_2 w_3 ∧
  ∃ (b6 : Bool),
  e = .returned (.bool b6) ∧
  br (!b6) (
    K (.int .i64 1) w_3
  ) (
    Calls Try.prog 60 #[.int .i64 x0_2, .int .i64 1, .int .i64 1073741824] w_3 fun e_2 w_4 => KeepG [g] w_3 w_4 ∧
    ∃ (b11 : Bool),
    e_2 = .returned (.bool b11) ∧
    br (!b11) (
      K (.int .i64 1) w_4
    ) (
      br (decide (x0_1 ≠ 1)) (
        br (decide (x0_1 ≠ 2)) (
          K (.int .i64 21) w_4
        ) (
          Calls Try.prog 60 #[.int .i64 ((n0_3 : Nat) : Int), .int .i64 1, .int .i64 6] w_4 fun e_3 w_5 => KeepG [g] w_4 w_5 ∧
          ∃ (b27 : Bool),
          e_3 = .returned (.bool b27) ∧
          br (!b27) (
            K (.int .i64 5) w_5
          ) (
            Calls Try.prog 85 #[.slice a0_3 n0_3 c0_3] w_5 fun e_4 w_6 => KeepG [g] w_5 w_6 ∧
            ∃ (x31 : Int),
            e_4 = .returned (.int .i64 x31) ∧
            K (.int .i64 x31) w_6
          )
        )
      ) (
        Calls Try.prog 60 #[.int .i64 ((n0_3 : Nat) : Int), .int .i64 1, .int .i64 6] w_4 fun e_5 w_7 => KeepG [g] w_4 w_7 ∧
        ∃ (b27_2 : Bool),
        e_5 = .returned (.bool b27_2) ∧
        br (!b27_2) (
          K (.int .i64 5) w_7
        ) (
          Calls Try.prog 85 #[.slice a0_3 n0_3 c0_3] w_7 fun e_6 w_8 => KeepG [g] w_7 w_8 ∧
          ∃ (x31_2 : Int),
          e_6 = .returned (.int .i64 x31_2) ∧
          K (.int .i64 x31_2) w_8
        )
      )
    )
  )
def check_notes : Notes := ⟨[], [], []⟩
theorem check_calls (x0_0 : Int) (x0_1 : Int) (x0_2 : Int) (a0_3 : Option Addr) (n0_3 : Nat) (c0_3 : Nat) (w : World) (K : Value → World → Prop) (h : check_vc x0_0 x0_1 x0_2 a0_3 n0_3 c0_3 w K) : Calls Try.prog 58 #[.agg #[.int .i64 x0_0, .int .i64 x0_1, .int .i64 x0_2, .slice a0_3 n0_3 c0_3]] w fun e w' => ∃ v, e = .returned v ∧ K v w' :=
  calls_of_fvc envOk Try.func58 check_notes [1] [.agg #[.int .i64 x0_0, .int .i64 x0_1, .int .i64 x0_2, .slice a0_3 n0_3 c0_3]] w K (use_vc h (by as_aux_lemma => kernel_rfl))
/-- purser/tariff.nothing -/
def nothing_vc (x0_0 : Int) (x0_1 : Int) (x0_2 : Int) (a0_3 : Option Addr) (n0_3 : Nat) (c0_3 : Nat) (w : World) (K : Value → World → Prop) : Prop :=
  newO w (.cells #[.int .i64 x0_0, .int .i64 x0_1, .int .i64 x0_2, .slice a0_3 n0_3 c0_3] 24) fun g w_2 =>
  br (decide (x0_0 = 0)) (
    br (decide (x0_1 = 0)) (
      br (decide (x0_2 = 0)) (
        K (.bool (decide (((n0_3 : Nat) : Int) = 0))) w_2
      ) (
        K (.bool false) w_2
      )
    ) (
      K (.bool false) w_2
    )
  ) (
    K (.bool false) w_2
  )
def nothing_notes : Notes := ⟨[], [], []⟩
theorem nothing_calls (x0_0 : Int) (x0_1 : Int) (x0_2 : Int) (a0_3 : Option Addr) (n0_3 : Nat) (c0_3 : Nat) (w : World) (K : Value → World → Prop) (h : nothing_vc x0_0 x0_1 x0_2 a0_3 n0_3 c0_3 w K) : Calls Try.prog 59 #[.agg #[.int .i64 x0_0, .int .i64 x0_1, .int .i64 x0_2, .slice a0_3 n0_3 c0_3]] w fun e w' => ∃ v, e = .returned v ∧ K v w' :=
  calls_of_fvc envOk Try.func59 nothing_notes [1] [.agg #[.int .i64 x0_0, .int .i64 x0_1, .int .i64 x0_2, .slice a0_3 n0_3 c0_3]] w K (use_vc h (by as_aux_lemma => kernel_rfl))
/-- purser/tariff.CheckPlan -/
def cplan_vc (x0_0 : Int) (x0_1 : Int) (x0_2 : Int) (x0_3 : Int) (x0_4 : Int) (x0_5 : Int) (a0_6 : Option Addr) (n0_6 : Nat) (c0_6 : Nat) (x0_7 : Int) (x0_8 : Int) (x0_9 : Int) (a0_10 : Option Addr) (n0_10 : Nat) (c0_10 : Nat) (w : World) (K : Value → World → Prop) : Prop :=
  newO w (.cells #[.int .i64 x0_0, .int .i64 x0_1, .int .i64 x0_2, .int .i64 x0_3, .int .i64 x0_4, .int .i64 x0_5, .slice a0_6 n0_6 c0_6, .int .i64 x0_7, .int .i64 x0_8, .int .i64 x0_9, .slice a0_10 n0_10 c0_10] 32) fun g w_2 =>
  Calls Try.prog 58 #[.agg #[.int .i64 x0_3, .int .i64 x0_4, .int .i64 x0_5, .slice a0_6 n0_6 c0_6]] w_2 fun e w_3 => KeepG [g] w_2 w_3 ∧
  ∃ (x7 : Int),
  e = .returned (.int .i64 x7) ∧
  br (decide (x7 ≠ 0)) (
    K (.int .i64 x7) w_3
  ) (
    br (decide (x0_0 = 0)) (
      br (decide (x0_1 ≠ 0)) (
        K (.int .i64 2) w_3
      ) (
        br (decide (x0_2 ≠ 0)) (
          K (.int .i64 2) w_3
        ) (
          Calls Try.prog 59 #[.agg #[.int .i64 x0_7, .int .i64 x0_8, .int .i64 x0_9, .slice a0_10 n0_10 c0_10]] w_3 fun e_2 w_4 => KeepG [g] w_3 w_4 ∧
          ∃ (b25 : Bool),
          e_2 = .returned (.bool b25) ∧
          br (!b25) (
            K (.int .i64 2) w_4
          ) (
            K (.int .i64 0) w_4
          )
        )
      )
    ) (
      Calls Try.prog 60 #[.int .i64 x0_0, .int .i64 2, .int .i64 1073741824] w_3 fun e_3 w_5 => KeepG [g] w_3 w_5 ∧
      ∃ (b30 : Bool),
      e_3 = .returned (.bool b30) ∧
      br (!b30) (
        K (.int .i64 1) w_5
      ) (
        Calls Try.prog 60 #[.int .i64 x0_1, .int .i64 0, .int .i64 (IntKind.i64.wrap (x0_0 - 1))] w_5 fun e_4 w_6 => KeepG [g] w_5 w_6 ∧
        ∃ (b38 : Bool),
        e_4 = .returned (.bool b38) ∧
        br (!b38) (
          K (.int .i64 1) w_6
        ) (
          Calls Try.prog 60 #[.int .i64 x0_2, .int .i64 0, .int .i64 (IntKind.i64.wrap (x0_0 - 1))] w_6 fun e_5 w_7 => KeepG [g] w_6 w_7 ∧
          ∃ (b47 : Bool),
          e_5 = .returned (.bool b47) ∧
          br (!b47) (
            K (.int .i64 1) w_7
          ) (
            br (decide (x0_1 = x0_2)) (
              K (.int .i64 1) w_7
            ) (
              Calls Try.prog 58 #[.agg #[.int .i64 x0_7, .int .i64 x0_8, .int .i64 x0_9, .slice a0_10 n0_10 c0_10]] w_7 fun e_6 w_8 => KeepG [g] w_7 w_8 ∧
              ∃ (x59 : Int),
              e_6 = .returned (.int .i64 x59) ∧
              br (decide (x59 ≠ 0)) (
                K (.int .i64 x59) w_8
              ) (
                br (decide (x0_3 ≠ x0_7)) (
                  K (.int .i64 20) w_8
                ) (
                  br (decide (x0_5 ≠ x0_9)) (
                    K (.int .i64 20) w_8
                  ) (
                    K (.int .i64 0) w_8
                  )
                )
              )
            )
          )
        )
      )
    )
  )
def cplan_notes : Notes := ⟨[], [], []⟩
theorem cplan_calls (x0_0 : Int) (x0_1 : Int) (x0_2 : Int) (x0_3 : Int) (x0_4 : Int) (x0_5 : Int) (a0_6 : Option Addr) (n0_6 : Nat) (c0_6 : Nat) (x0_7 : Int) (x0_8 : Int) (x0_9 : Int) (a0_10 : Option Addr) (n0_10 : Nat) (c0_10 : Nat) (w : World) (K : Value → World → Prop) (h : cplan_vc x0_0 x0_1 x0_2 x0_3 x0_4 x0_5 a0_6 n0_6 c0_6 x0_7 x0_8 x0_9 a0_10 n0_10 c0_10 w K) : Calls Try.prog 22 #[.agg #[.int .i64 x0_0, .int .i64 x0_1, .int .i64 x0_2, .int .i64 x0_3, .int .i64 x0_4, .int .i64 x0_5, .slice a0_6 n0_6 c0_6, .int .i64 x0_7, .int .i64 x0_8, .int .i64 x0_9, .slice a0_10 n0_10 c0_10]] w fun e w' => ∃ v, e = .returned v ∧ K v w' :=
  calls_of_fvc envOk Try.func22 cplan_notes [1] [.agg #[.int .i64 x0_0, .int .i64 x0_1, .int .i64 x0_2, .int .i64 x0_3, .int .i64 x0_4, .int .i64 x0_5, .slice a0_6 n0_6 c0_6, .int .i64 x0_7, .int .i64 x0_8, .int .i64 x0_9, .slice a0_10 n0_10 c0_10]] w K (use_vc h (by as_aux_lemma => kernel_rfl))
/-- (purser/tariff.Plan).other -/
def other_vc (x0_0 : Int) (x0_1 : Int) (x0_2 : Int) (x0_3 : Int) (x0_4 : Int) (x0_5 : Int) (a0_6 : Option Addr) (n0_6 : Nat) (c0_6 : Nat) (x0_7 : Int) (x0_8 : Int) (x0_9 : Int) (a0_10 : Option Addr) (n0_10 : Nat) (c0_10 : Nat) (x1 : Int) (w : World) (K : Value → World → Prop) : Prop :=
  newO w (.cells #[.int .i64 x0_0, .int .i64 x0_1, .int .i64 x0_2, .int .i64 x0_3, .int .i64 x0_4, .int .i64 x0_5, .slice a0_6 n0_6 c0_6, .int .i64 x0_7, .int .i64 x0_8, .int .i64 x0_9, .slice a0_10 n0_10 c0_10] 32) fun g w_2 =>
  br (decide (x0_0 = 0)) (
    K (.bool false) w_2
  ) (
    (x0_0 : Int) ≠ 0 ∧
    drewO w_2 fun w_3 =>
    br (decide (x0_1 < x0_2)) (
      br (decide ((Int.tmod x1 x0_0) ≥ x0_1)) (
        K (.bool (decide ((Int.tmod x1 x0_0) < x0_2))) w_3
      ) (
        K (.bool false) w_3
      )
    ) (
      br (decide ((Int.tmod x1 x0_0) ≥ x0_1)) (
        K (.bool true) w_3
      ) (
        K (.bool (decide ((Int.tmod x1 x0_0) < x0_2))) w_3
      )
    )
  )
def other_notes : Notes := ⟨[(4, ⟨[0, 0, 2, 7, 0, 0, 32, 112, 15, 511], [], [0, 1, 2, 3, 4, 5, 6, 7, 8, 9]⟩)], [], []⟩
theorem other_calls (x0_0 : Int) (x0_1 : Int) (x0_2 : Int) (x0_3 : Int) (x0_4 : Int) (x0_5 : Int) (a0_6 : Option Addr) (n0_6 : Nat) (c0_6 : Nat) (x0_7 : Int) (x0_8 : Int) (x0_9 : Int) (a0_10 : Option Addr) (n0_10 : Nat) (c0_10 : Nat) (x1 : Int) (w : World) (K : Value → World → Prop) (h : other_vc x0_0 x0_1 x0_2 x0_3 x0_4 x0_5 a0_6 n0_6 c0_6 x0_7 x0_8 x0_9 a0_10 n0_10 c0_10 x1 w K) : Calls Try.prog 78 #[.agg #[.int .i64 x0_0, .int .i64 x0_1, .int .i64 x0_2, .int .i64 x0_3, .int .i64 x0_4, .int .i64 x0_5, .slice a0_6 n0_6 c0_6, .int .i64 x0_7, .int .i64 x0_8, .int .i64 x0_9, .slice a0_10 n0_10 c0_10], .int .i64 x1] w fun e w' => ∃ v, e = .returned v ∧ K v w' :=
  calls_of_fvc envOk Try.func78 other_notes [2] [.agg #[.int .i64 x0_0, .int .i64 x0_1, .int .i64 x0_2, .int .i64 x0_3, .int .i64 x0_4, .int .i64 x0_5, .slice a0_6 n0_6 c0_6, .int .i64 x0_7, .int .i64 x0_8, .int .i64 x0_9, .slice a0_10 n0_10 c0_10], .int .i64 x1] w K (use_vc h (by as_aux_lemma => kernel_rfl))
/-- purser/tariff.At -/
def at_vc (x0_0 : Int) (x0_1 : Int) (x0_2 : Int) (x0_3 : Int) (x0_4 : Int) (x0_5 : Int) (a0_6 : Option Addr) (n0_6 : Nat) (c0_6 : Nat) (x0_7 : Int) (x0_8 : Int) (x0_9 : Int) (a0_10 : Option Addr) (n0_10 : Nat) (c0_10 : Nat) (x1 : Int) (w : World) (K : Value → World → Prop) : Prop :=
  newO w (.cells #[.int .i64 x0_0, .int .i64 x0_1, .int .i64 x0_2, .int .i64 x0_3, .int .i64 x0_4, .int .i64 x0_5, .slice a0_6 n0_6 c0_6, .int .i64 x0_7, .int .i64 x0_8, .int .i64 x0_9, .slice a0_10 n0_10 c0_10] 32) fun g w_2 =>
  newO w_2 (.cells #[.int .i64 0, .int .i64 0, .int .i64 0, .slice none 0 0] 24) fun g_2 w_3 =>
  br (decide (x1 < 0)) (
    ∀ w_4 : World, BoxSt g_2 w_3 w_4 →
    K (.tuple #[.agg #[.int .i64 0, .int .i64 0, .int .i64 0, .slice none 0 0], .bool false]) w_4
  ) (
    Calls Try.prog 22 #[.agg #[.int .i64 x0_0, .int .i64 x0_1, .int .i64 x0_2, .int .i64 x0_3, .int .i64 x0_4, .int .i64 x0_5, .slice a0_6 n0_6 c0_6, .int .i64 x0_7, .int .i64 x0_8, .int .i64 x0_9, .slice a0_10 n0_10 c0_10]] w_3 fun e w_5 => KeepG [g_2, g] w_3 w_5 ∧
    ∃ (x11 : Int),
    e = .returned (.int .i64 x11) ∧
    br (decide (x11 ≠ 0)) (
      ∀ w_6 : World, BoxSt g_2 w_5 w_6 →
      K (.tuple #[.agg #[.int .i64 0, .int .i64 0, .int .i64 0, .slice none 0 0], .bool false]) w_6
    ) (
      Calls Try.prog 78 #[.agg #[.int .i64 x0_0, .int .i64 x0_1, .int .i64 x0_2, .int .i64 x0_3, .int .i64 x0_4, .int .i64 x0_5, .slice a0_6 n0_6 c0_6, .int .i64 x0_7, .int .i64 x0_8, .int .i64 x0_9, .slice a0_10 n0_10 c0_10], .int .i64 x1] w_5 fun e_2 w_7 => KeepG [g_2, g] w_5 w_7 ∧
      ∃ (b18 : Bool),
      e_2 = .returned (.bool b18) ∧
      br b18 (
        Calls Try.prog 79 #[.agg #[.int .i64 x0_7, .int .i64 x0_8, .int .i64 x0_9, .slice a0_10 n0_10 c0_10]] w_7 fun e_3 w_8 => KeepG [g_2, g] w_7 w_8 ∧
        ∃ (x21_0 : Int) (x21_1 : Int) (x21_2 : Int) (a21_3 : Option Addr) (n21_3 : Nat) (c21_3 : Nat),
        e_3 = .returned (.agg #[.int .i64 x21_0, .int .i64 x21_1, .int .i64 x21_2, .slice a21_3 n21_3 c21_3]) ∧
        ∀ w_9 : World, BoxSt g_2 w_8 w_9 →
        K (.tuple #[.agg #[.int .i64 x21_0, .int .i64 x21_1, .int .i64 x21_2, .slice a21_3 n21_3 c21_3], .bool true]) w_9
      ) (
        Calls Try.prog 79 #[.agg #[.int .i64 x0_3, .int .i64 x0_4, .int .i64 x0_5, .slice a0_6 n0_6 c0_6]] w_7 fun e_4 w_10 => KeepG [g_2, g] w_7 w_10 ∧
        ∃ (x24_0 : Int) (x24_1 : Int) (x24_2 : Int) (a24_3 : Option Addr) (n24_3 : Nat) (c24_3 : Nat),
        e_4 = .returned (.agg #[.int .i64 x24_0, .int .i64 x24_1, .int .i64 x24_2, .slice a24_3 n24_3 c24_3]) ∧
        ∀ w_11 : World, BoxSt g_2 w_10 w_11 →
        K (.tuple #[.agg #[.int .i64 x24_0, .int .i64 x24_1, .int .i64 x24_2, .slice a24_3 n24_3 c24_3], .bool false]) w_11
      )
    )
  )
def at_notes : Notes := ⟨[], [], []⟩
theorem at_calls (x0_0 : Int) (x0_1 : Int) (x0_2 : Int) (x0_3 : Int) (x0_4 : Int) (x0_5 : Int) (a0_6 : Option Addr) (n0_6 : Nat) (c0_6 : Nat) (x0_7 : Int) (x0_8 : Int) (x0_9 : Int) (a0_10 : Option Addr) (n0_10 : Nat) (c0_10 : Nat) (x1 : Int) (w : World) (K : Value → World → Prop) (h : at_vc x0_0 x0_1 x0_2 x0_3 x0_4 x0_5 a0_6 n0_6 c0_6 x0_7 x0_8 x0_9 a0_10 n0_10 c0_10 x1 w K) : Calls Try.prog 45 #[.agg #[.int .i64 x0_0, .int .i64 x0_1, .int .i64 x0_2, .int .i64 x0_3, .int .i64 x0_4, .int .i64 x0_5, .slice a0_6 n0_6 c0_6, .int .i64 x0_7, .int .i64 x0_8, .int .i64 x0_9, .slice a0_10 n0_10 c0_10], .int .i64 x1] w fun e w' => ∃ v, e = .returned v ∧ K v w' :=
  calls_of_fvc envOk Try.func45 at_notes [2, 4] [.agg #[.int .i64 x0_0, .int .i64 x0_1, .int .i64 x0_2, .int .i64 x0_3, .int .i64 x0_4, .int .i64 x0_5, .slice a0_6 n0_6 c0_6, .int .i64 x0_7, .int .i64 x0_8, .int .i64 x0_9, .slice a0_10 n0_10 c0_10], .int .i64 x1] w K (use_vc h (by as_aux_lemma => kernel_rfl))
/-- purser/tariff.Dearest -/
def dearest_vc (x0_0 : Int) (x0_1 : Int) (x0_2 : Int) (a0_3 : Option Addr) (n0_3 : Nat) (c0_3 : Nat) (w : World) (K : Value → World → Prop) : Prop :=
  newO w (.cells #[.int .i64 x0_0, .int .i64 x0_1, .int .i64 x0_2, .slice a0_3 n0_3 c0_3] 24) fun g w_2 =>
  ∃ (I : Int → Int → World → Prop) (μ : Int → Int → World → Nat),
  I 0 0 w_2 ∧
  ∀ (x3 : Int) (x9 : Int) (w_3 : World), I x3 x9 w_3 →
  br (decide (x9 < ((n0_3 : Nat) : Int))) (
    withP a0_3 fun g11 o11 =>
    (0 : Int) ≤ x9 ∧ x9 < (((n0_3 : Nat) : Int) : Int) ∧
    ∃ (x12_0 : Int) (x12_1 : Int),
    cellsAt w_3 g11 (o11 + x9.toNat * 2) [.int .i64 x12_0, .int .i64 x12_1] ∧
    newO w_3 (.cells #[.int .i64 0, .int .i64 0] 120) fun g_2 w_4 =>
    ∀ w_5 : World, BoxSt g_2 w_4 w_5 →
    I (max x3 x12_1) (IntKind.i64.wrap (x9 + 1)) w_5 ∧ μ (max x3 x12_1) (IntKind.i64.wrap (x9 + 1)) w_5 < μ x3 x9 w_3
  ) (
    K (.int .i64 x3) w_3
  )
def dearest_notes : Notes := ⟨[], [(3, ⟨[(3, .lf (.int .i64)), (9, .lf (.int .i64))], [], [10, 11, 12, 5, 13, 14, 15, 16, 3, 17, 9], [5]⟩)], []⟩
theorem dearest_calls (x0_0 : Int) (x0_1 : Int) (x0_2 : Int) (a0_3 : Option Addr) (n0_3 : Nat) (c0_3 : Nat) (w : World) (K : Value → World → Prop) (h : dearest_vc x0_0 x0_1 x0_2 a0_3 n0_3 c0_3 w K) : Calls Try.prog 46 #[.agg #[.int .i64 x0_0, .int .i64 x0_1, .int .i64 x0_2, .slice a0_3 n0_3 c0_3]] w fun e w' => ∃ v, e = .returned v ∧ K v w' :=
  calls_of_fvc envOk Try.func46 dearest_notes [1, 5] [.agg #[.int .i64 x0_0, .int .i64 x0_1, .int .i64 x0_2, .slice a0_3 n0_3 c0_3]] w K (use_vc h (by as_aux_lemma => kernel_rfl))
/-- purser/tariff.Copy -/
def copy_vc (x0_0 : Int) (x0_1 : Int) (x0_2 : Int) (a0_3 : Option Addr) (n0_3 : Nat) (c0_3 : Nat) (w : World) (K : Value → World → Prop) : Prop :=
  newO w (.cells #[.int .i64 x0_0, .int .i64 x0_1, .int .i64 x0_2, .slice a0_3 n0_3 c0_3] 24) fun g w_2 =>
  newO w_2 (.cells #[.int .i64 0, .int .i64 0, .int .i64 0, .slice none 0 0] 24) fun g_2 w_3 =>
  Calls Try.prog 96 #[.slice a0_3 n0_3 c0_3] w_3 fun e w_4 => KeepG [g_2, g] w_3 w_4 ∧
  ∃ (a5 : Option Addr) (n5 : Nat) (c5 : Nat),
  e = .returned (.slice a5 n5 c5) ∧
  ∀ w_5 : World, BoxSt g w_4 w_5 →
  ∀ w_6 : World, BoxSt g_2 w_5 w_6 →
  K (.agg #[.int .i64 x0_0, .int .i64 x0_1, .int .i64 x0_2, .slice a5 n5 c5]) w_6
def copy_notes : Notes := ⟨[], [], []⟩
theorem copy_calls (x0_0 : Int) (x0_1 : Int) (x0_2 : Int) (a0_3 : Option Addr) (n0_3 : Nat) (c0_3 : Nat) (w : World) (K : Value → World → Prop) (h : copy_vc x0_0 x0_1 x0_2 a0_3 n0_3 c0_3 w K) : Calls Try.prog 79 #[.agg #[.int .i64 x0_0, .int .i64 x0_1, .int .i64 x0_2, .slice a0_3 n0_3 c0_3]] w fun e w' => ∃ v, e = .returned v ∧ K v w' :=
  calls_of_fvc envOk Try.func79 copy_notes [1, 2] [.agg #[.int .i64 x0_0, .int .i64 x0_1, .int .i64 x0_2, .slice a0_3 n0_3 c0_3]] w K (use_vc h (by as_aux_lemma => kernel_rfl))
/-- slices.Clone[[]purser/api.Tier,purser/api.Tier] -/
def clone_vc (a0 : Option Addr) (n0 : Nat) (c0 : Nat) (w : World) (K : Value → World → Prop) : Prop :=
  br (Option.isNone a0) (
    K (.slice none 0 0) w
  ) (
    newO w (.cells #[] 120) fun g w_2 =>
    appO Try.prog [] w_2 120 2 16 22 (some ⟨g, 0, none⟩) 0 0 (.slice a0 n0 c0) fun m7 a7 c7 w_3 =>
    K (.slice a7 (0 + m7) c7) w_3
  )
def clone_notes : Notes := ⟨[], [], []⟩
theorem clone_calls (a0 : Option Addr) (n0 : Nat) (c0 : Nat) (w : World) (K : Value → World → Prop) (h : clone_vc a0 n0 c0 w K) : Calls Try.prog 96 #[.slice a0 n0 c0] w fun e w' => ∃ v, e = .returned v ∧ K v w' :=
  calls_of_fvc envOk Try.func96 clone_notes [] [.slice a0 n0 c0] w K (use_vc h (by as_aux_lemma => kernel_rfl))
/-- purser/tier.line -/
def line_vc (x0_0 : Int) (x0_1 : Int) (x0_2 : Int) (a0_3 : Option Addr) (n0_3 : Nat) (c0_3 : Nat) (x1 : Int) (x2 : Int) (w : World) (K : Value → World → Prop) : Prop :=
  newO w (.cells #[.int .i64 x0_0, .int .i64 x0_1, .int .i64 x0_2, .slice a0_3 n0_3 c0_3] 24) fun g w_2 =>
  newO w_2 (.cells #[.int .i64 0, .int .i64 0, .int .i64 0] 116) fun g_2 w_3 =>
  withP a0_3 fun g12 o12 =>
  (0 : Int) ≤ x1 ∧ x1 < (((n0_3 : Nat) : Int) : Int) ∧
  ∃ (x14 : Int), w_3.cell? ⟨g12, o12 + x1.toNat * 2 + 1, none⟩ = some (.int .i64 x14) ∧
  ∀ w_4 : World, BoxSt g_2 w_3 w_4 →
  K (.agg #[.int .i64 x1, .int .i64 x2, .int .i64 x14]) w_4
def line_notes : Notes := ⟨[], [], []⟩
theorem line_calls (x0_0 : Int) (x0_1 : Int) (x0_2 : Int) (a0_3 : Option Addr) (n0_3 : Nat) (c0_3 : Nat) (x1 : Int) (x2 : Int) (w : World) (K : Value → World → Prop) (h : line_vc x0_0 x0_1 x0_2 a0_3 n0_3 c0_3 x1 x2 w K) : Calls Try.prog 86 #[.agg #[.int .i64 x0_0, .int .i64 x0_1, .int .i64 x0_2, .slice a0_3 n0_3 c0_3], .int .i64 x1, .int .i64 x2] w fun e w' => ∃ v, e = .returned v ∧ K v w' :=
  calls_of_fvc envOk Try.func86 line_notes [3, 6] [.agg #[.int .i64 x0_0, .int .i64 x0_1, .int .i64 x0_2, .slice a0_3 n0_3 c0_3], .int .i64 x1, .int .i64 x2] w K (use_vc h (by as_aux_lemma => kernel_rfl))
/-- purser/tier.Index$1 -/
def index1_vc (x0_0 : Int) (x0_1 : Int) (p1 : Option Addr) (w : World) (K : Value → World → Prop) : Prop :=
  newO w (.cells #[.int .i64 x0_0, .int .i64 x0_1] 120) fun g w_2 =>
  br (decide (x0_0 = 0)) (
    K (.bool true) w_2
  ) (
    withP p1 fun g8 o8 =>
    ∃ (x8 : Int), w_2.cell? ⟨g8, o8, none⟩ = some (.int .i64 x8) ∧
    K (.bool (decide (x8 ≤ x0_0))) w_2
  )
def index1_notes : Notes := ⟨[], [], []⟩
theorem index1_calls (x0_0 : Int) (x0_1 : Int) (p1 : Option Addr) (w : World) (K : Value → World → Prop) (h : index1_vc x0_0 x0_1 p1 w K) : Calls Try.prog 100 #[.agg #[.int .i64 x0_0, .int .i64 x0_1], .pointer p1] w fun e w' => ∃ v, e = .returned v ∧ K v w' :=
  calls_of_fvc envOk Try.func100 index1_notes [2] [.agg #[.int .i64 x0_0, .int .i64 x0_1], .pointer p1] w K (use_vc h (by as_aux_lemma => kernel_rfl))
/-- slices.IndexFunc[[]purser/api.Tier,purser/api.Tier] -/
def indexf_vc (a0 : Option Addr) (n0 : Nat) (c0 : Nat) (p1_0 : Option Addr) (w : World) (K : Value → World → Prop) : Prop :=
  ∃ (I : Int → World → Prop) (μ : Int → World → Nat),
  I 0 w ∧
  ∀ (x8 : Int) (w_2 : World), I x8 w_2 →
  br (decide (x8 < ((n0 : Nat) : Int))) (
    withP a0 fun g14 o14 =>
    (0 : Int) ≤ x8 ∧ x8 < (((n0 : Nat) : Int) : Int) ∧
    ∃ (x15_0 : Int) (x15_1 : Int),
    cellsAt w_2 g14 (o14 + x8.toNat * 2) [.int .i64 x15_0, .int .i64 x15_1] ∧
    Calls Try.prog 100 #[.agg #[.int .i64 x15_0, .int .i64 x15_1], .pointer p1_0] w_2 fun e w_3 => KeepG [] w_2 w_3 ∧
    ∃ (b16 : Bool),
    e = .returned (.bool b16) ∧
    br b16 (
      K (.int .i64 x8) w_3
    ) (
      I (IntKind.i64.wrap (x8 + 1)) w_3 ∧ μ (IntKind.i64.wrap (x8 + 1)) w_3 < μ x8 w_2
    )
  ) (
    K (.int .i64 (-1)) w_2
  )
def indexf_notes : Notes := ⟨[], [(2, ⟨[(8, .lf (.int .i64))], [], [9, 10, 5, 11, 12, 13, 14, 15, 16, 17, 4, 18, 8], []⟩)], []⟩
theorem indexf_calls (a0 : Option Addr) (n0 : Nat) (c0 : Nat) (p1_0 : Option Addr) (w : World) (K : Value → World → Prop) (h : indexf_vc a0 n0 c0 p1_0 w K) : Calls Try.prog 99 #[.slice a0 n0 c0, .func (.func 100) #[] #[.pointer p1_0]] w fun e w' => ∃ v, e = .returned v ∧ K v w' :=
  calls_of_fvc envOk Try.func99 indexf_notes [] [.slice a0 n0 c0, .func (.func 100) #[] #[.pointer p1_0]] w K (use_vc h (by as_aux_lemma => kernel_rfl))
/-- purser/tier.Index -/
def index_vc (x0_0 : Int) (x0_1 : Int) (x0_2 : Int) (a0_3 : Option Addr) (n0_3 : Nat) (c0_3 : Nat) (x1 : Int) (w : World) (K : Value → World → Prop) : Prop :=
  newO w (.cells #[.int .i64 x0_0, .int .i64 x0_1, .int .i64 x0_2, .slice a0_3 n0_3 c0_3] 24) fun g w_2 =>
  newO w_2 (.cells #[.int .i64 x1] 3) fun g_2 w_3 =>
  ∃ (x5 : Int), w_3.cell? ⟨g_2, 0, none⟩ = some (.int .i64 x5) ∧
  br (decide (x5 < 1)) (
    K (.int .i64 (-1)) w_3
  ) (
    Calls Try.prog 58 #[.agg #[.int .i64 x0_0, .int .i64 x0_1, .int .i64 x0_2, .slice a0_3 n0_3 c0_3]] w_3 fun e w_4 => KeepG [g] w_3 w_4 ∧
    ∃ (x9 : Int),
    e = .returned (.int .i64 x9) ∧
    br (decide (x9 ≠ 0)) (
      K (.int .i64 (-1)) w_4
    ) (
      Calls Try.prog 99 #[.slice a0_3 n0_3 c0_3, .func (.func 100) #[] #[.pointer (some ⟨g_2, 0, none⟩)]] w_4 fun e_2 w_5 => KeepG [g] w_4 w_5 ∧
      ∃ (x15 : Int),
      e_2 = .returned (.int .i64 x15) ∧
      K (.int .i64 x15) w_5
    )
  )
def index_notes : Notes := ⟨[], [], []⟩
theorem index_calls (x0_0 : Int) (x0_1 : Int) (x0_2 : Int) (a0_3 : Option Addr) (n0_3 : Nat) (c0_3 : Nat) (x1 : Int) (w : World) (K : Value → World → Prop) (h : index_vc x0_0 x0_1 x0_2 a0_3 n0_3 c0_3 x1 w K) : Calls Try.prog 87 #[.agg #[.int .i64 x0_0, .int .i64 x0_1, .int .i64 x0_2, .slice a0_3 n0_3 c0_3], .int .i64 x1] w fun e w' => ∃ v, e = .returned v ∧ K v w' :=
  calls_of_fvc envOk Try.func87 index_notes [2] [.agg #[.int .i64 x0_0, .int .i64 x0_1, .int .i64 x0_2, .slice a0_3 n0_3 c0_3], .int .i64 x1] w K (use_vc h (by as_aux_lemma => kernel_rfl))
/-- purser/tier.Split -/
def split_vc (x0_0 : Int) (x0_1 : Int) (x0_2 : Int) (a0_3 : Option Addr) (n0_3 : Nat) (c0_3 : Nat) (x1 : Int) (x2 : Int) (w : World) (K : Value → World → Prop) : Prop :=
  newO w (.cells #[.int .i64 x0_0, .int .i64 x0_1, .int .i64 x0_2, .slice a0_3 n0_3 c0_3] 24) fun g w_2 =>
  Calls Try.prog 58 #[.agg #[.int .i64 x0_0, .int .i64 x0_1, .int .i64 x0_2, .slice a0_3 n0_3 c0_3]] w_2 fun e w_3 => KeepG [g] w_2 w_3 ∧
  ∃ (x13 : Int),
  e = .returned (.int .i64 x13) ∧
  br (decide (x13 ≠ 0)) (
    K (.tuple #[.slice none 0 0, .int .i64 1]) w_3
  ) (
    br (decide (x1 < 0)) (
      K (.tuple #[.slice none 0 0, .int .i64 1]) w_3
    ) (
      br (decide (x1 > 1099511627776)) (
        K (.tuple #[.slice none 0 0, .int .i64 1]) w_3
      ) (
        br (decide (x2 < 0)) (
          K (.tuple #[.slice none 0 0, .int .i64 1]) w_3
        ) (
          br (decide (x2 > 1073741824)) (
            K (.tuple #[.slice none 0 0, .int .i64 1]) w_3
          ) (
            ∃ (J : Bool → World → Prop), (
              br (decide (x0_1 = 2)) (
                J (decide (x2 > 0)) w_3
              ) (
                J false w_3
              )
            ) ∧
            ∀ (b37 : Bool) (w_4 : World), J b37 w_4 →
            br b37 (
              drewO w_4 fun w_5 =>
              Calls Try.prog 87 #[.agg #[.int .i64 x0_0, .int .i64 x0_1, .int .i64 x0_2, .slice a0_3 n0_3 c0_3], .int .i64 (IntKind.i64.wrap (x1 + x2))] w_5 fun e_2 w_6 => KeepG [g] w_5 w_6 ∧
              ∃ (x43 : Int),
              e_2 = .returned (.int .i64 x43) ∧
              Calls Try.prog 86 #[.agg #[.int .i64 x0_0, .int .i64 x0_1, .int .i64 x0_2, .slice a0_3 n0_3 c0_3], .int .i64 x43, .int .i64 x2] w_6 fun e_3 w_7 => KeepG [g] w_6 w_7 ∧
              ∃ (x45_0 : Int) (x45_1 : Int) (x45_2 : Int),
              e_3 = .returned (.agg #[.int .i64 x45_0, .int .i64 x45_1, .int .i64 x45_2]) ∧
              newO w_7 (.cells #[.int .i64 x45_0, .int .i64 x45_1, .int .i64 x45_2] 116) fun g_2 w_8 =>
              K (.tuple #[.slice (some ⟨g_2, 0, none⟩) 1 1, .int .i64 0]) w_8
            ) (
              ∃ (I : Int → Int → Option Addr → Nat → Nat → World → Prop) (μ : Int → Int → Option Addr → Nat → Nat → World → Nat),
              I x1 x2 none 0 0 w_4 ∧
              ∀ (x1_2 : Int) (x2_2 : Int) (a8 : Option Addr) (n8 : Nat) (c8 : Nat) (w_9 : World), I x1_2 x2_2 a8 n8 c8 w_9 →
              br (decide (x2_2 > 0)) (
                Calls Try.prog 87 #[.agg #[.int .i64 x0_0, .int .i64 x0_1, .int .i64 x0_2, .slice a0_3 n0_3 c0_3], .int .i64 (IntKind.i64.wrap (x1_2 + 1))] w_9 fun e_4 w_10 => KeepG [g] w_9 w_10 ∧
                ∃ (x52 : Int),
                e_4 = .returned (.int .i64 x52) ∧
                withP a0_3 fun g57 o57 =>
                (0 : Int) ≤ x52 ∧ x52 < (((n0_3 : Nat) : Int) : Int) ∧
                ∃ (x59 : Int), w_10.cell? ⟨g57, o57 + x52.toNat * 2, none⟩ = some (.int .i64 x59) ∧
                br (decide (x59 > 0)) (
                  Calls Try.prog 86 #[.agg #[.int .i64 x0_0, .int .i64 x0_1, .int .i64 x0_2, .slice a0_3 n0_3 c0_3], .int .i64 x52, .int .i64 (min x2_2 (IntKind.i64.wrap (x59 - x1_2)))] w_10 fun e_5 w_11 => KeepG [g] w_10 w_11 ∧
                  ∃ (x71_0 : Int) (x71_1 : Int) (x71_2 : Int),
                  e_5 = .returned (.agg #[.int .i64 x71_0, .int .i64 x71_1, .int .i64 x71_2]) ∧
                  newO w_11 (.cells #[.int .i64 x71_0, .int .i64 x71_1, .int .i64 x71_2] 116) fun g_3 w_12 =>
                  appO Try.prog [g] w_12 116 3 24 51 a8 n8 c8 (.slice (some ⟨g_3, 0, none⟩) 1 1) fun m73 a73 c73 w_13 =>
                  I (IntKind.i64.wrap (x1_2 + (min x2_2 (IntKind.i64.wrap (x59 - x1_2))))) (IntKind.i64.wrap (x2_2 - (min x2_2 (IntKind.i64.wrap (x59 - x1_2))))) a73 (n8 + m73) c73 w_13 ∧ μ (IntKind.i64.wrap (x1_2 + (min x2_2 (IntKind.i64.wrap (x59 - x1_2))))) (IntKind.i64.wrap (x2_2 - (min x2_2 (IntKind.i64.wrap (x59 - x1_2))))) a73 (n8 + m73) c73 w_13 < μ x1_2 x2_2 a8 n8 c8 w_9
                ) (
                  Calls Try.prog 86 #[.agg #[.int .i64 x0_0, .int .i64 x0_1, .int .i64 x0_2, .slice a0_3 n0_3 c0_3], .int .i64 x52, .int .i64 x2_2] w_10 fun e_6 w_14 => KeepG [g] w_10 w_14 ∧
                  ∃ (x71_0_2 : Int) (x71_1_2 : Int) (x71_2_2 : Int),
                  e_6 = .returned (.agg #[.int .i64 x71_0_2, .int .i64 x71_1_2, .int .i64 x71_2_2]) ∧
                  newO w_14 (.cells #[.int .i64 x71_0_2, .int .i64 x71_1_2, .int .i64 x71_2_2] 116) fun g_4 w_15 =>
                  appO Try.prog [g] w_15 116 3 24 51 a8 n8 c8 (.slice (some ⟨g_4, 0, none⟩) 1 1) fun m73_2 a73_2 c73_2 w_16 =>
                  I (IntKind.i64.wrap (x1_2 + x2_2)) (IntKind.i64.wrap (x2_2 - x2_2)) a73_2 (n8 + m73_2) c73_2 w_16 ∧ μ (IntKind.i64.wrap (x1_2 + x2_2)) (IntKind.i64.wrap (x2_2 - x2_2)) a73_2 (n8 + m73_2) c73_2 w_16 < μ x1_2 x2_2 a8 n8 c8 w_9
                )
              ) (
                K (.tuple #[.slice a8 n8 c8, .int .i64 0]) w_9
              )
            )
          )
        )
      )
    )
  )
def split_notes : Notes := ⟨[(4, ⟨[0, 0, 0, 0, 12, 30, 0, 127, 255, 511, 1023], [5, 7, 8], [0, 1, 2, 3, 4, 6, 9, 10]⟩)], [(6, ⟨[(1, .lf (.int .i64)), (2, .lf (.int .i64)), (8, .lf (.slice))], [], [47, 48, 49, 50, 51, 52, 9, 53, 10, 54, 55, 56, 57, 58, 59, 11, 60, 61, 62, 63, 64, 65, 66, 67, 68, 69, 70, 71, 72, 73, 8, 74, 75, 76, 1, 77, 78, 79, 2], []⟩)], [((0, 3), ⟨[(37, .lf (.bool))], [], [31, 32, 33, 34, 35, 36, 37], []⟩)]⟩
theorem split_calls (x0_0 : Int) (x0_1 : Int) (x0_2 : Int) (a0_3 : Option Addr) (n0_3 : Nat) (c0_3 : Nat) (x1 : Int) (x2 : Int) (w : World) (K : Value → World → Prop) (h : split_vc x0_0 x0_1 x0_2 a0_3 n0_3 c0_3 x1 x2 w K) : Calls Try.prog 63 #[.agg #[.int .i64 x0_0, .int .i64 x0_1, .int .i64 x0_2, .slice a0_3 n0_3 c0_3], .int .i64 x1, .int .i64 x2] w fun e w' => ∃ v, e = .returned v ∧ K v w' :=
  calls_of_fvc envOk Try.func63 split_notes [3] [.agg #[.int .i64 x0_0, .int .i64 x0_1, .int .i64 x0_2, .slice a0_3 n0_3 c0_3], .int .i64 x1, .int .i64 x2] w K (use_vc h (by as_aux_lemma => kernel_rfl))
/-- purser/tier.Cost -/
def cost_vc (a0 : Option Addr) (n0 : Nat) (c0 : Nat) (w : World) (K : Value → World → Prop) : Prop :=
  ∃ (I : Option Addr → Nat → Nat → Int → World → Prop) (μ : Option Addr → Nat → Nat → Int → World → Nat),
  I none 0 0 0 w ∧
  ∀ (a4 : Option Addr) (n4 : Nat) (c4 : Nat) (x11 : Int) (w_2 : World), I a4 n4 c4 x11 w_2 →
  br (decide (x11 < ((n0 : Nat) : Int))) (
    withP a0 fun g13 o13 =>
    (0 : Int) ≤ x11 ∧ x11 < (((n0 : Nat) : Int) : Int) ∧
    ∃ (x14_0 : Int) (x14_1 : Int) (x14_2 : Int),
    cellsAt w_2 g13 (o13 + x11.toNat * 3) [.int .i64 x14_0, .int .i64 x14_1, .int .i64 x14_2] ∧
    newO w_2 (.cells #[.int .i64 0, .int .i64 0, .int .i64 0] 116) fun g w_3 =>
    ∀ w_4 : World, BoxSt g w_3 w_4 →
    Calls Try.prog 71 #[.int .i64 x14_1, .int .i64 x14_2] w_4 fun e w_5 => KeepG [g] w_4 w_5 ∧
    ∃ (x20_0 : Int) (b20_1 : Bool),
    e = .returned (.tuple #[.int .i64 x20_0, .bool b20_1]) ∧
    br (!b20_1) (
      K (.tuple #[.int .i64 0, .bool false]) w_5
    ) (
      newO w_5 (.cells #[.int .i64 x20_0] 3) fun g_2 w_6 =>
      appO Try.prog [g] w_6 3 1 8 45 a4 n4 c4 (.slice (some ⟨g_2, 0, none⟩) 1 1) fun m28 a28 c28 w_7 =>
      I a28 (n4 + m28) c28 (IntKind.i64.wrap (x11 + 1)) w_7 ∧ μ a28 (n4 + m28) c28 (IntKind.i64.wrap (x11 + 1)) w_7 < μ a4 n4 c4 x11 w_2
    )
  ) (
    Calls Try.prog 66 #[.slice a4 n4 c4] w_2 fun e_2 w_8 => KeepG [] w_2 w_8 ∧
    ∃ (x31_0 : Int) (b31_1 : Bool),
    e_2 = .returned (.tuple #[.int .i64 x31_0, .bool b31_1]) ∧
    K (.tuple #[.int .i64 x31_0, .bool b31_1]) w_8
  )
def cost_notes : Notes := ⟨[], [(3, ⟨[(4, .lf (.slice)), (11, .lf (.int .i64))], [], [12, 13, 14, 6, 16, 17, 18, 19, 20, 15, 21, 22, 7, 8, 23, 24, 2, 3, 25, 26, 27, 28, 4, 29, 11], [6]⟩)], []⟩
theorem cost_calls (a0 : Option Addr) (n0 : Nat) (c0 : Nat) (w : World) (K : Value → World → Prop) (h : cost_vc a0 n0 c0 w K) : Calls Try.prog 64 #[.slice a0 n0 c0] w fun e w' => ∃ v, e = .returned v ∧ K v w' :=
  calls_of_fvc envOk Try.func64 cost_notes [6] [.slice a0 n0 c0] w K (use_vc h (by as_aux_lemma => kernel_rfl))
/-- purser/tier.Blocks -/
def tblocks_vc (a0 : Option Addr) (n0 : Nat) (c0 : Nat) (w : World) (K : Value → World → Prop) : Prop :=
  ∃ (I : Option Addr → Nat → Nat → Int → World → Prop) (μ : Option Addr → Nat → Nat → Int → World → Nat),
  I none 0 0 0 w ∧
  ∀ (a4 : Option Addr) (n4 : Nat) (c4 : Nat) (x9 : Int) (w_2 : World), I a4 n4 c4 x9 w_2 →
  br (decide (x9 < ((n0 : Nat) : Int))) (
    withP a0 fun g11 o11 =>
    (0 : Int) ≤ x9 ∧ x9 < (((n0 : Nat) : Int) : Int) ∧
    ∃ (x12_0 : Int) (x12_1 : Int) (x12_2 : Int),
    cellsAt w_2 g11 (o11 + x9.toNat * 3) [.int .i64 x12_0, .int .i64 x12_1, .int .i64 x12_2] ∧
    newO w_2 (.cells #[.int .i64 0, .int .i64 0, .int .i64 0] 116) fun g w_3 =>
    ∀ w_4 : World, BoxSt g w_3 w_4 →
    newO w_4 (.cells #[.int .i64 x12_1] 3) fun g_2 w_5 =>
    appO Try.prog [g] w_5 3 1 8 45 a4 n4 c4 (.slice (some ⟨g_2, 0, none⟩) 1 1) fun m17 a17 c17 w_6 =>
    I a17 (n4 + m17) c17 (IntKind.i64.wrap (x9 + 1)) w_6 ∧ μ a17 (n4 + m17) c17 (IntKind.i64.wrap (x9 + 1)) w_6 < μ a4 n4 c4 x9 w_2
  ) (
    Calls Try.prog 66 #[.slice a4 n4 c4] w_2 fun e w_7 => KeepG [] w_2 w_7 ∧
    ∃ (x20_0 : Int) (b20_1 : Bool),
    e = .returned (.tuple #[.int .i64 x20_0, .bool b20_1]) ∧
    K (.tuple #[.int .i64 x20_0, .bool b20_1]) w_7
  )
def tblocks_notes : Notes := ⟨[], [(3, ⟨[(4, .lf (.slice)), (9, .lf (.int .i64))], [], [10, 11, 12, 6, 13, 14, 15, 16, 17, 4, 18, 9], [6]⟩)], []⟩
theorem tblocks_calls (a0 : Option Addr) (n0 : Nat) (c0 : Nat) (w : World) (K : Value → World → Prop) (h : tblocks_vc a0 n0 c0 w K) : Calls Try.prog 25 #[.slice a0 n0 c0] w fun e w' => ∃ v, e = .returned v ∧ K v w' :=
  calls_of_fvc envOk Try.func25 tblocks_notes [6] [.slice a0 n0 c0] w K (use_vc h (by as_aux_lemma => kernel_rfl))
/-- purser/rate.units -/
def units_vc (x0 : Int) (w : World) (K : Value → World → Prop) : Prop :=
  br (decide (x0 ≥ 0)) (
    K (.bool (decide (x0 ≤ 1073741824))) w
  ) (
    K (.bool false) w
  )
def units_notes : Notes := ⟨[], [], []⟩
theorem units_calls (x0 : Int) (w : World) (K : Value → World → Prop) (h : units_vc x0 w K) : Calls Try.prog 61 #[.int .i64 x0] w fun e w' => ∃ v, e = .returned v ∧ K v w' :=
  calls_of_fvc envOk Try.func61 units_notes [] [.int .i64 x0] w K (use_vc h (by as_aux_lemma => kernel_rfl))
/-- purser/rate.Rate -/
def rate_vc (x0_0 : Int) (x0_1 : Int) (x0_2 : Int) (x0_3 : Int) (x0_4 : Int) (x0_5 : Int) (a0_6 : Option Addr) (n0_6 : Nat) (c0_6 : Nat) (x0_7 : Int) (x0_8 : Int) (x0_9 : Int) (a0_10 : Option Addr) (n0_10 : Nat) (c0_10 : Nat) (x1 : Int) (x2 : Int) (x3 : Int) (w : World) (K : Value → World → Prop) : Prop :=
  newO w (.cells #[.int .i64 x0_0, .int .i64 x0_1, .int .i64 x0_2, .int .i64 x0_3, .int .i64 x0_4, .int .i64 x0_5, .slice a0_6 n0_6 c0_6, .int .i64 x0_7, .int .i64 x0_8, .int .i64 x0_9, .slice a0_10 n0_10 c0_10] 32) fun g w_2 =>
  newO w_2 (.cells #[.slice none 0 0, .int .i64 0, .int .i64 0, .int .i64 0] 53) fun g_2 w_3 =>
  Calls Try.prog 22 #[.agg #[.int .i64 x0_0, .int .i64 x0_1, .int .i64 x0_2, .int .i64 x0_3, .int .i64 x0_4, .int .i64 x0_5, .slice a0_6 n0_6 c0_6, .int .i64 x0_7, .int .i64 x0_8, .int .i64 x0_9, .slice a0_10 n0_10 c0_10]] w_3 fun e w_4 => KeepG [g_2, g] w_3 w_4 ∧
  ∃ (x18 : Int),
  e = .returned (.int .i64 x18) ∧
  br (decide (x18 ≠ 0)) (
    ∀ w_5 : World, BoxSt g_2 w_4 w_5 →
    K (.tuple #[.agg #[.slice none 0 0, .int .i64 0, .int .i64 0, .int .i64 0], .int .i64 1]) w_5
  ) (
    br (decide (x1 < 0)) (
      ∀ w_6 : World, BoxSt g_2 w_4 w_6 →
      K (.tuple #[.agg #[.slice none 0 0, .int .i64 0, .int .i64 0, .int .i64 0], .int .i64 1]) w_6
    ) (
      Calls Try.prog 61 #[.int .i64 x3] w_4 fun e_2 w_7 => KeepG [g_2, g] w_4 w_7 ∧
      ∃ (b26 : Bool),
      e_2 = .returned (.bool b26) ∧
      br (!b26) (
        ∀ w_8 : World, BoxSt g_2 w_7 w_8 →
        K (.tuple #[.agg #[.slice none 0 0, .int .i64 0, .int .i64 0, .int .i64 0], .int .i64 1]) w_8
      ) (
        Calls Try.prog 45 #[.agg #[.int .i64 x0_0, .int .i64 x0_1, .int .i64 x0_2, .int .i64 x0_3, .int .i64 x0_4, .int .i64 x0_5, .slice a0_6 n0_6 c0_6, .int .i64 x0_7, .int .i64 x0_8, .int .i64 x0_9, .slice a0_10 n0_10 c0_10], .int .i64 x1] w_7 fun e_3 w_9 => KeepG [g_2, g] w_7 w_9 ∧
        ∃ (x33_0_0 : Int) (x33_0_1 : Int) (x33_0_2 : Int) (a33_0_3 : Option Addr) (n33_0_3 : Nat) (c33_0_3 : Nat) (b33_1 : Bool),
        e_3 = .returned (.tuple #[.agg #[.int .i64 x33_0_0, .int .i64 x33_0_1, .int .i64 x33_0_2, .slice a33_0_3 n33_0_3 c33_0_3], .bool b33_1]) ∧
        newO w_9 (.cells #[.int .i64 0, .int .i64 0, .int .i64 0, .slice none 0 0] 24) fun g_3 w_10 =>
        ∀ w_11 : World, BoxSt g_3 w_10 w_11 →
        Calls Try.prog 62 #[.int .i64 x3, .int .i64 x33_0_2] w_11 fun e_4 w_12 => KeepG [g_3, g_2, g] w_11 w_12 ∧
        ∃ (x40_0 : Int) (b40_1 : Bool),
        e_4 = .returned (.tuple #[.int .i64 x40_0, .bool b40_1]) ∧
        br (!b40_1) (
          ∀ w_13 : World, BoxSt g_2 w_12 w_13 →
          K (.tuple #[.agg #[.slice none 0 0, .int .i64 0, .int .i64 0, .int .i64 0], .int .i64 1]) w_13
        ) (
          Calls Try.prog 63 #[.agg #[.int .i64 x33_0_0, .int .i64 x33_0_1, .int .i64 x33_0_2, .slice a33_0_3 n33_0_3 c33_0_3], .int .i64 x2, .int .i64 x40_0] w_12 fun e_5 w_14 => KeepG [g_3, g_2, g] w_12 w_14 ∧
          ∃ (a50_0 : Option Addr) (n50_0 : Nat) (c50_0 : Nat) (x50_1 : Int),
          e_5 = .returned (.tuple #[.slice a50_0 n50_0 c50_0, .int .i64 x50_1]) ∧
          br (decide (x50_1 ≠ 0)) (
            ∀ w_15 : World, BoxSt g_2 w_14 w_15 →
            K (.tuple #[.agg #[.slice none 0 0, .int .i64 0, .int .i64 0, .int .i64 0], .int .i64 1]) w_15
          ) (
            Calls Try.prog 64 #[.slice a50_0 n50_0 c50_0] w_14 fun e_6 w_16 => KeepG [g_3, g_2, g] w_14 w_16 ∧
            ∃ (x58_0 : Int) (b58_1 : Bool),
            e_6 = .returned (.tuple #[.int .i64 x58_0, .bool b58_1]) ∧
            br (!b58_1) (
              ∀ w_17 : World, BoxSt g_2 w_16 w_17 →
              K (.tuple #[.agg #[.slice none 0 0, .int .i64 0, .int .i64 0, .int .i64 0], .int .i64 1]) w_17
            ) (
              ∀ w_18 : World, BoxSt g_2 w_16 w_18 →
              K (.tuple #[.agg #[.slice a50_0 n50_0 c50_0, .int .i64 x40_0, .int .i64 x58_0, .int .i64 (IntKind.i64.wrap (x2 + x40_0))], .int .i64 0]) w_18
            )
          )
        )
      )
    )
  )
def rate_notes : Notes := ⟨[], [], []⟩
theorem rate_calls (x0_0 : Int) (x0_1 : Int) (x0_2 : Int) (x0_3 : Int) (x0_4 : Int) (x0_5 : Int) (a0_6 : Option Addr) (n0_6 : Nat) (c0_6 : Nat) (x0_7 : Int) (x0_8 : Int) (x0_9 : Int) (a0_10 : Option Addr) (n0_10 : Nat) (c0_10 : Nat) (x1 : Int) (x2 : Int) (x3 : Int) (w : World) (K : Value → World → Prop) (h : rate_vc x0_0 x0_1 x0_2 x0_3 x0_4 x0_5 a0_6 n0_6 c0_6 x0_7 x0_8 x0_9 a0_10 n0_10 c0_10 x1 x2 x3 w K) : Calls Try.prog 23 #[.agg #[.int .i64 x0_0, .int .i64 x0_1, .int .i64 x0_2, .int .i64 x0_3, .int .i64 x0_4, .int .i64 x0_5, .slice a0_6 n0_6 c0_6, .int .i64 x0_7, .int .i64 x0_8, .int .i64 x0_9, .slice a0_10 n0_10 c0_10], .int .i64 x1, .int .i64 x2, .int .i64 x3] w fun e w' => ∃ v, e = .returned v ∧ K v w' :=
  calls_of_fvc envOk Try.func23 rate_notes [4, 8, 10] [.agg #[.int .i64 x0_0, .int .i64 x0_1, .int .i64 x0_2, .int .i64 x0_3, .int .i64 x0_4, .int .i64 x0_5, .slice a0_6 n0_6 c0_6, .int .i64 x0_7, .int .i64 x0_8, .int .i64 x0_9, .slice a0_10 n0_10 c0_10], .int .i64 x1, .int .i64 x2, .int .i64 x3] w K (use_vc h (by as_aux_lemma => kernel_rfl))
/-- purser/rate.dearest -/
def rdearest_vc (x0_0 : Int) (x0_1 : Int) (x0_2 : Int) (x0_3 : Int) (x0_4 : Int) (x0_5 : Int) (a0_6 : Option Addr) (n0_6 : Nat) (c0_6 : Nat) (x0_7 : Int) (x0_8 : Int) (x0_9 : Int) (a0_10 : Option Addr) (n0_10 : Nat) (c0_10 : Nat) (w : World) (K : Value → World → Prop) : Prop :=
  newO w (.cells #[.int .i64 x0_0, .int .i64 x0_1, .int .i64 x0_2, .int .i64 x0_3, .int .i64 x0_4, .int .i64 x0_5, .slice a0_6 n0_6 c0_6, .int .i64 x0_7, .int .i64 x0_8, .int .i64 x0_9, .slice a0_10 n0_10 c0_10] 32) fun g w_2 =>
  drewO w_2 fun w_3 =>
  Calls Try.prog 46 #[.agg #[.int .i64 x0_3, .int .i64 x0_4, .int .i64 x0_5, .slice a0_6 n0_6 c0_6]] w_3 fun e w_4 => KeepG [g] w_3 w_4 ∧
  ∃ (x5 : Int),
  e = .returned (.int .i64 x5) ∧
  Calls Try.prog 46 #[.agg #[.int .i64 x0_7, .int .i64 x0_8, .int .i64 x0_9, .slice a0_10 n0_10 c0_10]] w_4 fun e_2 w_5 => KeepG [g] w_4 w_5 ∧
  ∃ (x8 : Int),
  e_2 = .returned (.int .i64 x8) ∧
  K (.int .i64 (max x5 x8)) w_5
def rdearest_notes : Notes := ⟨[(1, ⟨[0, 1, 3, 0, 8, 31, 63, 127], [2, 5], [0, 1, 3, 4, 6, 7]⟩)], [], []⟩
theorem rdearest_calls (x0_0 : Int) (x0_1 : Int) (x0_2 : Int) (x0_3 : Int) (x0_4 : Int) (x0_5 : Int) (a0_6 : Option Addr) (n0_6 : Nat) (c0_6 : Nat) (x0_7 : Int) (x0_8 : Int) (x0_9 : Int) (a0_10 : Option Addr) (n0_10 : Nat) (c0_10 : Nat) (w : World) (K : Value → World → Prop) (h : rdearest_vc x0_0 x0_1 x0_2 x0_3 x0_4 x0_5 a0_6 n0_6 c0_6 x0_7 x0_8 x0_9 a0_10 n0_10 c0_10 w K) : Calls Try.prog 65 #[.agg #[.int .i64 x0_0, .int .i64 x0_1, .int .i64 x0_2, .int .i64 x0_3, .int .i64 x0_4, .int .i64 x0_5, .slice a0_6 n0_6 c0_6, .int .i64 x0_7, .int .i64 x0_8, .int .i64 x0_9, .slice a0_10 n0_10 c0_10]] w fun e w' => ∃ v, e = .returned v ∧ K v w' :=
  calls_of_fvc envOk Try.func65 rdearest_notes [1] [.agg #[.int .i64 x0_0, .int .i64 x0_1, .int .i64 x0_2, .int .i64 x0_3, .int .i64 x0_4, .int .i64 x0_5, .slice a0_6 n0_6 c0_6, .int .i64 x0_7, .int .i64 x0_8, .int .i64 x0_9, .slice a0_10 n0_10 c0_10]] w K (use_vc h (by as_aux_lemma => kernel_rfl))
/-- purser/rate.Worst -/
def worst_vc (x0_0 : Int) (x0_1 : Int) (x0_2 : Int) (x0_3 : Int) (x0_4 : Int) (x0_5 : Int) (a0_6 : Option Addr) (n0_6 : Nat) (c0_6 : Nat) (x0_7 : Int) (x0_8 : Int) (x0_9 : Int) (a0_10 : Option Addr) (n0_10 : Nat) (c0_10 : Nat) (x1 : Int) (w : World) (K : Value → World → Prop) : Prop :=
  newO w (.cells #[.int .i64 x0_0, .int .i64 x0_1, .int .i64 x0_2, .int .i64 x0_3, .int .i64 x0_4, .int .i64 x0_5, .slice a0_6 n0_6 c0_6, .int .i64 x0_7, .int .i64 x0_8, .int .i64 x0_9, .slice a0_10 n0_10 c0_10] 32) fun g w_2 =>
  Calls Try.prog 22 #[.agg #[.int .i64 x0_0, .int .i64 x0_1, .int .i64 x0_2, .int .i64 x0_3, .int .i64 x0_4, .int .i64 x0_5, .slice a0_6 n0_6 c0_6, .int .i64 x0_7, .int .i64 x0_8, .int .i64 x0_9, .slice a0_10 n0_10 c0_10]] w_2 fun e w_3 => KeepG [g] w_2 w_3 ∧
  ∃ (x9 : Int),
  e = .returned (.int .i64 x9) ∧
  br (decide (x9 ≠ 0)) (
    K (.tuple #[.int .i64 0, .int .i64 1]) w_3
  ) (
    Calls Try.prog 61 #[.int .i64 x1] w_3 fun e_2 w_4 => KeepG [g] w_3 w_4 ∧
    ∃ (b13 : Bool),
    e_2 = .returned (.bool b13) ∧
    br (!b13) (
      K (.tuple #[.int .i64 0, .int .i64 1]) w_4
    ) (
      Calls Try.prog 62 #[.int .i64 x1, .int .i64 x0_5] w_4 fun e_3 w_5 => KeepG [g] w_4 w_5 ∧
      ∃ (x21_0 : Int) (b21_1 : Bool),
      e_3 = .returned (.tuple #[.int .i64 x21_0, .bool b21_1]) ∧
      br (!b21_1) (
        K (.tuple #[.int .i64 0, .int .i64 1]) w_5
      ) (
        Calls Try.prog 65 #[.agg #[.int .i64 x0_0, .int .i64 x0_1, .int .i64 x0_2, .int .i64 x0_3, .int .i64 x0_4, .int .i64 x0_5, .slice a0_6 n0_6 c0_6, .int .i64 x0_7, .int .i64 x0_8, .int .i64 x0_9, .slice a0_10 n0_10 c0_10]] w_5 fun e_4 w_6 => KeepG [g] w_5 w_6 ∧
        ∃ (x28 : Int),
        e_4 = .returned (.int .i64 x28) ∧
        K (.tuple #[.int .i64 (IntKind.i64.wrap (x21_0 * x28)), .int .i64 0]) w_6
      )
    )
  )
def worst_notes : Notes := ⟨[], [], []⟩
theorem worst_calls (x0_0 : Int) (x0_1 : Int) (x0_2 : Int) (x0_3 : Int) (x0_4 : Int) (x0_5 : Int) (a0_6 : Option Addr) (n0_6 : Nat) (c0_6 : Nat) (x0_7 : Int) (x0_8 : Int) (x0_9 : Int) (a0_10 : Option Addr) (n0_10 : Nat) (c0_10 : Nat) (x1 : Int) (w : World) (K : Value → World → Prop) (h : worst_vc x0_0 x0_1 x0_2 x0_3 x0_4 x0_5 a0_6 n0_6 c0_6 x0_7 x0_8 x0_9 a0_10 n0_10 c0_10 x1 w K) : Calls Try.prog 24 #[.agg #[.int .i64 x0_0, .int .i64 x0_1, .int .i64 x0_2, .int .i64 x0_3, .int .i64 x0_4, .int .i64 x0_5, .slice a0_6 n0_6 c0_6, .int .i64 x0_7, .int .i64 x0_8, .int .i64 x0_9, .slice a0_10 n0_10 c0_10], .int .i64 x1] w fun e w' => ∃ v, e = .returned v ∧ K v w' :=
  calls_of_fvc envOk Try.func24 worst_notes [2] [.agg #[.int .i64 x0_0, .int .i64 x0_1, .int .i64 x0_2, .int .i64 x0_3, .int .i64 x0_4, .int .i64 x0_5, .slice a0_6 n0_6 c0_6, .int .i64 x0_7, .int .i64 x0_8, .int .i64 x0_9, .slice a0_10 n0_10 c0_10], .int .i64 x1] w K (use_vc h (by as_aux_lemma => kernel_rfl))
/-- purser/rate.Fit -/
def fit_vc (x0_0 : Int) (x0_1 : Int) (x0_2 : Int) (x0_3 : Int) (x0_4 : Int) (x0_5 : Int) (a0_6 : Option Addr) (n0_6 : Nat) (c0_6 : Nat) (x0_7 : Int) (x0_8 : Int) (x0_9 : Int) (a0_10 : Option Addr) (n0_10 : Nat) (c0_10 : Nat) (x1 : Int) (x2 : Int) (w : World) (K : Value → World → Prop) : Prop :=
  newO w (.cells #[.int .i64 x0_0, .int .i64 x0_1, .int .i64 x0_2, .int .i64 x0_3, .int .i64 x0_4, .int .i64 x0_5, .slice a0_6 n0_6 c0_6, .int .i64 x0_7, .int .i64 x0_8, .int .i64 x0_9, .slice a0_10 n0_10 c0_10] 32) fun g w_2 =>
  Calls Try.prog 22 #[.agg #[.int .i64 x0_0, .int .i64 x0_1, .int .i64 x0_2, .int .i64 x0_3, .int .i64 x0_4, .int .i64 x0_5, .slice a0_6 n0_6 c0_6, .int .i64 x0_7, .int .i64 x0_8, .int .i64 x0_9, .slice a0_10 n0_10 c0_10]] w_2 fun e w_3 => KeepG [g] w_2 w_3 ∧
  ∃ (x16 : Int),
  e = .returned (.int .i64 x16) ∧
  br (decide (x16 ≠ 0)) (
    K (.tuple #[.int .i64 0, .int .i64 0, .int .i64 1]) w_3
  ) (
    Calls Try.prog 61 #[.int .i64 x2] w_3 fun e_2 w_4 => KeepG [g] w_3 w_4 ∧
    ∃ (b20 : Bool),
    e_2 = .returned (.bool b20) ∧
    br (!b20) (
      K (.tuple #[.int .i64 0, .int .i64 0, .int .i64 1]) w_4
    ) (
      br (decide (x1 < 0)) (
        K (.tuple #[.int .i64 0, .int .i64 0, .int .i64 1]) w_4
      ) (
        Calls Try.prog 65 #[.agg #[.int .i64 x0_0, .int .i64 x0_1, .int .i64 x0_2, .int .i64 x0_3, .int .i64 x0_4, .int .i64 x0_5, .slice a0_6 n0_6 c0_6, .int .i64 x0_7, .int .i64 x0_8, .int .i64 x0_9, .slice a0_10 n0_10 c0_10]] w_4 fun e_3 w_5 => KeepG [g] w_4 w_5 ∧
        ∃ (x29 : Int),
        e_3 = .returned (.int .i64 x29) ∧
        ∃ (J : Int → World → Prop), (
          br (decide (x29 > 0)) (
            drewO w_5 fun w_6 =>
            (x29 : Int) ≠ 0 ∧
            Calls Try.prog 71 #[.int .i64 (IntKind.i64.wrap (Int.tdiv x1 x29)), .int .i64 x0_5] w_6 fun e_4 w_7 => KeepG [g] w_6 w_7 ∧
            ∃ (x39_0 : Int) (b39_1 : Bool),
            e_4 = .returned (.tuple #[.int .i64 x39_0, .bool b39_1]) ∧
            br b39_1 (
              J (min x2 x39_0) w_7
            ) (
              J x2 w_7
            )
          ) (
            J x2 w_5
          )
        ) ∧
        ∀ (x9 : Int) (w_8 : World), J x9 w_8 →
        Calls Try.prog 24 #[.agg #[.int .i64 x0_0, .int .i64 x0_1, .int .i64 x0_2, .int .i64 x0_3, .int .i64 x0_4, .int .i64 x0_5, .slice a0_6 n0_6 c0_6, .int .i64 x0_7, .int .i64 x0_8, .int .i64 x0_9, .slice a0_10 n0_10 c0_10], .int .i64 x9] w_8 fun e_5 w_9 => KeepG [g] w_8 w_9 ∧
        ∃ (x49_0 : Int) (x49_1 : Int),
        e_5 = .returned (.tuple #[.int .i64 x49_0, .int .i64 x49_1]) ∧
        K (.tuple #[.int .i64 x9, .int .i64 x49_0, .int .i64 x49_1]) w_9
      )
    )
  )
def fit_notes : Notes := ⟨[(6, ⟨[0, 0, 3, 0, 8, 24, 63, 127, 255, 255, 511, 2047], [6], [0, 1, 2, 3, 4, 5, 7, 8, 9, 10, 11]⟩)], [], [((1, 6), ⟨[(9, .lf (.int .i64))], [], [33, 34, 35, 36, 37, 38, 39, 32, 40, 41, 11, 12, 42, 43, 44, 45, 9], []⟩)]⟩
theorem fit_calls (x0_0 : Int) (x0_1 : Int) (x0_2 : Int) (x0_3 : Int) (x0_4 : Int) (x0_5 : Int) (a0_6 : Option Addr) (n0_6 : Nat) (c0_6 : Nat) (x0_7 : Int) (x0_8 : Int) (x0_9 : Int) (a0_10 : Option Addr) (n0_10 : Nat) (c0_10 : Nat) (x1 : Int) (x2 : Int) (w : World) (K : Value → World → Prop) (h : fit_vc x0_0 x0_1 x0_2 x0_3 x0_4 x0_5 a0_6 n0_6 c0_6 x0_7 x0_8 x0_9 a0_10 n0_10 c0_10 x1 x2 w K) : Calls Try.prog 33 #[.agg #[.int .i64 x0_0, .int .i64 x0_1, .int .i64 x0_2, .int .i64 x0_3, .int .i64 x0_4, .int .i64 x0_5, .slice a0_6 n0_6 c0_6, .int .i64 x0_7, .int .i64 x0_8, .int .i64 x0_9, .slice a0_10 n0_10 c0_10], .int .i64 x1, .int .i64 x2] w fun e w' => ∃ v, e = .returned v ∧ K v w' :=
  calls_of_fvc envOk Try.func33 fit_notes [3] [.agg #[.int .i64 x0_0, .int .i64 x0_1, .int .i64 x0_2, .int .i64 x0_3, .int .i64 x0_4, .int .i64 x0_5, .slice a0_6 n0_6 c0_6, .int .i64 x0_7, .int .i64 x0_8, .int .i64 x0_9, .slice a0_10 n0_10 c0_10], .int .i64 x1, .int .i64 x2] w K (use_vc h (by as_aux_lemma => kernel_rfl))
/-- purser/purserref09.Check -/
def rcheck_vc (x0_0 : Int) (x0_1 : Int) (x0_2 : Int) (a0_3 : Option Addr) (n0_3 : Nat) (c0_3 : Nat) (w : World) (K : Value → World → Prop) : Prop :=
  newO w (.cells #[.int .i64 x0_0, .int .i64 x0_1, .int .i64 x0_2, .slice a0_3 n0_3 c0_3] 24) fun g w_2 =>
  br (decide (x0_0 < 1)) (
    K (.int .i64 1) w_2
  ) (
    br (decide (x0_0 > 8)) (
      K (.int .i64 1) w_2
    ) (
      br (decide (x0_2 < 1)) (
        K (.int .i64 1) w_2
      ) (
        br (decide (x0_2 > 1073741824)) (
          K (.int .i64 1) w_2
        ) (
          ∃ (J : Bool → World → Prop), (
            br (decide (x0_1 ≠ 1)) (
              J (decide (x0_1 ≠ 2)) w_2
            ) (
              J false w_2
            )
          ) ∧
          ∀ (b31 : Bool) (w_3 : World), J b31 w_3 →
          br b31 (
            K (.int .i64 21) w_3
          ) (
            br (decide (((n0_3 : Nat) : Int) < 1)) (
              K (.int .i64 5) w_3
            ) (
              br (decide (((n0_3 : Nat) : Int) > 6)) (
                K (.int .i64 5) w_3
              ) (
                ∃ (I : Int → Int → World → Prop) (μ : Int → Int → World → Nat),
                I 0 0 w_3 ∧
                ∀ (x3 : Int) (x4 : Int) (w_4 : World), I x3 x4 w_4 →
                br (decide (x4 < ((n0_3 : Nat) : Int))) (
                  withP a0_3 fun g52 o52 =>
                  (0 : Int) ≤ x4 ∧ x4 < (((n0_3 : Nat) : Int) : Int) ∧
                  ∃ (x53_0 : Int) (x53_1 : Int),
                  cellsAt w_4 g52 (o52 + x4.toNat * 2) [.int .i64 x53_0, .int .i64 x53_1] ∧
                  newO w_4 (.cells #[.int .i64 0, .int .i64 0] 120) fun g_2 w_5 =>
                  ∀ w_6 : World, BoxSt g_2 w_5 w_6 →
                  br (decide (x53_1 < 0)) (
                    K (.int .i64 1) w_6
                  ) (
                    br (decide (x53_1 > 1048576)) (
                      K (.int .i64 1) w_6
                    ) (
                      br (decide (x4 = (IntKind.i64.wrap (((n0_3 : Nat) : Int) - 1)))) (
                        br (decide (x53_0 ≠ 0)) (
                          K (.int .i64 15) w_6
                        ) (
                          I x53_0 (IntKind.i64.wrap (x4 + 1)) w_6 ∧ μ x53_0 (IntKind.i64.wrap (x4 + 1)) w_6 < μ x3 x4 w_4
                        )
                      ) (
                        br (decide (x53_0 ≤ x3)) (
                          K (.int .i64 15) w_6
                        ) (
                          br (decide (x53_0 > 1099511627776)) (
                            K (.int .i64 15) w_6
                          ) (
                            I x53_0 (IntKind.i64.wrap (x4 + 1)) w_6 ∧ μ x53_0 (IntKind.i64.wrap (x4 + 1)) w_6 < μ x3 x4 w_4
                          )
                        )
                      )
                    )
                  )
                ) (
                  K (.int .i64 0) w_4
                )
              )
            )
          )
        )
      )
    )
  )
def rcheck_notes : Notes := ⟨[], [(9, ⟨[(3, .lf (.int .i64)), (4, .lf (.int .i64))], [], [42, 43, 44, 45, 46, 49, 50, 51, 52, 53, 5, 54, 55, 56, 57, 58, 59, 60, 61, 2, 62, 63, 64, 65, 66, 67, 68, 69, 70, 71, 72, 73, 74, 75, 76, 77, 78, 79, 80, 81, 3, 47, 48, 4], [5]⟩)], [((0, 3), ⟨[(31, .lf (.bool))], [], [24, 25, 26, 27, 28, 29, 30, 31], []⟩)]⟩
theorem rcheck_calls (x0_0 : Int) (x0_1 : Int) (x0_2 : Int) (a0_3 : Option Addr) (n0_3 : Nat) (c0_3 : Nat) (w : World) (K : Value → World → Prop) (h : rcheck_vc x0_0 x0_1 x0_2 a0_3 n0_3 c0_3 w K) : Calls Try.prog 43 #[.agg #[.int .i64 x0_0, .int .i64 x0_1, .int .i64 x0_2, .slice a0_3 n0_3 c0_3]] w fun e w' => ∃ v, e = .returned v ∧ K v w' :=
  calls_of_fvc envOk Try.func43 rcheck_notes [1, 5] [.agg #[.int .i64 x0_0, .int .i64 x0_1, .int .i64 x0_2, .slice a0_3 n0_3 c0_3]] w K (use_vc h (by as_aux_lemma => kernel_rfl))
/-- purser/purserref09.CheckPlan -/
def rcplan_vc (x0_0 : Int) (x0_1 : Int) (x0_2 : Int) (x0_3 : Int) (x0_4 : Int) (x0_5 : Int) (a0_6 : Option Addr) (n0_6 : Nat) (c0_6 : Nat) (x0_7 : Int) (x0_8 : Int) (x0_9 : Int) (a0_10 : Option Addr) (n0_10 : Nat) (c0_10 : Nat) (w : World) (K : Value → World → Prop) : Prop :=
  newO w (.cells #[.int .i64 x0_0, .int .i64 x0_1, .int .i64 x0_2, .int .i64 x0_3, .int .i64 x0_4, .int .i64 x0_5, .slice a0_6 n0_6 c0_6, .int .i64 x0_7, .int .i64 x0_8, .int .i64 x0_9, .slice a0_10 n0_10 c0_10] 26) fun g w_2 =>
  Calls Try.prog 43 #[.agg #[.int .i64 x0_3, .int .i64 x0_4, .int .i64 x0_5, .slice a0_6 n0_6 c0_6]] w_2 fun e w_3 => KeepG [g] w_2 w_3 ∧
  ∃ (x8 : Int),
  e = .returned (.int .i64 x8) ∧
  br (decide (x8 ≠ 0)) (
    K (.int .i64 x8) w_3
  ) (
    br (decide (x0_0 = 0)) (
      newO w_3 (.cells #[.int .i64 0, .int .i64 0, .int .i64 0, .slice none 0 0] 24) fun g_2 w_4 =>
      ∀ w_5 : World, BoxSt g_2 w_4 w_5 →
      br (decide (x0_1 ≠ 0)) (
        K (.int .i64 2) w_5
      ) (
        br (decide (x0_2 ≠ 0)) (
          K (.int .i64 2) w_5
        ) (
          br (decide (x0_7 ≠ 0)) (
            K (.int .i64 2) w_5
          ) (
            br (decide (x0_8 ≠ 0)) (
              K (.int .i64 2) w_5
            ) (
              br (decide (x0_9 ≠ 0)) (
                K (.int .i64 2) w_5
              ) (
                br (decide (((n0_10 : Nat) : Int) ≠ 0)) (
                  K (.int .i64 2) w_5
                ) (
                  K (.int .i64 0) w_5
                )
              )
            )
          )
        )
      )
    ) (
      br (decide (x0_0 < 2)) (
        K (.int .i64 1) w_3
      ) (
        br (decide (x0_0 > 1073741824)) (
          K (.int .i64 1) w_3
        ) (
          br (decide (x0_1 < 0)) (
            K (.int .i64 1) w_3
          ) (
            br (decide (x0_1 ≥ x0_0)) (
              K (.int .i64 1) w_3
            ) (
              br (decide (x0_2 < 0)) (
                K (.int .i64 1) w_3
              ) (
                br (decide (x0_2 ≥ x0_0)) (
                  K (.int .i64 1) w_3
                ) (
                  br (decide (x0_1 = x0_2)) (
                    K (.int .i64 1) w_3
                  ) (
                    Calls Try.prog 43 #[.agg #[.int .i64 x0_7, .int .i64 x0_8, .int .i64 x0_9, .slice a0_10 n0_10 c0_10]] w_3 fun e_2 w_6 => KeepG [g] w_3 w_6 ∧
                    ∃ (x87 : Int),
                    e_2 = .returned (.int .i64 x87) ∧
                    br (decide (x87 ≠ 0)) (
                      K (.int .i64 x87) w_6
                    ) (
                      br (decide (x0_3 ≠ x0_7)) (
                        K (.int .i64 20) w_6
                      ) (
                        br (decide (x0_5 ≠ x0_9)) (
                          K (.int .i64 20) w_6
                        ) (
                          K (.int .i64 0) w_6
                        )
                      )
                    )
                  )
                )
              )
            )
          )
        )
      )
    )
  )
def rcplan_notes : Notes := ⟨[], [], []⟩
theorem rcplan_calls (x0_0 : Int) (x0_1 : Int) (x0_2 : Int) (x0_3 : Int) (x0_4 : Int) (x0_5 : Int) (a0_6 : Option Addr) (n0_6 : Nat) (c0_6 : Nat) (x0_7 : Int) (x0_8 : Int) (x0_9 : Int) (a0_10 : Option Addr) (n0_10 : Nat) (c0_10 : Nat) (w : World) (K : Value → World → Prop) (h : rcplan_vc x0_0 x0_1 x0_2 x0_3 x0_4 x0_5 a0_6 n0_6 c0_6 x0_7 x0_8 x0_9 a0_10 n0_10 c0_10 w K) : Calls Try.prog 14 #[.agg #[.int .i64 x0_0, .int .i64 x0_1, .int .i64 x0_2, .int .i64 x0_3, .int .i64 x0_4, .int .i64 x0_5, .slice a0_6 n0_6 c0_6, .int .i64 x0_7, .int .i64 x0_8, .int .i64 x0_9, .slice a0_10 n0_10 c0_10]] w fun e w' => ∃ v, e = .returned v ∧ K v w' :=
  calls_of_fvc envOk Try.func14 rcplan_notes [1, 4] [.agg #[.int .i64 x0_0, .int .i64 x0_1, .int .i64 x0_2, .int .i64 x0_3, .int .i64 x0_4, .int .i64 x0_5, .slice a0_6 n0_6 c0_6, .int .i64 x0_7, .int .i64 x0_8, .int .i64 x0_9, .slice a0_10 n0_10 c0_10]] w K (use_vc h (by as_aux_lemma => kernel_rfl))
/-- purser/purserref09.Is -/
def ris_vc (x0_0 : Int) (x0_1 : Int) (x0_2 : Int) (x0_3 : Int) (x0_4 : Int) (x0_5 : Int) (a0_6 : Option Addr) (n0_6 : Nat) (c0_6 : Nat) (x0_7 : Int) (x0_8 : Int) (x0_9 : Int) (a0_10 : Option Addr) (n0_10 : Nat) (c0_10 : Nat) (x1 : Int) (w : World) (K : Value → World → Prop) : Prop :=
  newO w (.cells #[.int .i64 x0_0, .int .i64 x0_1, .int .i64 x0_2, .int .i64 x0_3, .int .i64 x0_4, .int .i64 x0_5, .slice a0_6 n0_6 c0_6, .int .i64 x0_7, .int .i64 x0_8, .int .i64 x0_9, .slice a0_10 n0_10 c0_10] 26) fun g w_2 =>
  br (decide (x0_0 = 0)) (
    K (.bool false) w_2
  ) (
    (x0_0 : Int) ≠ 0 ∧
    br (decide (x0_1 < x0_2)) (
      br (decide ((Int.tmod x1 x0_0) ≥ x0_1)) (
        K (.bool (decide ((Int.tmod x1 x0_0) < x0_2))) w_2
      ) (
        K (.bool false) w_2
      )
    ) (
      br (decide ((Int.tmod x1 x0_0) ≥ x0_1)) (
        K (.bool true) w_2
      ) (
        K (.bool (decide ((Int.tmod x1 x0_0) < x0_2))) w_2
      )
    )
  )
def ris_notes : Notes := ⟨[], [], []⟩
theorem ris_calls (x0_0 : Int) (x0_1 : Int) (x0_2 : Int) (x0_3 : Int) (x0_4 : Int) (x0_5 : Int) (a0_6 : Option Addr) (n0_6 : Nat) (c0_6 : Nat) (x0_7 : Int) (x0_8 : Int) (x0_9 : Int) (a0_10 : Option Addr) (n0_10 : Nat) (c0_10 : Nat) (x1 : Int) (w : World) (K : Value → World → Prop) (h : ris_vc x0_0 x0_1 x0_2 x0_3 x0_4 x0_5 a0_6 n0_6 c0_6 x0_7 x0_8 x0_9 a0_10 n0_10 c0_10 x1 w K) : Calls Try.prog 38 #[.agg #[.int .i64 x0_0, .int .i64 x0_1, .int .i64 x0_2, .int .i64 x0_3, .int .i64 x0_4, .int .i64 x0_5, .slice a0_6 n0_6 c0_6, .int .i64 x0_7, .int .i64 x0_8, .int .i64 x0_9, .slice a0_10 n0_10 c0_10], .int .i64 x1] w fun e w' => ∃ v, e = .returned v ∧ K v w' :=
  calls_of_fvc envOk Try.func38 ris_notes [2] [.agg #[.int .i64 x0_0, .int .i64 x0_1, .int .i64 x0_2, .int .i64 x0_3, .int .i64 x0_4, .int .i64 x0_5, .slice a0_6 n0_6 c0_6, .int .i64 x0_7, .int .i64 x0_8, .int .i64 x0_9, .slice a0_10 n0_10 c0_10], .int .i64 x1] w K (use_vc h (by as_aux_lemma => kernel_rfl))
/-- purser/purserref09.Same -/
def rsame_vc (x0_0 : Int) (x0_1 : Int) (x0_2 : Int) (a0_3 : Option Addr) (n0_3 : Nat) (c0_3 : Nat) (x1_0 : Int) (x1_1 : Int) (x1_2 : Int) (a1_3 : Option Addr) (n1_3 : Nat) (c1_3 : Nat) (w : World) (K : Value → World → Prop) : Prop :=
  newO w (.cells #[.int .i64 x0_0, .int .i64 x0_1, .int .i64 x0_2, .slice a0_3 n0_3 c0_3] 24) fun g w_2 =>
  newO w_2 (.cells #[.int .i64 x1_0, .int .i64 x1_1, .int .i64 x1_2, .slice a1_3 n1_3 c1_3] 24) fun g_2 w_3 =>
  br (decide (x0_0 ≠ x1_0)) (
    K (.bool false) w_3
  ) (
    br (decide (x0_1 ≠ x1_1)) (
      K (.bool false) w_3
    ) (
      br (decide (x0_2 ≠ x1_2)) (
        K (.bool false) w_3
      ) (
        br (decide (((n0_3 : Nat) : Int) ≠ ((n1_3 : Nat) : Int))) (
          K (.bool false) w_3
        ) (
          ∃ (I : Int → World → Prop) (μ : Int → World → Nat),
          I 0 w_3 ∧
          ∀ (x5 : Int) (w_4 : World), I x5 w_4 →
          br (decide (x5 < ((n0_3 : Nat) : Int))) (
            drewO w_4 fun w_5 =>
            withP a0_3 fun g44 o44 =>
            (0 : Int) ≤ x5 ∧ x5 < (((n0_3 : Nat) : Int) : Int) ∧
            ∃ (x45_0 : Int) (x45_1 : Int),
            cellsAt w_5 g44 (o44 + x5.toNat * 2) [.int .i64 x45_0, .int .i64 x45_1] ∧
            withP a1_3 fun g49 o49 =>
            (0 : Int) ≤ x5 ∧ x5 < (((n1_3 : Nat) : Int) : Int) ∧
            ∃ (x50_0 : Int) (x50_1 : Int),
            cellsAt w_5 g49 (o49 + x5.toNat * 2) [.int .i64 x50_0, .int .i64 x50_1] ∧
            br (!((decide (x45_0 = x50_0)) && ((decide (x45_1 = x50_1)) && true))) (
              K (.bool false) w_5
            ) (
              I (IntKind.i64.wrap (x5 + 1)) w_5 ∧ μ (IntKind.i64.wrap (x5 + 1)) w_5 < μ x5 w_4
            )
          ) (
            K (.bool true) w_4
          )
        )
      )
    )
  )
def rsame_notes : Notes := ⟨[(6, ⟨[0, 1, 0, 7, 15, 0, 32, 0, 224, 480, 1023], [], [0, 1, 2, 3, 4, 5, 6, 7, 8, 9, 10]⟩)], [(4, ⟨[(5, .lf (.int .i64))], [], [34, 35, 36, 37, 38, 41, 42, 43, 44, 45, 46, 47, 48, 49, 50, 51, 4, 39, 40, 5], []⟩)], []⟩
theorem rsame_calls (x0_0 : Int) (x0_1 : Int) (x0_2 : Int) (a0_3 : Option Addr) (n0_3 : Nat) (c0_3 : Nat) (x1_0 : Int) (x1_1 : Int) (x1_2 : Int) (a1_3 : Option Addr) (n1_3 : Nat) (c1_3 : Nat) (w : World) (K : Value → World → Prop) (h : rsame_vc x0_0 x0_1 x0_2 a0_3 n0_3 c0_3 x1_0 x1_1 x1_2 a1_3 n1_3 c1_3 w K) : Calls Try.prog 53 #[.agg #[.int .i64 x0_0, .int .i64 x0_1, .int .i64 x0_2, .slice a0_3 n0_3 c0_3], .agg #[.int .i64 x1_0, .int .i64 x1_1, .int .i64 x1_2, .slice a1_3 n1_3 c1_3]] w fun e w' => ∃ v, e = .returned v ∧ K v w' :=
  calls_of_fvc envOk Try.func53 rsame_notes [2, 3] [.agg #[.int .i64 x0_0, .int .i64 x0_1, .int .i64 x0_2, .slice a0_3 n0_3 c0_3], .agg #[.int .i64 x1_0, .int .i64 x1_1, .int .i64 x1_2, .slice a1_3 n1_3 c1_3]] w K (use_vc h (by as_aux_lemma => kernel_rfl))
/-- purser/purserref10.Index -/
def rindex_vc (x0_0 : Int) (x0_1 : Int) (x0_2 : Int) (a0_3 : Option Addr) (n0_3 : Nat) (c0_3 : Nat) (x1 : Int) (w : World) (K : Value → World → Prop) : Prop :=
  newO w (.cells #[.int .i64 x0_0, .int .i64 x0_1, .int .i64 x0_2, .slice a0_3 n0_3 c0_3] 24) fun g w_2 =>
  Calls Try.prog 43 #[.agg #[.int .i64 x0_0, .int .i64 x0_1, .int .i64 x0_2, .slice a0_3 n0_3 c0_3]] w_2 fun e w_3 => KeepG [g] w_2 w_3 ∧
  ∃ (x7 : Int),
  e = .returned (.int .i64 x7) ∧
  br (decide (x7 ≠ 0)) (
    K (.int .i64 (-1)) w_3
  ) (
    br (decide (x1 < 1)) (
      K (.int .i64 (-1)) w_3
    ) (
      ∃ (I : Int → World → Prop) (μ : Int → World → Nat),
      I 0 w_3 ∧
      ∀ (x5 : Int) (w_4 : World), I x5 w_4 →
      br (decide (x5 < ((n0_3 : Nat) : Int))) (
        withP a0_3 fun g23 o23 =>
        (0 : Int) ≤ x5 ∧ x5 < (((n0_3 : Nat) : Int) : Int) ∧
        ∃ (x25 : Int), w_4.cell? ⟨g23, o23 + x5.toNat * 2, none⟩ = some (.int .i64 x25) ∧
        br (decide (x25 = 0)) (
          K (.int .i64 x5) w_4
        ) (
          withP a0_3 fun g32 o32 =>
          (0 : Int) ≤ x5 ∧ x5 < (((n0_3 : Nat) : Int) : Int) ∧
          ∃ (x34 : Int), w_4.cell? ⟨g32, o32 + x5.toNat * 2, none⟩ = some (.int .i64 x34) ∧
          br (decide (x1 ≤ x34)) (
            K (.int .i64 x5) w_4
          ) (
            I (IntKind.i64.wrap (x5 + 1)) w_4 ∧ μ (IntKind.i64.wrap (x5 + 1)) w_4 < μ x5 w_4
          )
        )
      ) (
        K (.int .i64 (-1)) w_4
      )
    )
  )
def rindex_notes : Notes := ⟨[], [(4, ⟨[(5, .lf (.int .i64))], [], [13, 14, 15, 16, 17, 20, 21, 22, 23, 24, 25, 26, 27, 28, 29, 30, 31, 32, 33, 34, 35, 36, 37, 4, 18, 19, 5], []⟩)], []⟩
theorem rindex_calls (x0_0 : Int) (x0_1 : Int) (x0_2 : Int) (a0_3 : Option Addr) (n0_3 : Nat) (c0_3 : Nat) (x1 : Int) (w : World) (K : Value → World → Prop) (h : rindex_vc x0_0 x0_1 x0_2 a0_3 n0_3 c0_3 x1 w K) : Calls Try.prog 89 #[.agg #[.int .i64 x0_0, .int .i64 x0_1, .int .i64 x0_2, .slice a0_3 n0_3 c0_3], .int .i64 x1] w fun e w' => ∃ v, e = .returned v ∧ K v w' :=
  calls_of_fvc envOk Try.func89 rindex_notes [2] [.agg #[.int .i64 x0_0, .int .i64 x0_1, .int .i64 x0_2, .slice a0_3 n0_3 c0_3], .int .i64 x1] w K (use_vc h (by as_aux_lemma => kernel_rfl))
/-- purser/purserref10.Split -/
def rsplit_vc (x0_0 : Int) (x0_1 : Int) (x0_2 : Int) (a0_3 : Option Addr) (n0_3 : Nat) (c0_3 : Nat) (x1 : Int) (x2 : Int) (w : World) (K : Value → World → Prop) : Prop :=
  newO w (.cells #[.int .i64 x0_0, .int .i64 x0_1, .int .i64 x0_2, .slice a0_3 n0_3 c0_3] 24) fun g w_2 =>
  Calls Try.prog 43 #[.agg #[.int .i64 x0_0, .int .i64 x0_1, .int .i64 x0_2, .slice a0_3 n0_3 c0_3]] w_2 fun e w_3 => KeepG [g] w_2 w_3 ∧
  ∃ (x14 : Int),
  e = .returned (.int .i64 x14) ∧
  br (decide (x14 ≠ 0)) (
    K (.tuple #[.slice none 0 0, .int .i64 1]) w_3
  ) (
    br (decide (x1 < 0)) (
      K (.tuple #[.slice none 0 0, .int .i64 1]) w_3
    ) (
      br (decide (x1 > 1099511627776)) (
        K (.tuple #[.slice none 0 0, .int .i64 1]) w_3
      ) (
        br (decide (x2 < 0)) (
          K (.tuple #[.slice none 0 0, .int .i64 1]) w_3
        ) (
          br (decide (x2 > 1073741824)) (
            K (.tuple #[.slice none 0 0, .int .i64 1]) w_3
          ) (
            br (decide (x2 = 0)) (
              K (.tuple #[.slice none 0 0, .int .i64 0]) w_3
            ) (
              br (decide (x0_1 = 2)) (
                Calls Try.prog 89 #[.agg #[.int .i64 x0_0, .int .i64 x0_1, .int .i64 x0_2, .slice a0_3 n0_3 c0_3], .int .i64 (IntKind.i64.wrap (x1 + x2))] w_3 fun e_2 w_4 => KeepG [g] w_3 w_4 ∧
                ∃ (x41 : Int),
                e_2 = .returned (.int .i64 x41) ∧
                withP a0_3 fun g47 o47 =>
                (0 : Int) ≤ x41 ∧ x41 < (((n0_3 : Nat) : Int) : Int) ∧
                ∃ (x49 : Int), w_4.cell? ⟨g47, o47 + x41.toNat * 2 + 1, none⟩ = some (.int .i64 x49) ∧
                newO w_4 (.cells #[.int .i64 x41, .int .i64 x2, .int .i64 x49] 116) fun g_2 w_5 =>
                K (.tuple #[.slice (some ⟨g_2, 0, none⟩) 1 1, .int .i64 0]) w_5
              ) (
                ∃ (I : Option Addr → Nat → Nat → Int → World → Prop) (μ : Option Addr → Nat → Nat → Int → World → Nat),
                I none 0 0 0 w_3 ∧
                ∀ (a9 : Option Addr) (n9 : Nat) (c9 : Nat) (x10 : Int) (w_6 : World), I a9 n9 c9 x10 w_6 →
                br (decide (x10 < ((n0_3 : Nat) : Int))) (
                  ∃ (J : Int → World → Prop), (
                    br (decide (x10 > 0)) (
                      withP a0_3 fun g70 o70 =>
                      (0 : Int) ≤ IntKind.i64.wrap (x10 - 1) ∧ IntKind.i64.wrap (x10 - 1) < (((n0_3 : Nat) : Int) : Int) ∧
                      ∃ (x72 : Int), w_6.cell? ⟨g70, o70 + (IntKind.i64.wrap (x10 - 1)).toNat * 2, none⟩ = some (.int .i64 x72) ∧
                      J (max x1 x72) w_6
                    ) (
                      J x1 w_6
                    )
                  ) ∧
                  ∀ (x11 : Int) (w_7 : World), J x11 w_7 →
                  withP a0_3 fun g77 o77 =>
                  (0 : Int) ≤ x10 ∧ x10 < (((n0_3 : Nat) : Int) : Int) ∧
                  ∃ (x79 : Int), w_7.cell? ⟨g77, o77 + x10.toNat * 2, none⟩ = some (.int .i64 x79) ∧
                  ∃ (J_2 : Int → World → Prop), (
                    br (decide (x79 > 0)) (
                      withP a0_3 fun g85 o85 =>
                      (0 : Int) ≤ x10 ∧ x10 < (((n0_3 : Nat) : Int) : Int) ∧
                      ∃ (x87 : Int), w_7.cell? ⟨g85, o85 + x10.toNat * 2, none⟩ = some (.int .i64 x87) ∧
                      J_2 (min (IntKind.i64.wrap (x1 + x2)) x87) w_7
                    ) (
                      J_2 (IntKind.i64.wrap (x1 + x2)) w_7
                    )
                  ) ∧
                  ∀ (x12 : Int) (w_8 : World), J_2 x12 w_8 →
                  br (decide (x12 > x11)) (
                    withP a0_3 fun g100 o100 =>
                    (0 : Int) ≤ x10 ∧ x10 < (((n0_3 : Nat) : Int) : Int) ∧
                    ∃ (x102 : Int), w_8.cell? ⟨g100, o100 + x10.toNat * 2 + 1, none⟩ = some (.int .i64 x102) ∧
                    newO w_8 (.cells #[.int .i64 x10, .int .i64 (IntKind.i64.wrap (x12 - x11)), .int .i64 x102] 116) fun g_3 w_9 =>
                    appO Try.prog [g] w_9 116 3 24 51 a9 n9 c9 (.slice (some ⟨g_3, 0, none⟩) 1 1) fun m105 a105 c105 w_10 =>
                    I a105 (n9 + m105) c105 (IntKind.i64.wrap (x10 + 1)) w_10 ∧ μ a105 (n9 + m105) c105 (IntKind.i64.wrap (x10 + 1)) w_10 < μ a9 n9 c9 x10 w_6
                  ) (
                    I a9 n9 c9 (IntKind.i64.wrap (x10 + 1)) w_8 ∧ μ a9 n9 c9 (IntKind.i64.wrap (x10 + 1)) w_8 < μ a9 n9 c9 x10 w_6
                  )
                ) (
                  K (.tuple #[.slice a9 n9 c9, .int .i64 0]) w_6
                )
              )
            )
          )
        )
      )
    )
  )
def rsplit_notes : Notes := ⟨[], [(10, ⟨[(9, .lf (.slice)), (10, .lf (.int .i64))], [], [52, 53, 54, 55, 56, 59, 60, 61, 62, 11, 12, 63, 64, 65, 66, 67, 68, 69, 70, 71, 72, 73, 74, 75, 76, 77, 78, 79, 80, 81, 82, 83, 84, 85, 86, 87, 88, 89, 90, 91, 92, 93, 94, 95, 96, 97, 98, 99, 100, 101, 102, 103, 104, 105, 9, 57, 58, 10], []⟩)], [((1, 14), ⟨[(11, .lf (.int .i64))], [], [65, 66, 67, 68, 69, 70, 71, 72, 73, 11], []⟩), ((1, 16), ⟨[(12, .lf (.int .i64))], [], [81, 82, 83, 84, 85, 86, 87, 88, 12], []⟩)]⟩
theorem rsplit_calls (x0_0 : Int) (x0_1 : Int) (x0_2 : Int) (a0_3 : Option Addr) (n0_3 : Nat) (c0_3 : Nat) (x1 : Int) (x2 : Int) (w : World) (K : Value → World → Prop) (h : rsplit_vc x0_0 x0_1 x0_2 a0_3 n0_3 c0_3 x1 x2 w K) : Calls Try.prog 69 #[.agg #[.int .i64 x0_0, .int .i64 x0_1, .int .i64 x0_2, .slice a0_3 n0_3 c0_3], .int .i64 x1, .int .i64 x2] w fun e w' => ∃ v, e = .returned v ∧ K v w' :=
  calls_of_fvc envOk Try.func69 rsplit_notes [3] [.agg #[.int .i64 x0_0, .int .i64 x0_1, .int .i64 x0_2, .slice a0_3 n0_3 c0_3], .int .i64 x1, .int .i64 x2] w K (use_vc h (by as_aux_lemma => kernel_rfl))
/-- purser/purserref10.Cost -/
def rcost_vc (a0 : Option Addr) (n0 : Nat) (c0 : Nat) (w : World) (K : Value → World → Prop) : Prop :=
  Calls Try.prog 72 #[.int .i64 0] w fun e w_2 => KeepG [] w w_2 ∧
  ∃ (x9_0 : Int) (x9_1 : Int) (x9_2 : Int) (x9_3 : Int) (x9_4 : Int) (x9_5 : Int) (x9_6 : Int) (x9_7 : Int) (x9_8 : Int) (x9_9 : Int) (b9_10 : Bool),
  e = .returned (.agg #[.int .u64 x9_0, .int .u64 x9_1, .int .u64 x9_2, .int .u64 x9_3, .int .u64 x9_4, .int .u64 x9_5, .int .u64 x9_6, .int .u64 x9_7, .int .u64 x9_8, .int .u64 x9_9, .bool b9_10]) ∧
  newO w_2 (.cells #[.int .u64 0, .int .u64 0, .int .u64 0, .int .u64 0, .int .u64 0, .int .u64 0, .int .u64 0, .int .u64 0, .int .u64 0, .int .u64 0, .bool false] 123) fun g w_3 =>
  ∀ w_4 : World, BoxSt g w_3 w_4 →
  ∃ (I : Int → Int → Int → Int → Int → Int → Int → Int → Int → Int → Int → Bool → World → Prop) (μ : Int → Int → Int → Int → Int → Int → Int → Int → Int → Int → Int → Bool → World → Nat),
  I 0 x9_0 x9_1 x9_2 x9_3 x9_4 x9_5 x9_6 x9_7 x9_8 x9_9 b9_10 w_4 ∧
  ∀ (x5 : Int) (x4_0 : Int) (x4_1 : Int) (x4_2 : Int) (x4_3 : Int) (x4_4 : Int) (x4_5 : Int) (x4_6 : Int) (x4_7 : Int) (x4_8 : Int) (x4_9 : Int) (b4_10 : Bool) (w_5 : World), I x5 x4_0 x4_1 x4_2 x4_3 x4_4 x4_5 x4_6 x4_7 x4_8 x4_9 b4_10 w_5 →
  br (decide (x5 < ((n0 : Nat) : Int))) (
    drewO w_5 fun w_6 =>
    withP a0 fun g18 o18 =>
    (0 : Int) ≤ x5 ∧ x5 < (((n0 : Nat) : Int) : Int) ∧
    ∃ (x20 : Int), w_6.cell? ⟨g18, o18 + x5.toNat * 3 + 1, none⟩ = some (.int .i64 x20) ∧
    withP a0 fun g24 o24 =>
    (0 : Int) ≤ x5 ∧ x5 < (((n0 : Nat) : Int) : Int) ∧
    ∃ (x26 : Int), w_6.cell? ⟨g24, o24 + x5.toNat * 3 + 2, none⟩ = some (.int .i64 x26) ∧
    (
      Calls Try.prog 72 #[.int .i64 x20] w_6 fun e_2 w_7 => KeepG [g] w_6 w_7 ∧
      ∃ (x21_0 : Int) (x21_1 : Int) (x21_2 : Int) (x21_3 : Int) (x21_4 : Int) (x21_5 : Int) (x21_6 : Int) (x21_7 : Int) (x21_8 : Int) (x21_9 : Int) (b21_10 : Bool),
      e_2 = .returned (.agg #[.int .u64 x21_0, .int .u64 x21_1, .int .u64 x21_2, .int .u64 x21_3, .int .u64 x21_4, .int .u64 x21_5, .int .u64 x21_6, .int .u64 x21_7, .int .u64 x21_8, .int .u64 x21_9, .bool b21_10]) ∧
      w_7.cell? ⟨g24, o24 + x5.toNat * 3 + 2, none⟩ = some (.int .i64 x26) ∧
      (
        Calls Try.prog 72 #[.int .i64 x26] w_7 fun e_3 w_8 => KeepG [g] w_7 w_8 ∧
        ∃ (x27_0 : Int) (x27_1 : Int) (x27_2 : Int) (x27_3 : Int) (x27_4 : Int) (x27_5 : Int) (x27_6 : Int) (x27_7 : Int) (x27_8 : Int) (x27_9 : Int) (b27_10 : Bool),
        e_3 = .returned (.agg #[.int .u64 x27_0, .int .u64 x27_1, .int .u64 x27_2, .int .u64 x27_3, .int .u64 x27_4, .int .u64 x27_5, .int .u64 x27_6, .int .u64 x27_7, .int .u64 x27_8, .int .u64 x27_9, .bool b27_10]) ∧
        (
          Calls Try.prog 73 #[.agg #[.int .u64 x21_0, .int .u64 x21_1, .int .u64 x21_2, .int .u64 x21_3, .int .u64 x21_4, .int .u64 x21_5, .int .u64 x21_6, .int .u64 x21_7, .int .u64 x21_8, .int .u64 x21_9, .bool b21_10], .agg #[.int .u64 x27_0, .int .u64 x27_1, .int .u64 x27_2, .int .u64 x27_3, .int .u64 x27_4, .int .u64 x27_5, .int .u64 x27_6, .int .u64 x27_7, .int .u64 x27_8, .int .u64 x27_9, .bool b27_10]] w_8 fun e_4 w_9 => KeepG [g] w_8 w_9 ∧
          ∃ (x28_0 : Int) (x28_1 : Int) (x28_2 : Int) (x28_3 : Int) (x28_4 : Int) (x28_5 : Int) (x28_6 : Int) (x28_7 : Int) (x28_8 : Int) (x28_9 : Int) (b28_10 : Bool),
          e_4 = .returned (.agg #[.int .u64 x28_0, .int .u64 x28_1, .int .u64 x28_2, .int .u64 x28_3, .int .u64 x28_4, .int .u64 x28_5, .int .u64 x28_6, .int .u64 x28_7, .int .u64 x28_8, .int .u64 x28_9, .bool b28_10]) ∧
          newO w_9 (.cells #[.int .u64 0, .int .u64 0, .int .u64 0, .int .u64 0, .int .u64 0, .int .u64 0, .int .u64 0, .int .u64 0, .int .u64 0, .int .u64 0, .bool false] 123) fun g_2 w_10 =>
          ∀ w_11 : World, BoxSt g_2 w_10 w_11 →
          Calls Try.prog 74 #[.agg #[.int .u64 x28_0, .int .u64 x28_1, .int .u64 x28_2, .int .u64 x28_3, .int .u64 x28_4, .int .u64 x28_5, .int .u64 x28_6, .int .u64 x28_7, .int .u64 x28_8, .int .u64 x28_9, .bool b28_10]] w_11 fun e_5 w_12 => KeepG [g_2, g] w_11 w_12 ∧
          ∃ (x31_0 : Int) (b31_1 : Bool),
          e_5 = .returned (.tuple #[.int .i64 x31_0, .bool b31_1]) ∧
          br (!b31_1) (
            K (.tuple #[.int .i64 0, .bool false]) w_12
          ) (
            Calls Try.prog 75 #[.agg #[.int .u64 x4_0, .int .u64 x4_1, .int .u64 x4_2, .int .u64 x4_3, .int .u64 x4_4, .int .u64 x4_5, .int .u64 x4_6, .int .u64 x4_7, .int .u64 x4_8, .int .u64 x4_9, .bool b4_10], .agg #[.int .u64 x28_0, .int .u64 x28_1, .int .u64 x28_2, .int .u64 x28_3, .int .u64 x28_4, .int .u64 x28_5, .int .u64 x28_6, .int .u64 x28_7, .int .u64 x28_8, .int .u64 x28_9, .bool b28_10]] w_12 fun e_6 w_13 => KeepG [g_2, g] w_12 w_13 ∧
            ∃ (x38_0 : Int) (x38_1 : Int) (x38_2 : Int) (x38_3 : Int) (x38_4 : Int) (x38_5 : Int) (x38_6 : Int) (x38_7 : Int) (x38_8 : Int) (x38_9 : Int) (b38_10 : Bool),
            e_6 = .returned (.agg #[.int .u64 x38_0, .int .u64 x38_1, .int .u64 x38_2, .int .u64 x38_3, .int .u64 x38_4, .int .u64 x38_5, .int .u64 x38_6, .int .u64 x38_7, .int .u64 x38_8, .int .u64 x38_9, .bool b38_10]) ∧
            ∀ w_14 : World, BoxSt g w_13 w_14 →
            I (IntKind.i64.wrap (x5 + 1)) x38_0 x38_1 x38_2 x38_3 x38_4 x38_5 x38_6 x38_7 x38_8 x38_9 b38_10 w_14 ∧ μ (IntKind.i64.wrap (x5 + 1)) x38_0 x38_1 x38_2 x38_3 x38_4 x38_5 x38_6 x38_7 x38_8 x38_9 b38_10 w_14 < μ x5 x4_0 x4_1 x4_2 x4_3 x4_4 x4_5 x4_6 x4_7 x4_8 x4_9 b4_10 w_5
          )
        ) ∧
        (
          newO w_8 (.cells #[.int .u64 0, .int .u64 0, .int .u64 0, .int .u64 0, .int .u64 0, .int .u64 0, .int .u64 0, .int .u64 0, .int .u64 0, .int .u64 0, .bool false] 123) fun g_3 w_15 =>
          Calls Try.prog 73 #[.agg #[.int .u64 x21_0, .int .u64 x21_1, .int .u64 x21_2, .int .u64 x21_3, .int .u64 x21_4, .int .u64 x21_5, .int .u64 x21_6, .int .u64 x21_7, .int .u64 x21_8, .int .u64 x21_9, .bool b21_10], .agg #[.int .u64 x27_0, .int .u64 x27_1, .int .u64 x27_2, .int .u64 x27_3, .int .u64 x27_4, .int .u64 x27_5, .int .u64 x27_6, .int .u64 x27_7, .int .u64 x27_8, .int .u64 x27_9, .bool b27_10]] w_15 fun e_7 w_16 => KeepG [g_3, g] w_15 w_16 ∧
          ∃ (x28_0_2 : Int) (x28_1_2 : Int) (x28_2_2 : Int) (x28_3_2 : Int) (x28_4_2 : Int) (x28_5_2 : Int) (x28_6_2 : Int) (x28_7_2 : Int) (x28_8_2 : Int) (x28_9_2 : Int) (b28_10_2 : Bool),
          e_7 = .returned (.agg #[.int .u64 x28_0_2, .int .u64 x28_1_2, .int .u64 x28_2_2, .int .u64 x28_3_2, .int .u64 x28_4_2, .int .u64 x28_5_2, .int .u64 x28_6_2, .int .u64 x28_7_2, .int .u64 x28_8_2, .int .u64 x28_9_2, .bool b28_10_2]) ∧
          ∀ w_17 : World, BoxSt g_3 w_16 w_17 →
          Calls Try.prog 74 #[.agg #[.int .u64 x28_0_2, .int .u64 x28_1_2, .int .u64 x28_2_2, .int .u64 x28_3_2, .int .u64 x28_4_2, .int .u64 x28_5_2, .int .u64 x28_6_2, .int .u64 x28_7_2, .int .u64 x28_8_2, .int .u64 x28_9_2, .bool b28_10_2]] w_17 fun e_8 w_18 => KeepG [g_3, g] w_17 w_18 ∧
          ∃ (x31_0_2 : Int) (b31_1_2 : Bool),
          e_8 = .returned (.tuple #[.int .i64 x31_0_2, .bool b31_1_2]) ∧
          br (!b31_1_2) (
            K (.tuple #[.int .i64 0, .bool false]) w_18
          ) (
            Calls Try.prog 75 #[.agg #[.int .u64 x4_0, .int .u64 x4_1, .int .u64 x4_2, .int .u64 x4_3, .int .u64 x4_4, .int .u64 x4_5, .int .u64 x4_6, .int .u64 x4_7, .int .u64 x4_8, .int .u64 x4_9, .bool b4_10], .agg #[.int .u64 x28_0_2, .int .u64 x28_1_2, .int .u64 x28_2_2, .int .u64 x28_3_2, .int .u64 x28_4_2, .int .u64 x28_5_2, .int .u64 x28_6_2, .int .u64 x28_7_2, .int .u64 x28_8_2, .int .u64 x28_9_2, .bool b28_10_2]] w_18 fun e_9 w_19 => KeepG [g_3, g] w_18 w_19 ∧
            ∃ (x38_0_2 : Int) (x38_1_2 : Int) (x38_2_2 : Int) (x38_3_2 : Int) (x38_4_2 : Int) (x38_5_2 : Int) (x38_6_2 : Int) (x38_7_2 : Int) (x38_8_2 : Int) (x38_9_2 : Int) (b38_10_2 : Bool),
            e_9 = .returned (.agg #[.int .u64 x38_0_2, .int .u64 x38_1_2, .int .u64 x38_2_2, .int .u64 x38_3_2, .int .u64 x38_4_2, .int .u64 x38_5_2, .int .u64 x38_6_2, .int .u64 x38_7_2, .int .u64 x38_8_2, .int .u64 x38_9_2, .bool b38_10_2]) ∧
            ∀ w_20 : World, BoxSt g w_19 w_20 →
            I (IntKind.i64.wrap (x5 + 1)) x38_0_2 x38_1_2 x38_2_2 x38_3_2 x38_4_2 x38_5_2 x38_6_2 x38_7_2 x38_8_2 x38_9_2 b38_10_2 w_20 ∧ μ (IntKind.i64.wrap (x5 + 1)) x38_0_2 x38_1_2 x38_2_2 x38_3_2 x38_4_2 x38_5_2 x38_6_2 x38_7_2 x38_8_2 x38_9_2 b38_10_2 w_20 < μ x5 x4_0 x4_1 x4_2 x4_3 x4_4 x4_5 x4_6 x4_7 x4_8 x4_9 b4_10 w_5
          )
        )
      ) ∧
      (
        newO w_7 (.cells #[.int .u64 0, .int .u64 0, .int .u64 0, .int .u64 0, .int .u64 0, .int .u64 0, .int .u64 0, .int .u64 0, .int .u64 0, .int .u64 0, .bool false] 123) fun g_4 w_21 =>
        w_21.cell? ⟨g24, o24 + x5.toNat * 3 + 2, none⟩ = some (.int .i64 x26) ∧
        Calls Try.prog 72 #[.int .i64 x26] w_21 fun e_10 w_22 => KeepG [g_4, g] w_21 w_22 ∧
        ∃ (x27_0_2 : Int) (x27_1_2 : Int) (x27_2_2 : Int) (x27_3_2 : Int) (x27_4_2 : Int) (x27_5_2 : Int) (x27_6_2 : Int) (x27_7_2 : Int) (x27_8_2 : Int) (x27_9_2 : Int) (b27_10_2 : Bool),
        e_10 = .returned (.agg #[.int .u64 x27_0_2, .int .u64 x27_1_2, .int .u64 x27_2_2, .int .u64 x27_3_2, .int .u64 x27_4_2, .int .u64 x27_5_2, .int .u64 x27_6_2, .int .u64 x27_7_2, .int .u64 x27_8_2, .int .u64 x27_9_2, .bool b27_10_2]) ∧
        Calls Try.prog 73 #[.agg #[.int .u64 x21_0, .int .u64 x21_1, .int .u64 x21_2, .int .u64 x21_3, .int .u64 x21_4, .int .u64 x21_5, .int .u64 x21_6, .int .u64 x21_7, .int .u64 x21_8, .int .u64 x21_9, .bool b21_10], .agg #[.int .u64 x27_0_2, .int .u64 x27_1_2, .int .u64 x27_2_2, .int .u64 x27_3_2, .int .u64 x27_4_2, .int .u64 x27_5_2, .int .u64 x27_6_2, .int .u64 x27_7_2, .int .u64 x27_8_2, .int .u64 x27_9_2, .bool b27_10_2]] w_22 fun e_11 w_23 => KeepG [g_4, g] w_22 w_23 ∧
        ∃ (x28_0_3 : Int) (x28_1_3 : Int) (x28_2_3 : Int) (x28_3_3 : Int) (x28_4_3 : Int) (x28_5_3 : Int) (x28_6_3 : Int) (x28_7_3 : Int) (x28_8_3 : Int) (x28_9_3 : Int) (b28_10_3 : Bool),
        e_11 = .returned (.agg #[.int .u64 x28_0_3, .int .u64 x28_1_3, .int .u64 x28_2_3, .int .u64 x28_3_3, .int .u64 x28_4_3, .int .u64 x28_5_3, .int .u64 x28_6_3, .int .u64 x28_7_3, .int .u64 x28_8_3, .int .u64 x28_9_3, .bool b28_10_3]) ∧
        ∀ w_24 : World, BoxSt g_4 w_23 w_24 →
        Calls Try.prog 74 #[.agg #[.int .u64 x28_0_3, .int .u64 x28_1_3, .int .u64 x28_2_3, .int .u64 x28_3_3, .int .u64 x28_4_3, .int .u64 x28_5_3, .int .u64 x28_6_3, .int .u64 x28_7_3, .int .u64 x28_8_3, .int .u64 x28_9_3, .bool b28_10_3]] w_24 fun e_12 w_25 => KeepG [g_4, g] w_24 w_25 ∧
        ∃ (x31_0_3 : Int) (b31_1_3 : Bool),
        e_12 = .returned (.tuple #[.int .i64 x31_0_3, .bool b31_1_3]) ∧
        br (!b31_1_3) (
          K (.tuple #[.int .i64 0, .bool false]) w_25
        ) (
          Calls Try.prog 75 #[.agg #[.int .u64 x4_0, .int .u64 x4_1, .int .u64 x4_2, .int .u64 x4_3, .int .u64 x4_4, .int .u64 x4_5, .int .u64 x4_6, .int .u64 x4_7, .int .u64 x4_8, .int .u64 x4_9, .bool b4_10], .agg #[.int .u64 x28_0_3, .int .u64 x28_1_3, .int .u64 x28_2_3, .int .u64 x28_3_3, .int .u64 x28_4_3, .int .u64 x28_5_3, .int .u64 x28_6_3, .int .u64 x28_7_3, .int .u64 x28_8_3, .int .u64 x28_9_3, .bool b28_10_3]] w_25 fun e_13 w_26 => KeepG [g_4, g] w_25 w_26 ∧
          ∃ (x38_0_3 : Int) (x38_1_3 : Int) (x38_2_3 : Int) (x38_3_3 : Int) (x38_4_3 : Int) (x38_5_3 : Int) (x38_6_3 : Int) (x38_7_3 : Int) (x38_8_3 : Int) (x38_9_3 : Int) (b38_10_3 : Bool),
          e_13 = .returned (.agg #[.int .u64 x38_0_3, .int .u64 x38_1_3, .int .u64 x38_2_3, .int .u64 x38_3_3, .int .u64 x38_4_3, .int .u64 x38_5_3, .int .u64 x38_6_3, .int .u64 x38_7_3, .int .u64 x38_8_3, .int .u64 x38_9_3, .bool b38_10_3]) ∧
          ∀ w_27 : World, BoxSt g w_26 w_27 →
          I (IntKind.i64.wrap (x5 + 1)) x38_0_3 x38_1_3 x38_2_3 x38_3_3 x38_4_3 x38_5_3 x38_6_3 x38_7_3 x38_8_3 x38_9_3 b38_10_3 w_27 ∧ μ (IntKind.i64.wrap (x5 + 1)) x38_0_3 x38_1_3 x38_2_3 x38_3_3 x38_4_3 x38_5_3 x38_6_3 x38_7_3 x38_8_3 x38_9_3 b38_10_3 w_27 < μ x5 x4_0 x4_1 x4_2 x4_3 x4_4 x4_5 x4_6 x4_7 x4_8 x4_9 b4_10 w_5
        )
      )
    ) ∧
    (
      newO w_6 (.cells #[.int .u64 0, .int .u64 0, .int .u64 0, .int .u64 0, .int .u64 0, .int .u64 0, .int .u64 0, .int .u64 0, .int .u64 0, .int .u64 0, .bool false] 123) fun g_5 w_28 =>
      w_28.cell? ⟨g18, o18 + x5.toNat * 3 + 1, none⟩ = some (.int .i64 x20) ∧
      w_28.cell? ⟨g24, o24 + x5.toNat * 3 + 2, none⟩ = some (.int .i64 x26) ∧
      Calls Try.prog 72 #[.int .i64 x20] w_28 fun e_14 w_29 => KeepG [g_5, g] w_28 w_29 ∧
      ∃ (x21_0_2 : Int) (x21_1_2 : Int) (x21_2_2 : Int) (x21_3_2 : Int) (x21_4_2 : Int) (x21_5_2 : Int) (x21_6_2 : Int) (x21_7_2 : Int) (x21_8_2 : Int) (x21_9_2 : Int) (b21_10_2 : Bool),
      e_14 = .returned (.agg #[.int .u64 x21_0_2, .int .u64 x21_1_2, .int .u64 x21_2_2, .int .u64 x21_3_2, .int .u64 x21_4_2, .int .u64 x21_5_2, .int .u64 x21_6_2, .int .u64 x21_7_2, .int .u64 x21_8_2, .int .u64 x21_9_2, .bool b21_10_2]) ∧
      w_29.cell? ⟨g24, o24 + x5.toNat * 3 + 2, none⟩ = some (.int .i64 x26) ∧
      Calls Try.prog 72 #[.int .i64 x26] w_29 fun e_15 w_30 => KeepG [g_5, g] w_29 w_30 ∧
      ∃ (x27_0_3 : Int) (x27_1_3 : Int) (x27_2_3 : Int) (x27_3_3 : Int) (x27_4_3 : Int) (x27_5_3 : Int) (x27_6_3 : Int) (x27_7_3 : Int) (x27_8_3 : Int) (x27_9_3 : Int) (b27_10_3 : Bool),
      e_15 = .returned (.agg #[.int .u64 x27_0_3, .int .u64 x27_1_3, .int .u64 x27_2_3, .int .u64 x27_3_3, .int .u64 x27_4_3, .int .u64 x27_5_3, .int .u64 x27_6_3, .int .u64 x27_7_3, .int .u64 x27_8_3, .int .u64 x27_9_3, .bool b27_10_3]) ∧
      Calls Try.prog 73 #[.agg #[.int .u64 x21_0_2, .int .u64 x21_1_2, .int .u64 x21_2_2, .int .u64 x21_3_2, .int .u64 x21_4_2, .int .u64 x21_5_2, .int .u64 x21_6_2, .int .u64 x21_7_2, .int .u64 x21_8_2, .int .u64 x21_9_2, .bool b21_10_2], .agg #[.int .u64 x27_0_3, .int .u64 x27_1_3, .int .u64 x27_2_3, .int .u64 x27_3_3, .int .u64 x27_4_3, .int .u64 x27_5_3, .int .u64 x27_6_3, .int .u64 x27_7_3, .int .u64 x27_8_3, .int .u64 x27_9_3, .bool b27_10_3]] w_30 fun e_16 w_31 => KeepG [g_5, g] w_30 w_31 ∧
      ∃ (x28_0_4 : Int) (x28_1_4 : Int) (x28_2_4 : Int) (x28_3_4 : Int) (x28_4_4 : Int) (x28_5_4 : Int) (x28_6_4 : Int) (x28_7_4 : Int) (x28_8_4 : Int) (x28_9_4 : Int) (b28_10_4 : Bool),
      e_16 = .returned (.agg #[.int .u64 x28_0_4, .int .u64 x28_1_4, .int .u64 x28_2_4, .int .u64 x28_3_4, .int .u64 x28_4_4, .int .u64 x28_5_4, .int .u64 x28_6_4, .int .u64 x28_7_4, .int .u64 x28_8_4, .int .u64 x28_9_4, .bool b28_10_4]) ∧
      ∀ w_32 : World, BoxSt g_5 w_31 w_32 →
      Calls Try.prog 74 #[.agg #[.int .u64 x28_0_4, .int .u64 x28_1_4, .int .u64 x28_2_4, .int .u64 x28_3_4, .int .u64 x28_4_4, .int .u64 x28_5_4, .int .u64 x28_6_4, .int .u64 x28_7_4, .int .u64 x28_8_4, .int .u64 x28_9_4, .bool b28_10_4]] w_32 fun e_17 w_33 => KeepG [g_5, g] w_32 w_33 ∧
      ∃ (x31_0_4 : Int) (b31_1_4 : Bool),
      e_17 = .returned (.tuple #[.int .i64 x31_0_4, .bool b31_1_4]) ∧
      br (!b31_1_4) (
        K (.tuple #[.int .i64 0, .bool false]) w_33
      ) (
        Calls Try.prog 75 #[.agg #[.int .u64 x4_0, .int .u64 x4_1, .int .u64 x4_2, .int .u64 x4_3, .int .u64 x4_4, .int .u64 x4_5, .int .u64 x4_6, .int .u64 x4_7, .int .u64 x4_8, .int .u64 x4_9, .bool b4_10], .agg #[.int .u64 x28_0_4, .int .u64 x28_1_4, .int .u64 x28_2_4, .int .u64 x28_3_4, .int .u64 x28_4_4, .int .u64 x28_5_4, .int .u64 x28_6_4, .int .u64 x28_7_4, .int .u64 x28_8_4, .int .u64 x28_9_4, .bool b28_10_4]] w_33 fun e_18 w_34 => KeepG [g_5, g] w_33 w_34 ∧
        ∃ (x38_0_4 : Int) (x38_1_4 : Int) (x38_2_4 : Int) (x38_3_4 : Int) (x38_4_4 : Int) (x38_5_4 : Int) (x38_6_4 : Int) (x38_7_4 : Int) (x38_8_4 : Int) (x38_9_4 : Int) (b38_10_4 : Bool),
        e_18 = .returned (.agg #[.int .u64 x38_0_4, .int .u64 x38_1_4, .int .u64 x38_2_4, .int .u64 x38_3_4, .int .u64 x38_4_4, .int .u64 x38_5_4, .int .u64 x38_6_4, .int .u64 x38_7_4, .int .u64 x38_8_4, .int .u64 x38_9_4, .bool b38_10_4]) ∧
        ∀ w_35 : World, BoxSt g w_34 w_35 →
        I (IntKind.i64.wrap (x5 + 1)) x38_0_4 x38_1_4 x38_2_4 x38_3_4 x38_4_4 x38_5_4 x38_6_4 x38_7_4 x38_8_4 x38_9_4 b38_10_4 w_35 ∧ μ (IntKind.i64.wrap (x5 + 1)) x38_0_4 x38_1_4 x38_2_4 x38_3_4 x38_4_4 x38_5_4 x38_6_4 x38_7_4 x38_8_4 x38_9_4 b38_10_4 w_35 < μ x5 x4_0 x4_1 x4_2 x4_3 x4_4 x4_5 x4_6 x4_7 x4_8 x4_9 b4_10 w_5
      )
    )
  ) (
    Calls Try.prog 74 #[.agg #[.int .u64 x4_0, .int .u64 x4_1, .int .u64 x4_2, .int .u64 x4_3, .int .u64 x4_4, .int .u64 x4_5, .int .u64 x4_6, .int .u64 x4_7, .int .u64 x4_8, .int .u64 x4_9, .bool b4_10]] w_5 fun e_19 w_36 => KeepG [g] w_5 w_36 ∧
    ∃ (x40_0 : Int) (b40_1 : Bool),
    e_19 = .returned (.tuple #[.int .i64 x40_0, .bool b40_1]) ∧
    K (.tuple #[.int .i64 x40_0, .bool b40_1]) w_36
  )
def rcost_notes : Notes := ⟨[(5, ⟨[0, 0, 3, 7, 15, 31, 0, 0, 192, 448, 960, 2047, 4095, 0, 16383], [5, 11, 12, 13, 14], [0, 1, 2, 3, 4, 6, 7, 8, 9, 10]⟩)], [(3, ⟨[(5, .lf (.int .i64))], [(4, [.int .u64, .int .u64, .int .u64, .int .u64, .int .u64, .int .u64, .int .u64, .int .u64, .int .u64, .int .u64, .bool])], [10, 11, 12, 13, 16, 17, 18, 19, 20, 21, 22, 23, 24, 25, 26, 27, 28, 6, 30, 31, 29, 32, 33, 7, 8, 34, 35, 2, 3, 36, 37, 38, 14, 15, 5], [6, 4]⟩)], []⟩
theorem rcost_calls (a0 : Option Addr) (n0 : Nat) (c0 : Nat) (w : World) (K : Value → World → Prop) (h : rcost_vc a0 n0 c0 w K) : Calls Try.prog 37 #[.slice a0 n0 c0] w fun e w' => ∃ v, e = .returned v ∧ K v w' :=
  calls_of_fvc envOk Try.func37 rcost_notes [4, 6] [.slice a0 n0 c0] w K (use_vc h (by as_aux_lemma => kernel_rfl))
/-- purser/purserref10.Same -/
def rlsame_vc (a0 : Option Addr) (n0 : Nat) (c0 : Nat) (a1 : Option Addr) (n1 : Nat) (c1 : Nat) (w : World) (K : Value → World → Prop) : Prop :=
  br (decide (((n0 : Nat) : Int) ≠ ((n1 : Nat) : Int))) (
    K (.bool false) w
  ) (
    ∃ (I : Int → World → Prop) (μ : Int → World → Nat),
    I 0 w ∧
    ∀ (x5 : Int) (w_2 : World), I x5 w_2 →
    br (decide (x5 < ((n0 : Nat) : Int))) (
      drewO w_2 fun w_3 =>
      withP a0 fun g19 o19 =>
      (0 : Int) ≤ x5 ∧ x5 < (((n0 : Nat) : Int) : Int) ∧
      ∃ (x20_0 : Int) (x20_1 : Int) (x20_2 : Int),
      cellsAt w_3 g19 (o19 + x5.toNat * 3) [.int .i64 x20_0, .int .i64 x20_1, .int .i64 x20_2] ∧
      withP a1 fun g23 o23 =>
      (0 : Int) ≤ x5 ∧ x5 < (((n1 : Nat) : Int) : Int) ∧
      ∃ (x24_0 : Int) (x24_1 : Int) (x24_2 : Int),
      cellsAt w_3 g23 (o23 + x5.toNat * 3) [.int .i64 x24_0, .int .i64 x24_1, .int .i64 x24_2] ∧
      br (!((decide (x20_0 = x24_0)) && ((decide (x20_1 = x24_1)) && ((decide (x20_2 = x24_2)) && true)))) (
        K (.bool false) w_3
      ) (
        I (IntKind.i64.wrap (x5 + 1)) w_3 ∧ μ (IntKind.i64.wrap (x5 + 1)) w_3 < μ x5 w_2
      )
    ) (
      K (.bool true) w_2
    )
  )
def rlsame_notes : Notes := ⟨[(6, ⟨[0, 0, 3, 7, 0, 0, 48, 112, 255], [], [0, 1, 2, 3, 4, 5, 6, 7, 8]⟩)], [(4, ⟨[(5, .lf (.int .i64))], [], [11, 12, 13, 14, 17, 18, 19, 20, 21, 22, 23, 24, 25, 4, 15, 16, 5], []⟩)], []⟩
theorem rlsame_calls (a0 : Option Addr) (n0 : Nat) (c0 : Nat) (a1 : Option Addr) (n1 : Nat) (c1 : Nat) (w : World) (K : Value → World → Prop) (h : rlsame_vc a0 n0 c0 a1 n1 c1 w K) : Calls Try.prog 36 #[.slice a0 n0 c0, .slice a1 n1 c1] w fun e w' => ∃ v, e = .returned v ∧ K v w' :=
  calls_of_fvc envOk Try.func36 rlsame_notes [] [.slice a0 n0 c0, .slice a1 n1 c1] w K (use_vc h (by as_aux_lemma => kernel_rfl))
/-- purser/purserref11.Rate -/
def rrate_vc (x0_0 : Int) (x0_1 : Int) (x0_2 : Int) (x0_3 : Int) (x0_4 : Int) (x0_5 : Int) (a0_6 : Option Addr) (n0_6 : Nat) (c0_6 : Nat) (x0_7 : Int) (x0_8 : Int) (x0_9 : Int) (a0_10 : Option Addr) (n0_10 : Nat) (c0_10 : Nat) (x1 : Int) (x2 : Int) (x3 : Int) (w : World) (K : Value → World → Prop) : Prop :=
  newO w (.cells #[.int .i64 x0_0, .int .i64 x0_1, .int .i64 x0_2, .int .i64 x0_3, .int .i64 x0_4, .int .i64 x0_5, .slice a0_6 n0_6 c0_6, .int .i64 x0_7, .int .i64 x0_8, .int .i64 x0_9, .slice a0_10 n0_10 c0_10] 26) fun g w_2 =>
  newO w_2 (.cells #[.slice none 0 0, .int .i64 0, .int .i64 0, .int .i64 0] 67) fun g_2 w_3 =>
  Calls Try.prog 14 #[.agg #[.int .i64 x0_0, .int .i64 x0_1, .int .i64 x0_2, .int .i64 x0_3, .int .i64 x0_4, .int .i64 x0_5, .slice a0_6 n0_6 c0_6, .int .i64 x0_7, .int .i64 x0_8, .int .i64 x0_9, .slice a0_10 n0_10 c0_10]] w_3 fun e w_4 => KeepG [g_2, g] w_3 w_4 ∧
  ∃ (x18 : Int),
  e = .returned (.int .i64 x18) ∧
  br (decide (x18 ≠ 0)) (
    ∀ w_5 : World, BoxSt g_2 w_4 w_5 →
    K (.tuple #[.agg #[.slice none 0 0, .int .i64 0, .int .i64 0, .int .i64 0], .int .i64 1]) w_5
  ) (
    br (decide (x1 < 0)) (
      ∀ w_6 : World, BoxSt g_2 w_4 w_6 →
      K (.tuple #[.agg #[.slice none 0 0, .int .i64 0, .int .i64 0, .int .i64 0], .int .i64 1]) w_6
    ) (
      br (decide (x3 < 0)) (
        ∀ w_7 : World, BoxSt g_2 w_4 w_7 →
        K (.tuple #[.agg #[.slice none 0 0, .int .i64 0, .int .i64 0, .int .i64 0], .int .i64 1]) w_7
      ) (
        br (decide (x3 > 1073741824)) (
          ∀ w_8 : World, BoxSt g_2 w_4 w_8 →
          K (.tuple #[.agg #[.slice none 0 0, .int .i64 0, .int .i64 0, .int .i64 0], .int .i64 1]) w_8
        ) (
          newO w_4 (.cells #[.int .i64 0, .int .i64 0, .int .i64 0, .slice none 0 0] 24) fun g_3 w_9 =>
          ∀ w_10 : World, BoxSt g_3 w_9 w_10 →
          Calls Try.prog 38 #[.agg #[.int .i64 x0_0, .int .i64 x0_1, .int .i64 x0_2, .int .i64 x0_3, .int .i64 x0_4, .int .i64 x0_5, .slice a0_6 n0_6 c0_6, .int .i64 x0_7, .int .i64 x0_8, .int .i64 x0_9, .slice a0_10 n0_10 c0_10], .int .i64 x1] w_10 fun e_2 w_11 => KeepG [g_3, g_2, g] w_10 w_11 ∧
          ∃ (b37 : Bool),
          e_2 = .returned (.bool b37) ∧
          br b37 (
            ∀ w_12 : World, BoxSt g_3 w_11 w_12 →
            Calls Try.prog 68 #[.int .i64 x3, .int .i64 x0_9] w_12 fun e_3 w_13 => KeepG [g_3, g_2, g] w_12 w_13 ∧
            ∃ (x44_0 : Int) (b44_1 : Bool),
            e_3 = .returned (.tuple #[.int .i64 x44_0, .bool b44_1]) ∧
            Calls Try.prog 69 #[.agg #[.int .i64 x0_7, .int .i64 x0_8, .int .i64 x0_9, .slice a0_10 n0_10 c0_10], .int .i64 x2, .int .i64 x44_0] w_13 fun e_4 w_14 => KeepG [g_3, g_2, g] w_13 w_14 ∧
            ∃ (a51_0 : Option Addr) (n51_0 : Nat) (c51_0 : Nat) (x51_1 : Int),
            e_4 = .returned (.tuple #[.slice a51_0 n51_0 c51_0, .int .i64 x51_1]) ∧
            br (decide (x51_1 ≠ 0)) (
              ∀ w_15 : World, BoxSt g_2 w_14 w_15 →
              K (.tuple #[.agg #[.slice none 0 0, .int .i64 0, .int .i64 0, .int .i64 0], .int .i64 1]) w_15
            ) (
              Calls Try.prog 37 #[.slice a51_0 n51_0 c51_0] w_14 fun e_5 w_16 => KeepG [g_3, g_2, g] w_14 w_16 ∧
              ∃ (x59_0 : Int) (b59_1 : Bool),
              e_5 = .returned (.tuple #[.int .i64 x59_0, .bool b59_1]) ∧
              ∀ w_17 : World, BoxSt g_2 w_16 w_17 →
              K (.tuple #[.agg #[.slice a51_0 n51_0 c51_0, .int .i64 x44_0, .int .i64 x59_0, .int .i64 (IntKind.i64.wrap (x2 + x44_0))], .int .i64 0]) w_17
            )
          ) (
            Calls Try.prog 68 #[.int .i64 x3, .int .i64 x0_5] w_11 fun e_6 w_18 => KeepG [g_3, g_2, g] w_11 w_18 ∧
            ∃ (x44_0_2 : Int) (b44_1_2 : Bool),
            e_6 = .returned (.tuple #[.int .i64 x44_0_2, .bool b44_1_2]) ∧
            Calls Try.prog 69 #[.agg #[.int .i64 x0_3, .int .i64 x0_4, .int .i64 x0_5, .slice a0_6 n0_6 c0_6], .int .i64 x2, .int .i64 x44_0_2] w_18 fun e_7 w_19 => KeepG [g_3, g_2, g] w_18 w_19 ∧
            ∃ (a51_0_2 : Option Addr) (n51_0_2 : Nat) (c51_0_2 : Nat) (x51_1_2 : Int),
            e_7 = .returned (.tuple #[.slice a51_0_2 n51_0_2 c51_0_2, .int .i64 x51_1_2]) ∧
            br (decide (x51_1_2 ≠ 0)) (
              ∀ w_20 : World, BoxSt g_2 w_19 w_20 →
              K (.tuple #[.agg #[.slice none 0 0, .int .i64 0, .int .i64 0, .int .i64 0], .int .i64 1]) w_20
            ) (
              Calls Try.prog 37 #[.slice a51_0_2 n51_0_2 c51_0_2] w_19 fun e_8 w_21 => KeepG [g_3, g_2, g] w_19 w_21 ∧
              ∃ (x59_0_2 : Int) (b59_1_2 : Bool),
              e_8 = .returned (.tuple #[.int .i64 x59_0_2, .bool b59_1_2]) ∧
              ∀ w_22 : World, BoxSt g_2 w_21 w_22 →
              K (.tuple #[.agg #[.slice a51_0_2 n51_0_2 c51_0_2, .int .i64 x44_0_2, .int .i64 x59_0_2, .int .i64 (IntKind.i64.wrap (x2 + x44_0_2))], .int .i64 0]) w_22
            )
          )
        )
      )
    )
  )
def rrate_notes : Notes := ⟨[], [], []⟩
theorem rrate_calls (x0_0 : Int) (x0_1 : Int) (x0_2 : Int) (x0_3 : Int) (x0_4 : Int) (x0_5 : Int) (a0_6 : Option Addr) (n0_6 : Nat) (c0_6 : Nat) (x0_7 : Int) (x0_8 : Int) (x0_9 : Int) (a0_10 : Option Addr) (n0_10 : Nat) (c0_10 : Nat) (x1 : Int) (x2 : Int) (x3 : Int) (w : World) (K : Value → World → Prop) (h : rrate_vc x0_0 x0_1 x0_2 x0_3 x0_4 x0_5 a0_6 n0_6 c0_6 x0_7 x0_8 x0_9 a0_10 n0_10 c0_10 x1 x2 x3 w K) : Calls Try.prog 31 #[.agg #[.int .i64 x0_0, .int .i64 x0_1, .int .i64 x0_2, .int .i64 x0_3, .int .i64 x0_4, .int .i64 x0_5, .slice a0_6 n0_6 c0_6, .int .i64 x0_7, .int .i64 x0_8, .int .i64 x0_9, .slice a0_10 n0_10 c0_10], .int .i64 x1, .int .i64 x2, .int .i64 x3] w fun e w' => ∃ v, e = .returned v ∧ K v w' :=
  calls_of_fvc envOk Try.func31 rrate_notes [4, 8, 10] [.agg #[.int .i64 x0_0, .int .i64 x0_1, .int .i64 x0_2, .int .i64 x0_3, .int .i64 x0_4, .int .i64 x0_5, .slice a0_6 n0_6 c0_6, .int .i64 x0_7, .int .i64 x0_8, .int .i64 x0_9, .slice a0_10 n0_10 c0_10], .int .i64 x1, .int .i64 x2, .int .i64 x3] w K (use_vc h (by as_aux_lemma => kernel_rfl))
/-- purser/purserref11.Dear -/
def rdear_vc (x0_0 : Int) (x0_1 : Int) (x0_2 : Int) (x0_3 : Int) (x0_4 : Int) (x0_5 : Int) (a0_6 : Option Addr) (n0_6 : Nat) (c0_6 : Nat) (x0_7 : Int) (x0_8 : Int) (x0_9 : Int) (a0_10 : Option Addr) (n0_10 : Nat) (c0_10 : Nat) (w : World) (K : Value → World → Prop) : Prop :=
  newO w (.cells #[.int .i64 x0_0, .int .i64 x0_1, .int .i64 x0_2, .int .i64 x0_3, .int .i64 x0_4, .int .i64 x0_5, .slice a0_6 n0_6 c0_6, .int .i64 x0_7, .int .i64 x0_8, .int .i64 x0_9, .slice a0_10 n0_10 c0_10] 26) fun g w_2 =>
  drewO w_2 fun w_3 =>
  newO w_3 (.cells #[] 120) fun g_2 w_4 =>
  appO Try.prog [g] w_4 120 2 16 22 (some ⟨g_2, 0, none⟩) 0 0 (.slice a0_6 n0_6 c0_6) fun m10 a10 c10 w_5 =>
  appO Try.prog [g] w_5 120 2 16 22 a10 (0 + m10) c10 (.slice a0_10 n0_10 c0_10) fun m14 a14 c14 w_6 =>
  ∃ (I : Int → Int → World → Prop) (μ : Int → Int → World → Nat),
  I 0 0 w_6 ∧
  ∀ (x3 : Int) (x5 : Int) (w_7 : World), I x3 x5 w_7 →
  br (decide (x5 < (((0 + m10) + m14 : Nat) : Int))) (
    withP a14 fun g24 o24 =>
    (0 : Int) ≤ x5 ∧ x5 < ((((0 + m10) + m14 : Nat) : Int) : Int) ∧
    ∃ (x26 : Int), w_7.cell? ⟨g24, o24 + x5.toNat * 2 + 1, none⟩ = some (.int .i64 x26) ∧
    I (max x3 x26) (IntKind.i64.wrap (x5 + 1)) w_7 ∧ μ (max x3 x26) (IntKind.i64.wrap (x5 + 1)) w_7 < μ x3 x5 w_7
  ) (
    K (.int .i64 x3) w_7
  )
def rdear_notes : Notes := ⟨[(2, ⟨[0, 0, 2, 6, 15, 0, 32, 96, 255, 511], [0, 4, 8], [1, 2, 3, 5, 6, 7, 9]⟩)], [(4, ⟨[(3, .lf (.int .i64)), (5, .lf (.int .i64))], [], [15, 16, 17, 18, 21, 22, 23, 24, 25, 26, 27, 3, 19, 20, 5], []⟩)], []⟩
theorem rdear_calls (x0_0 : Int) (x0_1 : Int) (x0_2 : Int) (x0_3 : Int) (x0_4 : Int) (x0_5 : Int) (a0_6 : Option Addr) (n0_6 : Nat) (c0_6 : Nat) (x0_7 : Int) (x0_8 : Int) (x0_9 : Int) (a0_10 : Option Addr) (n0_10 : Nat) (c0_10 : Nat) (w : World) (K : Value → World → Prop) (h : rdear_vc x0_0 x0_1 x0_2 x0_3 x0_4 x0_5 a0_6 n0_6 c0_6 x0_7 x0_8 x0_9 a0_10 n0_10 c0_10 w K) : Calls Try.prog 70 #[.agg #[.int .i64 x0_0, .int .i64 x0_1, .int .i64 x0_2, .int .i64 x0_3, .int .i64 x0_4, .int .i64 x0_5, .slice a0_6 n0_6 c0_6, .int .i64 x0_7, .int .i64 x0_8, .int .i64 x0_9, .slice a0_10 n0_10 c0_10]] w fun e w' => ∃ v, e = .returned v ∧ K v w' :=
  calls_of_fvc envOk Try.func70 rdear_notes [1] [.agg #[.int .i64 x0_0, .int .i64 x0_1, .int .i64 x0_2, .int .i64 x0_3, .int .i64 x0_4, .int .i64 x0_5, .slice a0_6 n0_6 c0_6, .int .i64 x0_7, .int .i64 x0_8, .int .i64 x0_9, .slice a0_10 n0_10 c0_10]] w K (use_vc h (by as_aux_lemma => kernel_rfl))
/-- purser/purserref11.Worst -/
def rworst_vc (x0_0 : Int) (x0_1 : Int) (x0_2 : Int) (x0_3 : Int) (x0_4 : Int) (x0_5 : Int) (a0_6 : Option Addr) (n0_6 : Nat) (c0_6 : Nat) (x0_7 : Int) (x0_8 : Int) (x0_9 : Int) (a0_10 : Option Addr) (n0_10 : Nat) (c0_10 : Nat) (x1 : Int) (w : World) (K : Value → World → Prop) : Prop :=
  newO w (.cells #[.int .i64 x0_0, .int .i64 x0_1, .int .i64 x0_2, .int .i64 x0_3, .int .i64 x0_4, .int .i64 x0_5, .slice a0_6 n0_6 c0_6, .int .i64 x0_7, .int .i64 x0_8, .int .i64 x0_9, .slice a0_10 n0_10 c0_10] 26) fun g w_2 =>
  Calls Try.prog 14 #[.agg #[.int .i64 x0_0, .int .i64 x0_1, .int .i64 x0_2, .int .i64 x0_3, .int .i64 x0_4, .int .i64 x0_5, .slice a0_6 n0_6 c0_6, .int .i64 x0_7, .int .i64 x0_8, .int .i64 x0_9, .slice a0_10 n0_10 c0_10]] w_2 fun e w_3 => KeepG [g] w_2 w_3 ∧
  ∃ (x9 : Int),
  e = .returned (.int .i64 x9) ∧
  br (decide (x9 ≠ 0)) (
    K (.tuple #[.int .i64 0, .int .i64 1]) w_3
  ) (
    br (decide (x1 < 0)) (
      K (.tuple #[.int .i64 0, .int .i64 1]) w_3
    ) (
      br (decide (x1 > 1073741824)) (
        K (.tuple #[.int .i64 0, .int .i64 1]) w_3
      ) (
        Calls Try.prog 68 #[.int .i64 x1, .int .i64 x0_5] w_3 fun e_2 w_4 => KeepG [g] w_3 w_4 ∧
        ∃ (x24_0 : Int) (b24_1 : Bool),
        e_2 = .returned (.tuple #[.int .i64 x24_0, .bool b24_1]) ∧
        Calls Try.prog 70 #[.agg #[.int .i64 x0_0, .int .i64 x0_1, .int .i64 x0_2, .int .i64 x0_3, .int .i64 x0_4, .int .i64 x0_5, .slice a0_6 n0_6 c0_6, .int .i64 x0_7, .int .i64 x0_8, .int .i64 x0_9, .slice a0_10 n0_10 c0_10]] w_4 fun e_3 w_5 => KeepG [g] w_4 w_5 ∧
        ∃ (x29 : Int),
        e_3 = .returned (.int .i64 x29) ∧
        K (.tuple #[.int .i64 (IntKind.i64.wrap (x24_0 * x29)), .int .i64 0]) w_5
      )
    )
  )
def rworst_notes : Notes := ⟨[], [], []⟩
theorem rworst_calls (x0_0 : Int) (x0_1 : Int) (x0_2 : Int) (x0_3 : Int) (x0_4 : Int) (x0_5 : Int) (a0_6 : Option Addr) (n0_6 : Nat) (c0_6 : Nat) (x0_7 : Int) (x0_8 : Int) (x0_9 : Int) (a0_10 : Option Addr) (n0_10 : Nat) (c0_10 : Nat) (x1 : Int) (w : World) (K : Value → World → Prop) (h : rworst_vc x0_0 x0_1 x0_2 x0_3 x0_4 x0_5 a0_6 n0_6 c0_6 x0_7 x0_8 x0_9 a0_10 n0_10 c0_10 x1 w K) : Calls Try.prog 32 #[.agg #[.int .i64 x0_0, .int .i64 x0_1, .int .i64 x0_2, .int .i64 x0_3, .int .i64 x0_4, .int .i64 x0_5, .slice a0_6 n0_6 c0_6, .int .i64 x0_7, .int .i64 x0_8, .int .i64 x0_9, .slice a0_10 n0_10 c0_10], .int .i64 x1] w fun e w' => ∃ v, e = .returned v ∧ K v w' :=
  calls_of_fvc envOk Try.func32 rworst_notes [2] [.agg #[.int .i64 x0_0, .int .i64 x0_1, .int .i64 x0_2, .int .i64 x0_3, .int .i64 x0_4, .int .i64 x0_5, .slice a0_6 n0_6 c0_6, .int .i64 x0_7, .int .i64 x0_8, .int .i64 x0_9, .slice a0_10 n0_10 c0_10], .int .i64 x1] w K (use_vc h (by as_aux_lemma => kernel_rfl))
/-- purser/purserref11.Fit -/
def rfit_vc (x0_0 : Int) (x0_1 : Int) (x0_2 : Int) (x0_3 : Int) (x0_4 : Int) (x0_5 : Int) (a0_6 : Option Addr) (n0_6 : Nat) (c0_6 : Nat) (x0_7 : Int) (x0_8 : Int) (x0_9 : Int) (a0_10 : Option Addr) (n0_10 : Nat) (c0_10 : Nat) (x1 : Int) (x2 : Int) (w : World) (K : Value → World → Prop) : Prop :=
  newO w (.cells #[.int .i64 x0_0, .int .i64 x0_1, .int .i64 x0_2, .int .i64 x0_3, .int .i64 x0_4, .int .i64 x0_5, .slice a0_6 n0_6 c0_6, .int .i64 x0_7, .int .i64 x0_8, .int .i64 x0_9, .slice a0_10 n0_10 c0_10] 26) fun g w_2 =>
  Calls Try.prog 14 #[.agg #[.int .i64 x0_0, .int .i64 x0_1, .int .i64 x0_2, .int .i64 x0_3, .int .i64 x0_4, .int .i64 x0_5, .slice a0_6 n0_6 c0_6, .int .i64 x0_7, .int .i64 x0_8, .int .i64 x0_9, .slice a0_10 n0_10 c0_10]] w_2 fun e w_3 => KeepG [g] w_2 w_3 ∧
  ∃ (x17 : Int),
  e = .returned (.int .i64 x17) ∧
  br (decide (x17 ≠ 0)) (
    K (.tuple #[.int .i64 0, .int .i64 0, .int .i64 1]) w_3
  ) (
    br (decide (x2 < 0)) (
      K (.tuple #[.int .i64 0, .int .i64 0, .int .i64 1]) w_3
    ) (
      br (decide (x2 > 1073741824)) (
        K (.tuple #[.int .i64 0, .int .i64 0, .int .i64 1]) w_3
      ) (
        br (decide (x1 < 0)) (
          K (.tuple #[.int .i64 0, .int .i64 0, .int .i64 1]) w_3
        ) (
          ∃ (I : Int → Int → World → Prop) (μ : Int → Int → World → Nat),
          I 0 x2 w_3 ∧
          ∀ (x9 : Int) (x10 : Int) (w_4 : World), I x9 x10 w_4 →
          br (decide (x9 < x10)) (
            (2 : Int) ≠ 0 ∧
            Calls Try.prog 32 #[.agg #[.int .i64 x0_0, .int .i64 x0_1, .int .i64 x0_2, .int .i64 x0_3, .int .i64 x0_4, .int .i64 x0_5, .slice a0_6 n0_6 c0_6, .int .i64 x0_7, .int .i64 x0_8, .int .i64 x0_9, .slice a0_10 n0_10 c0_10], .int .i64 (IntKind.i64.wrap (x9 + (IntKind.i64.wrap (Int.tdiv (IntKind.i64.wrap ((IntKind.i64.wrap (x10 - x9)) + 1)) 2))))] w_4 fun e_2 w_5 => KeepG [g] w_4 w_5 ∧
            ∃ (x45_0 : Int) (x45_1 : Int),
            e_2 = .returned (.tuple #[.int .i64 x45_0, .int .i64 x45_1]) ∧
            br (decide (x45_0 ≤ x1)) (
              I (IntKind.i64.wrap (x9 + (IntKind.i64.wrap (Int.tdiv (IntKind.i64.wrap ((IntKind.i64.wrap (x10 - x9)) + 1)) 2)))) x10 w_5 ∧ μ (IntKind.i64.wrap (x9 + (IntKind.i64.wrap (Int.tdiv (IntKind.i64.wrap ((IntKind.i64.wrap (x10 - x9)) + 1)) 2)))) x10 w_5 < μ x9 x10 w_4
            ) (
              I x9 (IntKind.i64.wrap ((IntKind.i64.wrap (x9 + (IntKind.i64.wrap (Int.tdiv (IntKind.i64.wrap ((IntKind.i64.wrap (x10 - x9)) + 1)) 2)))) - 1)) w_5 ∧ μ x9 (IntKind.i64.wrap ((IntKind.i64.wrap (x9 + (IntKind.i64.wrap (Int.tdiv (IntKind.i64.wrap ((IntKind.i64.wrap (x10 - x9)) + 1)) 2)))) - 1)) w_5 < μ x9 x10 w_4
            )
          ) (
            Calls Try.prog 32 #[.agg #[.int .i64 x0_0, .int .i64 x0_1, .int .i64 x0_2, .int .i64 x0_3, .int .i64 x0_4, .int .i64 x0_5, .slice a0_6 n0_6 c0_6, .int .i64 x0_7, .int .i64 x0_8, .int .i64 x0_9, .slice a0_10 n0_10 c0_10], .int .i64 x9] w_4 fun e_3 w_6 => KeepG [g] w_4 w_6 ∧
            ∃ (x57_0 : Int) (x57_1 : Int),
            e_3 = .returned (.tuple #[.int .i64 x57_0, .int .i64 x57_1]) ∧
            K (.tuple #[.int .i64 x9, .int .i64 x57_0, .int .i64 0]) w_6
          )
        )
      )
    )
  )
def rfit_notes : Notes := ⟨[], [(4, ⟨[(9, .lf (.int .i64)), (10, .lf (.int .i64))], [], [32, 33, 34, 35, 36, 37, 38, 39, 40, 41, 11, 43, 44, 45, 42, 46, 47, 12, 13, 48, 49, 50, 51, 9, 52, 53, 10], []⟩)], []⟩
theorem rfit_calls (x0_0 : Int) (x0_1 : Int) (x0_2 : Int) (x0_3 : Int) (x0_4 : Int) (x0_5 : Int) (a0_6 : Option Addr) (n0_6 : Nat) (c0_6 : Nat) (x0_7 : Int) (x0_8 : Int) (x0_9 : Int) (a0_10 : Option Addr) (n0_10 : Nat) (c0_10 : Nat) (x1 : Int) (x2 : Int) (w : World) (K : Value → World → Prop) (h : rfit_vc x0_0 x0_1 x0_2 x0_3 x0_4 x0_5 a0_6 n0_6 c0_6 x0_7 x0_8 x0_9 a0_10 n0_10 c0_10 x1 x2 w K) : Calls Try.prog 34 #[.agg #[.int .i64 x0_0, .int .i64 x0_1, .int .i64 x0_2, .int .i64 x0_3, .int .i64 x0_4, .int .i64 x0_5, .slice a0_6 n0_6 c0_6, .int .i64 x0_7, .int .i64 x0_8, .int .i64 x0_9, .slice a0_10 n0_10 c0_10], .int .i64 x1, .int .i64 x2] w fun e w' => ∃ v, e = .returned v ∧ K v w' :=
  calls_of_fvc envOk Try.func34 rfit_notes [3] [.agg #[.int .i64 x0_0, .int .i64 x0_1, .int .i64 x0_2, .int .i64 x0_3, .int .i64 x0_4, .int .i64 x0_5, .slice a0_6 n0_6 c0_6, .int .i64 x0_7, .int .i64 x0_8, .int .i64 x0_9, .slice a0_10 n0_10 c0_10], .int .i64 x1, .int .i64 x2] w K (use_vc h (by as_aux_lemma => kernel_rfl))
end GTar
end Go.Proofs.Ytecmpjccdhmeeaa
end
section
/- Arguments as the walks want them: bytes, rows of bytes. No program in sight. -/
namespace Go.Proofs.Ytecmpjccdhmeeaa
open Go.RowKit Go.ChangeShapes
variable {H : Type} {enc : TypeId × Value → H} {P : Program} {W : World}
theorem addr_plain {w : World} {a : Addr} {v : Value} (h : w.cell? (a.add 0) = some v) : a = ⟨a.block, a.off, none⟩ := by
  have h0 : a.add 0 = a := by unfold Addr.add; rfl
  rw [h0] at h
  unfold World.cell? at h
  split at h
  · split at h
    · cases h
    · rename_i hs
      obtain ⟨b, o, s⟩ := a
      cases s with
      | none => rfl
      | some x => simp at hs
  · cases h
def ofI (zs : List Int) : List UInt8 := zs.map fun z => UInt8.ofNat z.toNat
theorem bV_ofI {z : Int} (h : (Lit.int .u8 z).wf = true) : bV (UInt8.ofNat z.toNat) = .int .u8 z := by
  have hz : 0 ≤ z ∧ z < 256 := by
    have e1 : IntKind.u8.min = 0 := rfl
    have e2 : IntKind.u8.max = 255 := rfl
    simp [Lit.wf] at h
    omega
  unfold bV
  rw [UInt8.toNat_ofNat', Nat.mod_eq_of_lt (by omega)]
  congr 1
  omega
theorem row_of_cells {a : Addr} {zs : List Int} {len : Nat} (hl : len ≤ zs.length) (hc : ∀ i, i < zs.length → W.cell? (a.add i) = some (.int .u8 (zs.getD i 0))) (hw : ∀ n ∈ zs, (Lit.int .u8 n).wf = true) : (ofI (zs.take len)).length = len ∧ RowAt W (some a) ((ofI (zs.take len)).map bV) := by
  refine ⟨by simp [ofI]; omega, ?_⟩
  cases hz : zs with
  | nil => exact .inl (by simp [ofI])
  | cons z0 r =>
    rw [← hz]
    have h0 := hc 0 (by rw [hz]; simp)
    have ha := addr_plain h0
    refine .inr ⟨a.block, a.off, by rw [← ha], fun i v hv => ?_⟩
    rw [List.getElem?_map, ofI, List.getElem?_map, List.getElem?_take] at hv
    split at hv
    · rcases hq : zs[i]? with _ | z
      · rw [hq] at hv; cases hv
      · rw [hq] at hv
        simp only [Option.map_some, Option.some.injEq] at hv
        have hi : i < zs.length := (List.getElem?_eq_some_iff.1 hq).1
        have h1 := hc i hi
        rw [ha, Addr.add_lit, List.getD_eq_getElem?_getD, hq] at h1
        rw [← hv, bV_ofI (hw z (List.mem_of_getElem? hq))]
        exact h1
    · cases hv
theorem open_bytes {t e : TypeId} {v : Value} {d : DataW H} {p : List MemPlace} (ht : P.underlying t = some (.slice e)) (he : P.underlying e = some (.int .u8)) (hc : P.cellsOf e = 1)
    (hv : ∃ a l c, v = .slice a l c) (h : DataW.Trod enc P W 0 (fun _ => true) true t v d p) : ∃ (bs : List UInt8) (a : Option Addr) (c : Nat), v = .slice a bs.length c ∧ bs.length ≤ c ∧ c ≤ maxLen ∧ RowAt W a (bs.map bV) := by
  obtain ⟨a, l, c, rfl⟩ := hv
  obtain ⟨fuel, hf⟩ := h
  rcases open_ints ht he hc hf with ⟨hcs, _⟩ | ⟨x, l', c', zs, hcs, _, hl, hm, hz, _, hcell, hwz⟩
  · simp [Value.cells] at hcs
    obtain ⟨rfl, rfl, rfl⟩ := hcs
    exact ⟨[], none, 0, rfl, Nat.le_refl _, by decide, .inl rfl⟩
  · simp [Value.cells] at hcs
    obtain ⟨rfl, rfl, rfl⟩ := hcs
    simp only [if_true] at hz
    obtain ⟨h1, h2⟩ := row_of_cells (len := l) (by omega) hcell hwz
    exact ⟨ofI (zs.take l), some x, c, by rw [h1], by rw [h1]; exact hl, hm, h2⟩
theorem open_parts {t e q : TypeId} {v : Value} {d : DataW H} {p : List MemPlace} (ht : P.underlying t = some (.slice e)) (he : P.underlying e = some (.slice q)) (hq : P.underlying q = some (.int .u8)) (ce : P.cellsOf e = 1) (cq : P.cellsOf q = 1)
    (hv : ∃ a l c, v = .slice a l c) (h : DataW.Trod enc P W 0 (fun _ => true) true t v d p) : ∃ (ps : List (List UInt8)) (a : Option Addr) (c : Nat), v = .slice a ps.length c ∧ ps.length ≤ c ∧ c ≤ maxLen ∧ PartsAt W a ps := by
  obtain ⟨a, l, c, rfl⟩ := hv
  obtain ⟨fuel, hf⟩ := h
  rcases Deep.open_int_rows ht he hq ce cq hf with ⟨hcs, _⟩ | ⟨x, l', c', A, L, C, Z, hcs, _, hl, hm, _, hrow⟩
  · simp [Value.cells] at hcs
    obtain ⟨rfl, rfl, rfl⟩ := hcs
    exact ⟨[], none, 0, rfl, Nat.le_refl _, by decide, .nil⟩
  · simp [Value.cells] at hcs
    obtain ⟨rfl, rfl, rfl⟩ := hcs
    have each : ∀ r, r < c → (ofI ((Z r).take (L r))).length = L r ∧ RowAt W (A r) ((ofI ((Z r).take (L r))).map bV) := fun r hr => by
      obtain ⟨_, h2, _, h4, h5, h6, h7⟩ := hrow r hr
      cases hA : A r with
      | none =>
        have hC := h6 hA
        have hL : L r = 0 := by omega
        rw [hL]
        exact ⟨by simp [ofI], .inl (by simp [ofI])⟩
      | some a' => exact row_of_cells (by omega) (fun i hi => (h7 a' hA).2 i (by omega)) h5
    let ps : List (List UInt8) := (List.range l).map fun r => ofI ((Z r).take (L r))
    let vs : List (Option Addr × Nat) := (List.range l).map fun r => (A r, C r)
    have hps : ps.length = l := by simp [ps]
    refine ⟨ps, some x, c, by rw [hps], by rw [hps]; exact hl, hm, vs, ?_, by simp [ps, vs], ?_⟩
    · by_cases h0 : l = 0
      · exact .inl (by rw [List.map_eq_nil_iff]; simp [ps, vs, h0])
      · have ha := addr_plain (hrow 0 (by omega)).1
        refine .inr ⟨x.block, x.off, by rw [← ha], fun i v hv => ?_⟩
        rw [List.getElem?_map] at hv
        rcases hz : (vs.zip ps)[i]? with _ | ⟨v1, p1⟩
        · rw [hz] at hv; cases hv
        · rw [hz] at hv
          simp only [Option.map_some, Option.some.injEq] at hv
          rw [List.getElem?_zip_eq_some] at hz
          obtain ⟨z1, z2⟩ := hz
          have hi : i < l := by
            have := (List.getElem?_eq_some_iff.1 z2).1
            omega
          simp only [vs, ps, List.getElem?_map, List.getElem?_range hi, Option.map_some, Option.some.injEq] at z1 z2
          rw [← hv, ← z1, ← z2, (each i (by omega)).1]
          have h1 := (hrow i (by omega)).1
          rw [ha, Addr.add_lit] at h1
          exact h1
    · intro v1 p1 hm1
      obtain ⟨i, hi⟩ := List.getElem?_of_mem hm1
      rw [List.getElem?_zip_eq_some] at hi
      obtain ⟨z1, z2⟩ := hi
      have hi : i < l := by
        have := (List.getElem?_eq_some_iff.1 z2).1
        omega
      simp only [vs, ps, List.getElem?_map, List.getElem?_range hi, Option.map_some, Option.some.injEq] at z1 z2
      obtain ⟨_, h2, h3, _⟩ := hrow i (by omega)
      rw [← z1, ← z2, (each i (by omega)).1]
      exact ⟨(each i (by omega)).2, h2, Nat.le_trans h2 h3⟩
theorem int_nat {z : Int} (h : 0 ≤ z) : ∃ n : Nat, z = (n : Int) := ⟨z.toNat, by omega⟩
theorem u32_nat {z : Int} (h : (Lit.int .u32 z).wf = true) : ∃ n : Nat, z = (n : Int) ∧ n < 4294967296 := by
  have hz : 0 ≤ z ∧ z < 4294967296 := by
    have e1 : IntKind.u32.min = 0 := rfl
    have e2 : IntKind.u32.max = 4294967295 := rfl
    simp [Lit.wf] at h
    omega
  exact ⟨z.toNat, by omega, by omega⟩
theorem i64_range {z : Int} (h : (Lit.int .i64 z).wf = true) : -9223372036854775808 ≤ z ∧ z ≤ 9223372036854775807 := by
  have e1 : IntKind.i64.min = -9223372036854775808 := rfl
  have e2 : IntKind.i64.max = 9223372036854775807 := rfl
  simp [Lit.wf] at h
  omega
end Go.Proofs.Ytecmpjccdhmeeaa
end
section
/- Data that came in, opened by their shape. No program in sight. -/
namespace Go.Proofs.Ytecmpjccdhmeeaa
open Go.RowKit Go.WideShapes Go.ChangeShapes
/-- What a type looks like; a struct's fields one behind the other: offset, cells, shape. -/
inductive Sh where
  | int (k : IntKind)
  | bool
  | str
  | slice (e : Sh) (n : Nat)
  | arr (len : Nat) (e : Sh) (n : Nat)
  | agg (fs : Sh)
  | fnil
  | fcons (off n : Nat) (f r : Sh)
mutual
def fitsB (P : Program) : Sh → TypeId → Bool
  | .int k, t => match P.underlying t with | some (.int k') => k == k' | _ => false
  | .bool, t => match P.underlying t with | some .bool => true | _ => false
  | .str, t => match P.underlying t with | some .string => true | _ => false
  | .slice e n, t => match P.underlying t with | some (.slice et) => P.cellsOf et == n && fitsB P e et | _ => false
  | .arr len e n, t => match P.underlying t with | some (.array l et) => l == len && P.cellsOf et == n && fitsB P e et | _ => false
  | .agg fs, t => match P.underlying t with | some (.struct fl) => fitsF P fs fl 0 | _ => false
  | .fnil, _ => false
  | .fcons _ _ _ _, _ => false
def fitsF (P : Program) : Sh → Array Field → Nat → Bool
  | .fnil, _, _ => true
  | .fcons off n f r, fl, i => (match fl[i]? with | some fd => fd.offset == off && P.cellsOf fd.type == n && fitsB P f fd.type | none => false) && fitsF P r fl (i + 1)
  | _, _, _ => false
end
/-- What the cells of a shape hold, in a world. -/
def Sh.Has (w : World) : Sh → List Value → Prop
  | .int k, cs => ∃ z, cs = [.int k z] ∧ (Lit.int k z).wf = true
  | .bool, cs => ∃ b, cs = [.bool b]
  | .str, cs => ∃ s : ByteArray, cs = [.string s] ∧ s.size ≤ maxLen
  | .slice e n, cs => cs = [.slice none 0 0] ∨ ∃ a len cap, cs = [.slice (some a) len cap] ∧ len ≤ cap ∧ cap ≤ maxLen ∧ ∀ i, i < len → ∃ cs', (cs'.length = n ∧ ∀ j, j < n → w.cell? (a.add (i * n + j)) = cs'[j]?) ∧ e.Has w cs'
  | .arr len e n, cs => ∀ i, i < len → e.Has w ((cs.drop (i * n)).take n)
  | .agg fs, cs => fs.Has w cs
  | .fnil, _ => True
  | .fcons off n f r, cs => f.Has w ((cs.drop off).take n) ∧ r.Has w cs
section
variable {H : Type} {enc : TypeId × Value → H} {P : Program} {W : World}
mutual
theorem has_of (sh : Sh) : ∀ (t : TypeId) (fuel : Nat) (cs : List Value) (x : DataW H × List MemPlace), fitsB P sh t = true → DataW.trod enc P W 0 (fun _ => true) true fuel t cs = some x → sh.Has W cs := by
  intro t fuel cs x hf h
  cases sh with
  | int k =>
    simp only [fitsB] at hf
    split at hf
    · rename_i k' hu
      have : k = k' := eq_of_beq hf
      subst this
      obtain ⟨n, h1, _, h2⟩ := DataW.trod_int hu h
      exact ⟨n, h1, h2⟩
    · cases hf
  | bool =>
    simp only [fitsB] at hf
    split at hf
    · rename_i hu
      obtain ⟨b, h1, _⟩ := DataW.trod_bool hu h
      exact ⟨b, h1⟩
    · cases hf
  | str =>
    simp only [fitsB] at hf
    split at hf
    · rename_i hu
      obtain ⟨s, h1, _, h2⟩ := DataW.trod_string hu h
      exact ⟨s, h1, h2⟩
    · cases hf
  | slice e n =>
    simp only [fitsB] at hf
    split at hf
    · rename_i et hu
      rw [Bool.and_eq_true] at hf
      have hn : P.cellsOf et = n := eq_of_beq hf.1
      rcases Deep.open_slice hu h with ⟨h1, _⟩ | ⟨a, len, cap, m, nf, D, Pl, h1, _, hl, hm, hmm, _, hall⟩
      · exact .inl h1
      · refine .inr ⟨a, len, cap, h1, hl, hm, fun i hi => ?_⟩
        simp only [if_true] at hmm
        obtain ⟨cs', hc, ht⟩ := hall i (by omega)
        rw [hn] at hc
        obtain ⟨_, c1, c2⟩ := World.cells?_some hc
        refine ⟨cs', ⟨c1, fun j hj => ?_⟩, has_of e et _ _ _ hf.2 ht⟩
        rw [← c2 j hj, Addr.add_add]
    · cases hf
  | arr len e n =>
    simp only [fitsB] at hf
    split at hf
    · rename_i l et hu
      rw [Bool.and_eq_true, Bool.and_eq_true] at hf
      have hl : l = len := eq_of_beq hf.1.1
      have hn : P.cellsOf et = n := eq_of_beq hf.1.2
      subst hl
      obtain ⟨xs, m, _, _, _, hxl, hall⟩ := DataW.trod_array hu h
      intro i hi
      have := hall i hi
      rw [hn] at this
      rw [List.getElem?_eq_getElem (by omega)] at this
      exact has_of e et _ _ _ hf.2 this
    · cases hf
  | agg fs =>
    simp only [fitsB] at hf
    split at hf
    · rename_i fl hu
      obtain ⟨xs, n, _, _, _, hxl, hall⟩ := DataW.trod_struct hu h
      exact hasF_of fs fl 0 n cs xs hf hxl hall
    · cases hf
  | fnil => simp [fitsB] at hf
  | fcons off n f r => simp [fitsB] at hf
theorem hasF_of (sh : Sh) : ∀ (fl : Array Field) (i n : Nat) (cs : List Value) (xs : List (DataW H × List MemPlace)), fitsF P sh fl i = true → xs.length = fl.size →
    (∀ (i : Nat) (f : Field), fl[i]? = some f → DataW.trod enc P W 0 (fun _ => true) true n f.type ((cs.drop f.offset).take (P.cellsOf f.type)) = xs[i]?) → sh.Has W cs := by
  intro fl i n cs xs hf hl hall
  cases sh with
  | fnil => trivial
  | fcons off m f r =>
    simp only [fitsF, Bool.and_eq_true] at hf
    obtain ⟨h1, h2⟩ := hf
    refine ⟨?_, hasF_of r fl (i + 1) n cs xs h2 hl hall⟩
    split at h1
    · rename_i fd hfd
      rw [Bool.and_eq_true, Bool.and_eq_true] at h1
      have ho : fd.offset = off := eq_of_beq h1.1.1
      have hm : P.cellsOf fd.type = m := eq_of_beq h1.1.2
      have ht := hall i fd hfd
      have hi : i < xs.length := by rw [hl]; exact (Array.getElem?_eq_some_iff.1 hfd).1
      rw [List.getElem?_eq_getElem hi, ho, hm] at ht
      exact has_of f fd.type _ _ _ h1.2 ht
    · cases h1
  | int k => simp [fitsF] at hf
  | bool => simp [fitsF] at hf
  | str => simp [fitsF] at hf
  | slice e n => simp [fitsF] at hf
  | arr l e n => simp [fitsF] at hf
  | agg fs => simp [fitsF] at hf
end
theorem open_sh {sh : Sh} {t : TypeId} {v : Value} {d : DataW H} {p : List MemPlace} (hf : fitsB P sh t = true) (h : DataW.Trod enc P W 0 (fun _ => true) true t v d p) : sh.Has W v.cells.toList := by
  obtain ⟨fuel, hf'⟩ := h
  exact has_of sh t fuel _ _ hf hf'
end
theorem exists_list {α : Type} {p : Nat → α → Prop} : ∀ (n : Nat), (∀ i, i < n → ∃ x, p i x) → ∃ l : List α, l.length = n ∧ ∀ i x, l[i]? = some x → p i x := by
  intro n
  induction n with
  | zero => intro _; exact ⟨[], rfl, fun i x h => by cases h⟩
  | succ n ih =>
    intro h
    obtain ⟨l, hl, hp⟩ := ih fun i hi => h i (by omega)
    obtain ⟨x, hx⟩ := h n (by omega)
    refine ⟨l ++ [x], by simp [hl], fun i y hy => ?_⟩
    by_cases hi : i < l.length
    · rw [List.getElem?_append_left hi] at hy; exact hp i y hy
    · rw [List.getElem?_append_right (by omega)] at hy
      have h0 : i - l.length = 0 := by
        have := (List.getElem?_eq_some_iff.1 hy).1; simp at this; omega
      rw [h0] at hy
      simp at hy
      subst hy
      rw [show i = n by omega]; exact hx
/-- Where a slice's elements lie. -/
theorem slice_addr {w : World} {a : Addr} {v : Value} (h : w.cell? (a.add 0) = some v) : a = ⟨a.block, a.off, none⟩ := addr_plain h
def shBytes : Sh := .slice (.int .u8) 1
theorem has_bytes {w : World} {cs : List Value} (h : shBytes.Has w cs) : ∃ (bs : List UInt8) (a : Option Addr) (c : Nat), cs = [.slice a bs.length c] ∧ bs.length ≤ c ∧ c ≤ maxLen ∧ RowAt w a (bs.map bV) := by
  rcases h with rfl | ⟨a, len, cap, rfl, hl, hm, hall⟩
  · exact ⟨[], none, 0, rfl, Nat.le_refl _, by decide, .inl rfl⟩
  · obtain ⟨zs, hz, hp⟩ := exists_list (p := fun i z => w.cell? (a.add i) = some (.int .u8 z) ∧ (Lit.int .u8 z).wf = true) len (fun i hi => by
      obtain ⟨cs', ⟨h1, h2⟩, z, rfl, hw⟩ := hall i hi
      have := h2 0 (by omega)
      simp at this
      exact ⟨z, this, hw⟩)
    obtain ⟨h1, h2⟩ := row_of_cells (W := w) (a := a) (zs := zs) (len := len) (by omega) (fun i hi => by
      have := (hp i zs[i] (List.getElem?_eq_getElem hi)).1
      rw [this]; congr 2; simp [List.getD, List.getElem?_eq_getElem hi]) (fun n hn => by
      obtain ⟨i, hi⟩ := List.getElem?_of_mem hn
      exact (hp i n hi).2)
    exact ⟨ofI (zs.take len), some a, cap, by rw [h1], by rw [h1]; exact hl, hm, h2⟩
theorem has_int {w : World} {k : IntKind} {cs : List Value} (h : (Sh.int k).Has w cs) : ∃ z, cs = [.int k z] ∧ (Lit.int k z).wf = true := h
end Go.Proofs.Ytecmpjccdhmeeaa
end
section
/- Small words for using printed conditions. No program in sight. -/
namespace Go.Proofs.Ytecmpjccdhmeeaa
open Go.RowKit
theorem keepG_nil (w w1 : World) : KeepG [] w w1 := fun _ g hg => by cases hg
theorem keepG_below {gs : List Nat} {w w1 : World} (h : Below w.heap.size w w1) : KeepG gs w w1 := fun hu g hg => h.block g (hu g hg)
theorem keepG_fr {gs L : List Nat} {w w1 : World} (h : Fr L w w1) (ha : ∀ g ∈ gs, g ∉ L) : KeepG gs w w1 := fun hu g hg => h.block g (hu g hg) (ha g hg)
/-- A call whose contract tells one value. -/
theorem wr64 {z : Int} (h1 : -9223372036854775808 ≤ z) (h2 : z ≤ 9223372036854775807) : IntKind.i64.wrap z = z := IntWalk.i64_in z ⟨h1, h2⟩
theorem wru64 {z : Int} (h1 : 0 ≤ z) (h2 : z ≤ 18446744073709551615) : IntKind.u64.wrap z = z := by rw [IntKind.wrap_u64]; omega
theorem wru8 {z : Int} (h1 : 0 ≤ z) (h2 : z ≤ 255) : IntKind.u8.wrap z = z := by rw [IntKind.wrap_u8]; omega
theorem u64_mod (z : Int) (k : Nat) (hk : 0 < k) : ∃ m : Nat, m < k ∧ Int.tmod (IntKind.u64.wrap z) (k : Int) = (m : Int) := by
  have h0 : 0 ≤ IntKind.u64.wrap z := by rw [IntKind.wrap_u64]; omega
  have h1 := Int.emod_nonneg (IntKind.u64.wrap z) (show (k : Int) ≠ 0 by omega)
  have h2 := Int.emod_lt_of_pos (IntKind.u64.wrap z) (show (0 : Int) < (k : Int) by omega)
  exact ⟨(IntKind.u64.wrap z % (k : Int)).toNat, by omega, by rw [Int.tmod_eq_emod_of_nonneg h0]; omega⟩
theorem br_t {b : Bool} {A B : Prop} (hb : b = true) (h : A) : br b A B := by rw [br_true hb]; exact h
theorem br_f {b : Bool} {A B : Prop} (hb : b = false) (h : B) : br b A B := by rw [br_false hb]; exact h
theorem br_y {p : Prop} [Decidable p] {A B : Prop} (hp : p) (h : A) : br (decide p) A B := br_t (decide_eq_true hp) h
theorem br_n {p : Prop} [Decidable p] {A B : Prop} (hp : ¬ p) (h : B) : br (decide p) A B := br_f (decide_eq_false hp) h
theorem br_not {b : Bool} {A B : Prop} (h : br b B A) : br (!b) A B := by cases b <;> exact h
/-- A new block. -/
theorem newO_mk {w : World} {o : Obj} {K : Nat → World → Prop} (h : K w.heap.size (w.alloc o)) : newO w o K := by rintro g w1 rfl rfl; exact h
theorem newO_in {w : World} {o : Obj} {K : Nat → World → Prop} (h : ∀ w1, w1.heap[w.heap.size]? = some o → Below w.heap.size w w1 → w1.heap.size = w.heap.size + 1 → K w.heap.size w1) : newO w o K := by
  rintro g w1 rfl rfl; exact h _ (al_new rfl) (Below_one o) (by simp)
theorem drewO_in {w : World} {K : World → Prop} (h : ∀ w1, Below w.heap.size w w1 → w1.heap = w.heap → K w1) : drewO w K := fun w1 h1 h2 => h w1 h2 h1
theorem cellsAt_row {w : World} {g : Nat} {cs : Array Value} {t : TypeId} {fr : Nat × Nat} (h : w.heap[g]? = some (.cells cs t fr)) {off : Nat} {vs : List Value} (hv : (cs.toList.drop off).take vs.length = vs) : cellsAt w g off vs :=
  cellsAt_of fun j v hj => by
    rw [cell_of_row _ _ _ _ _ _ h]
    rw [← hv, List.getElem?_take] at hj
    split at hj
    · rw [List.getElem?_drop] at hj; simpa using hj
    · cases hj
theorem row_of_block {w : World} {g : Nat} {bs : List UInt8} {t : TypeId} {fr : Nat × Nat} (h : w.heap[g]? = some (.cells (bs.map bV).toArray t fr)) : RowAt w (some ⟨g, 0, none⟩) (bs.map bV) := RowAt.ofWhole h
/-- A block's cells, as what is appended. -/
theorem src_block {P : Program} {W : World} {tx e' : TypeId} (hk : P.underlying tx = some (.slice e')) {g n c size : Nat} {cs : List Value} {t : TypeId} {fr : Nat × Nat} (h : W.heap[g]? = some (.cells cs.toArray t fr)) (hl : cs.length = n * size) (h1 : allOne cs = true) :
    Src P size tx (.slice (some ⟨g, 0, none⟩) n c) n cs W :=
  Src.ofSlice _ hk _ n c _ hl (fun j u hj => by
    rw [Addr.add_lit, Nat.zero_add, cell_of_row _ _ _ _ _ _ h]
    simpa using hj) (allOne_spec h1)
theorem own_cell {w : World} {b : Nat} {e : TypeId} {a : Option Addr} {n c : Nat} {xs : List Value} (h : Own w b e 1 (.slice a n c) n xs) {i : Nat} {v : Value} (hi : xs[i]? = some v) : ∃ g off, a = some ⟨g, off, none⟩ ∧ w.cell? ⟨g, off + i * 1, none⟩ = some v := by
  have hlt : i < xs.length := (List.getElem?_eq_some_iff.1 hi).1
  have hl := h.1
  rcases h.2 with ⟨h0, h1⟩ | ⟨g, off, cap, cur, hv, _⟩
  · omega
  · injection hv with h1 h2 h3
    subst h1
    exact ⟨g, off, rfl, by rw [Nat.mul_one]; exact h.cells g off _ rfl i v hi⟩
theorem Bk.there {w : World} {g : Nat} {cs : Array Value} {t : TypeId} (h : Bk w g cs t) {i n : Nat} (hi : i + n ≤ cs.size) : w.there g i n := fun j hj => by
  refine ⟨?_, h.frozen _⟩
  rw [h.cell]
  rw [Array.getElem?_eq_getElem (by omega)]
  rfl
theorem stO_bk {gs : List Nat} {w : World} {g i : Nat} {cs : Array Value} {t : TypeId} {v : Value} {K : World → Prop} (h : Bk w g cs t) (hi : i < cs.size) (hg : ∀ x ∈ gs, x ≠ g) (hk : ∀ w1, Bk w1 g (cs.setIfInBounds i v) t → Fr [g] w w1 → w1.heap.size = w.heap.size → K w1) : stO gs w g i [v] K :=
  ⟨hg, h.there (by simp; omega), fun w1 e => by
    subst e
    exact hk _ (h.setCell i v) ((Fr.refl [g] w).setCell (p := ⟨g, i, none⟩) (.inl (by simp)) v) (by simp [World.setCells, World.setCell])⟩
theorem stO_set {gs : List Nat} {w : World} {g i : Nat} {cs : Array Value} {t : TypeId} {v : Value} {K : World → Prop} (h : Bk w g cs t) (hi : i < cs.size) (hg : ∀ x ∈ gs, x ≠ g) (hk : K (w.setCell ⟨g, i, none⟩ v)) : stO gs w g i [v] K :=
  ⟨hg, h.there (by simp; omega), fun w1 e => by subst e; exact hk⟩
theorem sliceBase_cell {w : World} {b off c l s j : Nat} {v : Value} (hlt : l ≠ c) (h : w.cell? ⟨b, off + l * s + j, none⟩ = some v) : ∃ b' off', sliceBase (some ⟨b, off, none⟩) c l s = some ⟨b', off', none⟩ ∧ w.cell? ⟨b', off' + j, none⟩ = some v := by
  refine ⟨b, off + l * s, ?_, h⟩
  unfold sliceBase
  rw [if_neg (fun e => hlt e.symm)]
  simp [Addr.add_lit]
theorem own_empty {w : World} {g : Nat} {e : TypeId} (s : Nat) (h : w.heap[g]? = some (.cells #[] e (0, 0))) : Own w 0 e s (.slice (some ⟨g, 0, none⟩) 0 0) 0 [] :=
  ⟨by simp, .inr ⟨g, 0, 0, #[], rfl, Nat.zero_le _, h, Nat.le_refl _, Nat.zero_le _, by simp, by simp⟩⟩
theorem Own.store {w : World} {b : Nat} {e : TypeId} {a : Option Addr} {n c : Nat} {xs : List Value} (h : Own w b e 1 (.slice a n c) n xs) {i : Nat} (hi : i < n) {gs : List Nat} {v : Value} {K : World → Prop} (hgs : ∀ k, (Value.slice a n c).ownBlock = some k → ∀ x ∈ gs, x ≠ k)
    (hk : ∀ w1, Own w1 b e 1 (.slice a n c) n (xs.set i v) → Fr (Value.slice a n c).ownBlock.toList w w1 → w1.heap.size = w.heap.size → K w1) : ∃ g off, a = some ⟨g, off, none⟩ ∧ stO gs w g (off + i * 1) [v] K := by
  rcases h.2 with ⟨h0, h1⟩ | ⟨g, off, cap, cur, hv, hb, hg, hn, hm, hs, ht⟩
  · omega
  · injection hv with h1 h2 h3
    subst h1; subst h3
    have hB : Bk w g cur e := hg
    refine ⟨g, off, rfl, ?_⟩
    rw [Nat.mul_one]
    refine stO_bk hB (by omega) (fun x hx => hgs g rfl x hx) fun w1 hb1 hf hsz => ?_
    refine hk w1 ⟨by rw [List.length_set]; exact h.1, .inr ⟨g, off, c, _, rfl, hb, hb1, hn, hm, by simpa using hs, ?_⟩⟩ hf hsz
    rw [← ht, Array.toList_setIfInBounds, List.drop_set]
    rw [if_neg (by omega), show off + i - off = i by omega, List.take_set]
theorem Own.storeAt {w : World} {b : Nat} {e : TypeId} {g off n c : Nat} {xs : List Value} (h : Own w b e 1 (.slice (some ⟨g, off, none⟩) n c) n xs) {i : Nat} (hi : i < n) {gs : List Nat} {v : Value} {K : World → Prop} (hgs : ∀ x ∈ gs, x ≠ g)
    (hk : ∀ w1, Own w1 b e 1 (.slice (some ⟨g, off, none⟩) n c) n (xs.set i v) → Fr [g] w w1 → w1.heap.size = w.heap.size → K w1) : stO gs w g (off + i * 1) [v] K := by
  obtain ⟨g', off', he, hst⟩ := Own.store (K := K) (v := v) h hi (fun k hk x hx => by injection hk with hk; subst hk; exact hgs x hx) hk
  injection he with he
  injection he with e1 e2
  subst e1; subst e2
  exact hst
/-- One byte more or other. -/
theorem bits_byte (op : BinOp) (x y : Int) : ∃ b : UInt8, bitsV op .u8 x y = (b.toNat : Int) := by
  have key : ∀ z : Int, ∃ b : UInt8, IntKind.u8.wrap z = (b.toNat : Int) := fun z => by
    have h : 0 ≤ IntKind.u8.wrap z ∧ IntKind.u8.wrap z < 256 := by rw [IntKind.wrap_u8]; omega
    refine ⟨UInt8.ofNat (IntKind.u8.wrap z).toNat, ?_⟩
    rw [show (UInt8.ofNat (IntKind.u8.wrap z).toNat).toNat = (IntKind.u8.wrap z).toNat % 256 from rfl, Nat.mod_eq_of_lt (by omega)]
    omega
  unfold bitsV
  cases op <;> exact key _
theorem strOf_cat (xs ys : List UInt8) : strOf xs ++ strOf ys = strOf (xs ++ ys) := by
  apply ByteArray.ext
  simp [strOf, ByteArray.data_append]
theorem strOf_extract (xs : List UInt8) (i j : Nat) : (strOf xs).extract i j = strOf ((xs.drop i).take (j - i)) := by
  apply ByteArray.ext
  simp [strOf, ByteArray.data_extract, List.take_drop]
theorem byteAt_strOf (xs : List UInt8) (i : Nat) : byteAt (strOf xs) (i : Int) = ((xs.getD i 0).toNat : Int) := by unfold byteAt; rw [strOf_list]; rfl
end Go.Proofs.Ytecmpjccdhmeeaa
end
section
/- Slices of structs that came in: their elements, one behind the other. No program in sight. -/
namespace Go.Proofs.Ytecmpjccdhmeeaa
open Go.RowKit Go.WideShapes Go.ChangeShapes
/-- Elements of n cells each, of which R tells where they lie. -/
def RowsAt {α : Type} (R : World → Nat → Nat → α → Prop) (n : Nat) (w : World) (a : Option Addr) (xs : List α) : Prop := xs = [] ∨ ∃ b off, a = some ⟨b, off, none⟩ ∧ ∀ i x, xs[i]? = some x → R w b (off + i * n) x
theorem RowsAt.mono {α : Type} {R : World → Nat → Nat → α → Prop} {n : Nat} {w w' : World} {a : Option Addr} {xs : List α} (h : RowsAt R n w a xs) (hm : ∀ b off x, R w b off x → R w' b off x) : RowsAt R n w' a xs := by
  rcases h with h | ⟨b, off, ha, h⟩
  · exact .inl h
  · exact .inr ⟨b, off, ha, fun i x hx => hm _ _ _ (h i x hx)⟩
theorem RowsAt.get {α : Type} {R : World → Nat → Nat → α → Prop} {n : Nat} {w : World} {a : Option Addr} {xs : List α} (h : RowsAt R n w a xs) {i : Nat} (hi : i < xs.length) : ∃ b off, a = some ⟨b, off, none⟩ ∧ R w b (off + i * n) xs[i] := by
  rcases h with rfl | ⟨b, off, ha, h⟩
  · simp at hi
  · exact ⟨b, off, ha, h i _ (List.getElem?_eq_getElem hi)⟩
theorem has_rows {α : Type} {e : Sh} {n : Nat} (hn : 0 < n) {R : World → Nat → Nat → α → Prop} {w : World} (elem : ∀ (cs' : List Value) (b off : Nat), cs'.length = n → cellsAt w b off cs' → e.Has w cs' → ∃ x, R w b off x) {cs : List Value} (h : (Sh.slice e n).Has w cs) :
    ∃ (xs : List α) (a : Option Addr) (c : Nat), cs = [.slice a xs.length c] ∧ xs.length ≤ c ∧ c ≤ maxLen ∧ RowsAt R n w a xs := by
  rcases h with rfl | ⟨a, len, cap, rfl, hl, hm, hall⟩
  · exact ⟨[], none, 0, rfl, Nat.le_refl _, by decide, .inl rfl⟩
  · obtain ⟨xs, hz, hp⟩ := exists_list (p := fun i (x : α) => R w a.block (a.off + i * n) x ∧ a = ⟨a.block, a.off, none⟩) len (fun i hi => by
      obtain ⟨cs0, ⟨h01, h02⟩, _⟩ := hall 0 (by omega)
      have ha : a = ⟨a.block, a.off, none⟩ := by
        have := h02 0 (by omega)
        rw [List.getElem?_eq_getElem (by omega)] at this
        simp only [Nat.zero_mul, Nat.zero_add] at this
        exact addr_plain this
      obtain ⟨cs', ⟨h1, h2⟩, h3⟩ := hall i hi
      obtain ⟨x, hx⟩ := elem cs' a.block (a.off + i * n) h1 (cellsAt_of fun j v hj => by
        have hjn : j < n := by have := (List.getElem?_eq_some_iff.1 hj).1; omega
        have := h2 j hjn
        rw [ha, Addr.add_lit, ← Nat.add_assoc, hj] at this
        exact this) h3
      exact ⟨x, hx, ha⟩)
    refine ⟨xs, some a, cap, by rw [hz], by omega, hm, ?_⟩
    by_cases h0 : xs = []
    · exact .inl h0
    · have h1 : 0 < xs.length := List.length_pos_iff.2 h0
      have ha := (hp 0 _ (List.getElem?_eq_getElem h1)).2
      exact .inr ⟨a.block, a.off, by rw [← ha], fun i p hi => (hp i p hi).1⟩
theorem cellsAt_below {w w' : World} {b off : Nat} {vs : List Value} (h : cellsAt w b off vs) {B : Nat} (hb : Below B w w') (hB : w.heap.size ≤ B) : cellsAt w' b off vs :=
  cellsAt_of fun j v hj => by
    have h1 := cellsAt_get h j v hj
    exact (hb.cell (p := ⟨b, off + j, none⟩) (Nat.lt_of_lt_of_le (block_lt_of_cell h1) hB)).trans h1
theorem open_rows {P : Program} {α : Type} {e : Sh} {n : Nat} {R : World → Nat → Nat → α → Prop} {H : Type} {enc : TypeId × Value → H} {W : World} {t : TypeId} {v : Value} {d : DataW H} {p : List MemPlace} (hn : 0 < n) (elem : ∀ (cs' : List Value) (b off : Nat), cs'.length = n → cellsAt W b off cs' → e.Has W cs' → ∃ x, R W b off x)
    (hf : fitsB P (.slice e n) t = true) (hv : ∃ a l c, v = .slice a l c) (h : DataW.Trod enc P W 0 (fun _ => true) true t v d p) : ∃ (xs : List α) (a : Option Addr) (c : Nat), v = .slice a xs.length c ∧ RowsAt R n W a xs ∧ xs.length ≤ c ∧ c ≤ maxLen := by
  obtain ⟨a, l, c, rfl⟩ := hv
  obtain ⟨xs, a', c', h1, h2, h3, h4⟩ := has_rows hn elem (open_sh hf h)
  simp [Value.cells] at h1
  obtain ⟨rfl, rfl, rfl⟩ := h1
  exact ⟨xs, a, c, rfl, h4, h2, h3⟩
end Go.Proofs.Ytecmpjccdhmeeaa
end
section
/- An object with a list of its own: each element so many cells, what an element refers to in blocks that the object owns. No program in sight. -/
namespace Go.Proofs.Ytecmpjccdhmeeaa
open Go.RowKit
theorem cell_keep {w w' : World} {b : Nat} (hk : w'.heap[b]? = w.heap[b]?) (o : Nat) : w'.cell? ⟨b, o, none⟩ = w.cell? ⟨b, o, none⟩ := by unfold World.cell?; simp only [hk]
theorem cellsAt_keep {w w' : World} {b : Nat} (hk : w'.heap[b]? = w.heap[b]?) : ∀ {vs : List Value} {off : Nat}, cellsAt w b off vs → cellsAt w' b off vs
  | [], _, _ => trivial
  | _ :: _, _, h => ⟨(cell_keep hk _).trans h.1, cellsAt_keep hk h.2⟩
theorem cellsAt_list {w : World} {b : Nat} : ∀ {vs : List Value} {off : Nat}, (∀ j v, vs[j]? = some v → w.cell? ⟨b, off + j, none⟩ = some v) → cellsAt w b off vs
  | [], _, _ => trivial
  | v :: r, off, h => ⟨by simpa using h 0 v rfl, cellsAt_list fun j u hu => by have := h (j + 1) u (by simpa using hu); rwa [show off + (j + 1) = off + 1 + j by omega] at this⟩
structure RStable {α : Type} (R : World → List Nat → α → List Value → Prop) (k : Nat) : Prop where
  len : ∀ {w : World} {M : List Nat} {e : α} {cs : List Value}, R w M e cs → cs.length = k
  keep : ∀ {w w' : World} {M : List Nat} {e : α} {cs : List Value}, R w M e cs → (∀ b ∈ M, w'.heap[b]? = w.heap[b]?) → R w' M e cs
  mono : ∀ {w : World} {M K : List Nat} {e : α} {cs : List Value}, R w M e cs → (∀ b ∈ M, b ∈ K) → R w K e cs
def ElsOk {α : Type} (R : World → List Nat → α → List Value → Prop) (k : Nat) (w : World) (M : List Nat) (es : List α) (xs : List Value) : Prop :=
  xs.length = es.length * k ∧ ∀ (i : Nat) (e : α), es[i]? = some e → R w M e ((xs.drop (i * k)).take k)
section
variable {α : Type} {R : World → List Nat → α → List Value → Prop} {k : Nat} {w w' : World} {M K : List Nat} {es : List α} {xs : List Value}
theorem ElsOk.nil : ElsOk R k w M [] [] := ⟨by simp, fun i e h => by cases h⟩
theorem ElsOk.keep (hR : RStable R k) (h : ElsOk R k w M es xs) (hk : ∀ b ∈ M, w'.heap[b]? = w.heap[b]?) : ElsOk R k w' M es xs := ⟨h.1, fun i e he => hR.keep (h.2 i e he) hk⟩
theorem ElsOk.mono (hR : RStable R k) (h : ElsOk R k w M es xs) (hs : ∀ b ∈ M, b ∈ K) : ElsOk R k w K es xs := ⟨h.1, fun i e he => hR.mono (h.2 i e he) hs⟩
theorem ElsOk.app (hR : RStable R k) (h : ElsOk R k w M es xs) {e : α} {cs : List Value} (he : R w M e cs) : ElsOk R k w M (es ++ [e]) (xs ++ cs) := by
  have hc := hR.len he
  refine ⟨by rw [List.length_append, List.length_append, h.1, hc, List.length_singleton, Nat.add_mul, Nat.one_mul], fun i x hx => ?_⟩
  by_cases hi : i < es.length
  · rw [List.getElem?_append_left hi] at hx
    have := h.2 i x hx
    have hm : i * k + k ≤ xs.length := by
      rw [h.1]
      have := Nat.mul_le_mul_right k (show i + 1 ≤ es.length from hi)
      rw [Nat.add_mul, Nat.one_mul] at this
      exact this
    rwa [List.drop_append_of_le_length (by omega), List.take_append_of_le_length (by rw [List.length_drop]; omega)]
  · have hlt := (List.getElem?_eq_some_iff.1 hx).1
    rw [List.length_append, List.length_singleton] at hlt
    obtain rfl : i = es.length := by omega
    rw [List.getElem?_append_right (Nat.le_refl _), Nat.sub_self] at hx
    injection hx with hx; subst hx
    rw [← h.1, List.drop_left, List.take_of_length_le (by omega)]
    exact he
theorem ElsOk.erase (h : ElsOk R k w M es xs) {i : Nat} (hi : i < es.length) : ElsOk R k w M (es.eraseIdx i) (xs.take (i * k) ++ xs.drop ((i + 1) * k)) := by
  have e1 : (i + 1) * k = i * k + k := by rw [Nat.add_mul, Nat.one_mul]
  have e2 : (es.length - 1) * k + k = es.length * k := by
    rw [← Nat.add_one_mul]; congr 1; omega
  have hm : i * k + k ≤ xs.length := by
    rw [h.1]
    have := Nat.mul_le_mul_right k (show i + 1 ≤ es.length from hi)
    omega
  have hxl := h.1
  refine ⟨by rw [List.length_append, List.length_take, List.length_drop, List.length_eraseIdx_of_lt hi]; omega, fun j x hx => ?_⟩
  rw [List.getElem?_eraseIdx] at hx
  split at hx
  · rename_i hj
    have := h.2 j x hx
    have hjk : j * k + k ≤ i * k := by
      have := Nat.mul_le_mul_right k (show j + 1 ≤ i from hj)
      rw [Nat.add_mul, Nat.one_mul] at this; exact this
    rw [List.drop_append_of_le_length (by rw [List.length_take]; omega), List.take_append_of_le_length (by rw [List.length_drop, List.length_take]; omega), List.drop_take, List.take_take]
    rwa [Nat.min_eq_left (by omega)]
  · rename_i hj
    have := h.2 (j + 1) x hx
    have hjk : i * k ≤ j * k := Nat.mul_le_mul_right k (by omega)
    have e3 : (j + 1) * k = j * k + k := by rw [Nat.add_mul, Nat.one_mul]
    have hlt : (xs.take (i * k)).length = i * k := by rw [List.length_take]; omega
    rw [List.drop_append, hlt, List.drop_eq_nil_of_le (by omega), List.nil_append, List.drop_drop]
    rwa [show (i + 1) * k + (j * k - i * k) = (j + 1) * k by omega]
theorem ElsOk.cells (hR : RStable R k) (h : ElsOk R k w M es xs) {te : TypeId} {b0 c : Nat} {a : Option Addr} (hO : Own w b0 te k (.slice a es.length c) es.length xs) {i : Nat} {e : α} (he : es[i]? = some e) :
    ∃ cs, R w M e cs ∧ ∃ b off, a = some ⟨b, off, none⟩ ∧ (b0 ≤ b ∧ b < w.heap.size) ∧ cellsAt w b (off + i * k) cs := by
  have hr := h.2 i e he
  refine ⟨_, hr, ?_⟩
  have hlt := (List.getElem?_eq_some_iff.1 he).1
  rcases hO.2 with ⟨_, h0⟩ | ⟨g, off, cap, cur, hv, hb, hg, _⟩
  · omega
  · injection hv with q1 q2 q3
    subst q1
    refine ⟨g, off, rfl, ⟨hb, heap_lt hg⟩, cellsAt_list fun j v hv => ?_⟩
    rw [List.getElem?_take] at hv
    split at hv
    · rw [List.getElem?_drop] at hv
      rw [Nat.add_assoc]
      exact hO.cells g off c rfl _ v hv
    · cases hv
/-- The object under way: what it owns lies in L, or is new. -/
structure LRaw (R : World → List Nat → α → List Value → Prop) (k : Nat) (te tp : TypeId) (w : World) (L : List Nat) (n0 p : Nat) (f : Value → Array Value) (es : List α) (kv : Value) (xs : List Value) (M : List Nat) : Prop where
  bk : Bk w p (f kv) tp
  own : Own w 0 te k kv es.length xs
  els : ElsOk R k w M es xs
  far : ∀ b ∈ M, (b ∈ L ∨ n0 ≤ b) ∧ b ≠ p ∧ kv.ownBlock ≠ some b
  mine : ∀ b, kv.ownBlock = some b → b ∈ L ∨ n0 ≤ b
  under : Under M w.heap.size
variable {te tp : TypeId} {L : List Nat} {n0 p : Nat} {f : Value → Array Value} {kv : Value}
theorem own_apart {g : Nat} {cs : Array Value} {t e : TypeId} {size n b0 : Nat} {v : Value} {xs : List Value} (h1 : Bk w g cs t) (h2 : Own w b0 e size v n xs) (hne : t ≠ e) : v.ownBlock ≠ some g := by
  intro h
  rcases h2.2 with ⟨rfl, _⟩ | ⟨g', off, cap, cur, rfl, hb, hg, _⟩
  · cases h
  · simp [Value.ownBlock] at h
    subst h
    unfold Bk at h1
    rw [h1] at hg
    injection hg with hg
    injection hg with h3 h4 h5
    exact hne h4
theorem LRaw.keep (hR : RStable R k) (h : LRaw R k te tp w L n0 p f es kv xs M) (hk : ∀ b, (b = p ∨ kv.ownBlock = some b ∨ b ∈ M) → w'.heap[b]? = w.heap[b]?) (hs : w.heap.size ≤ w'.heap.size) : LRaw R k te tp w' L n0 p f es kv xs M :=
  ⟨h.bk.keep (hk p (.inl rfl)), h.own.keep fun b hb => hk b (.inr (.inl hb)), h.els.keep hR fun b hb => hk b (.inr (.inr hb)), h.far, h.mine, h.under.mono hs⟩
theorem LRaw.lt (h : LRaw R k te tp w L n0 p f es kv xs M) {b : Nat} (hb : b = p ∨ kv.ownBlock = some b ∨ b ∈ M) : b < w.heap.size := by
  rcases hb with rfl | hb | hb
  · exact h.bk.lt
  · exact (h.own.lt b hb).2
  · exact h.under b hb
theorem LRaw.below (hR : RStable R k) (h : LRaw R k te tp w L n0 p f es kv xs M) (hb : Below w.heap.size w w') : LRaw R k te tp w' L n0 p f es kv xs M := h.keep hR (fun b hb' => hb.block b (h.lt hb')) hb.size
theorem LRaw.more (hR : RStable R k) (h : LRaw R k te tp w L n0 p f es kv xs M) (B : List Nat) (hB : ∀ b ∈ B, (b ∈ L ∨ n0 ≤ b) ∧ b < w.heap.size ∧ b ≠ p ∧ kv.ownBlock ≠ some b) : LRaw R k te tp w L n0 p f es kv xs (M ++ B) :=
  ⟨h.bk, h.own, h.els.mono hR fun _ hk => List.mem_append_left _ hk, fun b hb => (List.mem_append.1 hb).elim (h.far b) fun hb => ⟨(hB b hb).1, (hB b hb).2.2⟩, h.mine, fun b hb => (List.mem_append.1 hb).elim (h.under b) fun hb => (hB b hb).2.1⟩
theorem LRaw.wider (h : LRaw R k te tp w L n0 p f es kv xs M) (hs : ∀ b ∈ L, b ∈ K) : LRaw R k te tp w K n0 p f es kv xs M :=
  ⟨h.bk, h.own, h.els, fun b hb => ⟨(h.far b hb).1.imp (hs b) id, (h.far b hb).2⟩, fun b hb => (h.mine b hb).imp (hs b) id, h.under⟩
/-- The list has turned, and is stored: appended to, cut, or new. -/
theorem LRaw.turn (hR : RStable R k) (hne : tp ≠ te) (h : LRaw R k te tp w L n0 p f es kv xs M) (hn : n0 ≤ w.heap.size) {es' : List α} {xs' : List Value} (he : ElsOk R k w M es' xs') {v1 : Value} (ho : Own w' 0 te k v1 es'.length xs') (hp : w'.heap[p]? = w.heap[p]?) (hM : ∀ b ∈ M, w'.heap[b]? = w.heap[b]?) (hs : w.heap.size ≤ w'.heap.size)
    (hn1 : v1.ownBlock = kv.ownBlock ∨ ∃ g, v1.ownBlock = some g ∧ w.heap.size ≤ g) {j : Nat} (hj : (f kv).setIfInBounds j v1 = f v1) : LRaw R k te tp (w'.setCell ⟨p, j, none⟩ v1) L n0 p f es' v1 xs' M := by
  have b1 := h.bk.keep hp
  have hk1 : ∀ b, b ≠ p → (w'.setCell ⟨p, j, none⟩ v1).heap[b]? = w'.heap[b]? := fun b hb => Below.heap_setCell _ _ _ _ hb
  have hfar : ∀ b ∈ M, v1.ownBlock ≠ some b := fun b hb e => by
    rcases hn1 with h1 | ⟨g, h1, hg1⟩
    · exact (h.far b hb).2.2 (h1 ▸ e)
    · rw [h1] at e; injection e with e; have := h.under b hb; omega
  refine ⟨hj ▸ b1.setCell j v1, ho.keep fun b hb => hk1 b fun e2 => own_apart b1 ho hne (e2 ▸ hb), (he.keep hR hM).keep hR fun b hb => hk1 b (h.far b hb).2.1, fun b hb => ⟨(h.far b hb).1, (h.far b hb).2.1, hfar b hb⟩, fun b hb => ?_, (h.under.mono hs).mono (by simp)⟩
  rcases hn1 with h1 | ⟨g, h1, hg1⟩
  · exact h.mine b (h1 ▸ hb)
  · rw [h1] at hb; injection hb with hb; exact .inr (by omega)
/-- Another cell of the object is stored. -/
theorem LRaw.cell (hR : RStable R k) (hne : tp ≠ te) (h : LRaw R k te tp w L n0 p f es kv xs M) {j : Nat} {v : Value} {f' : Value → Array Value} (hj : (f kv).setIfInBounds j v = f' kv) : LRaw R k te tp (w.setCell ⟨p, j, none⟩ v) L n0 p f' es kv xs M := by
  have hk1 : ∀ b, b ≠ p → (w.setCell ⟨p, j, none⟩ v).heap[b]? = w.heap[b]? := fun b hb => Below.heap_setCell _ _ _ _ hb
  exact ⟨hj ▸ h.bk.setCell j v, h.own.keep fun b hb => hk1 b fun e2 => own_apart h.bk h.own hne (e2 ▸ hb), h.els.keep hR fun b hb => hk1 b (h.far b hb).2.1, h.far, h.mine, h.under.mono (by simp)⟩
/-- The object, with all that it owns. -/
structure LAt (R : World → List Nat → α → List Value → Prop) (k : Nat) (te tp : TypeId) (w : World) (L : List Nat) (p : Nat) (f : Value → Array Value) (es : List α) : Prop where
  ex : ∃ kv xs M, Bk w p (f kv) tp ∧ Own w 0 te k kv es.length xs ∧ ElsOk R k w M es xs ∧ (∀ b ∈ M, b ∈ L ∧ b ≠ p ∧ kv.ownBlock ≠ some b) ∧ ∀ b, kv.ownBlock = some b → b ∈ L
  mem : p ∈ L
  under : Under L w.heap.size
theorem LAt.raw (h : LAt R k te tp w L p f es) (n0 : Nat) : ∃ kv xs M, LRaw R k te tp w L n0 p f es kv xs M := by
  obtain ⟨⟨kv, xs, M, h1, h2, h3, h4, h5⟩, hm, hu⟩ := h
  exact ⟨kv, xs, M, h1, h2, h3, fun b hb => ⟨.inl (h4 b hb).1, (h4 b hb).2⟩, fun b hb => .inl (h5 b hb), fun b hb => hu b (h4 b hb).1⟩
theorem LRaw.at (h : LRaw R k te tp w L n0 p f es kv xs M) (hp : p ∈ L) : ∃ L', LAt R k te tp w L' p f es ∧ Gr L L' n0 := by
  refine ⟨p :: (kv.ownBlock.toList ++ M), ⟨⟨kv, xs, M, h.bk, h.own, h.els, fun b hb => ⟨by simp [hb], (h.far b hb).2⟩, fun b hb => by simp [hb]⟩, by simp, fun b hb => ?_⟩, fun b hb => ?_⟩
  · rcases List.mem_cons.1 hb with rfl | hb
    · exact h.bk.lt
    · rcases List.mem_append.1 hb with hb | hb
      · exact (h.own.lt b (by simpa using hb)).2
      · exact h.under b hb
  · rcases List.mem_cons.1 hb with rfl | hb
    · exact .inl hp
    · rcases List.mem_append.1 hb with hb | hb
      · exact h.mine b (by simpa using hb)
      · exact (h.far b hb).1
theorem LAt.keep (hR : RStable R k) (h : LAt R k te tp w L p f es) (hk : ∀ b ∈ L, w'.heap[b]? = w.heap[b]?) (hs : w.heap.size ≤ w'.heap.size) : LAt R k te tp w' L p f es := by
  obtain ⟨⟨kv, xs, M, h1, h2, h3, h4, h5⟩, hm, hu⟩ := h
  exact ⟨⟨kv, xs, M, h1.keep (hk p hm), h2.keep (fun b e => hk b (h5 b e)), h3.keep hR (fun b e => hk b (h4 b e).1), h4, h5⟩, hm, hu.mono hs⟩
theorem LAt.fr (hR : RStable R k) (h : LAt R k te tp w L p f es) (hf : Fr K w w') (ha : Apart L K) : LAt R k te tp w' L p f es := h.keep hR (hf.keep ha h.under) hf.size
theorem LAt.below (hR : RStable R k) (h : LAt R k te tp w L p f es) (hb : Below w.heap.size w w') : LAt R k te tp w' L p f es := h.keep hR (fun b hk => hb.block b (h.under b hk)) hb.size
end
end Go.Proofs.Ytecmpjccdhmeeaa
end
section
/- One element less: what 'slices.Delete' does to a list that is owned. No program in sight. -/
namespace Go.Proofs.Ytecmpjccdhmeeaa
open Go.RowKit
variable {P : Program} {w : World} {b : Nat} {e : TypeId} {k : Nat} {xs : List Value}
theorem Own.pre {a : Option Addr} {n c i : Nat} (h : Own w b e k (.slice a n c) n xs) (hi : i ≤ n) : Own w b e k (.slice a i c) i (xs.take (i * k)) := by
  obtain ⟨hl, h⟩ := h
  have hm : i * k ≤ n * k := Nat.mul_le_mul_right k hi
  refine ⟨by rw [List.length_take]; omega, ?_⟩
  rcases h with ⟨h0, h1⟩ | ⟨g, off, cap, cur, hv, hb, hg, hn, hm2, hs, ht⟩
  · injection h0 with q1 q2 q3
    subst q1; subst q3
    obtain rfl : i = 0 := by omega
    exact .inl ⟨rfl, rfl⟩
  · injection hv with q1 q2 q3
    subst q1; subst q3
    refine .inr ⟨g, off, c, cur, rfl, hb, hg, by omega, hm2, hs, ?_⟩
    rw [← ht, List.take_take, Nat.min_eq_left hm]
theorem own_somewhere {a : Option Addr} {n c : Nat} (h : Own w b e k (.slice a n c) n xs) (hn : 0 < n) : ∃ g off, a = some ⟨g, off, none⟩ ∧ n ≤ c := by
  rcases h.2 with ⟨_, h0⟩ | ⟨g, off, cap, cur, hv, _, _, hc, _⟩
  · omega
  · injection hv with q1 q2 q3
    subst q1; subst q3
    exact ⟨g, off, rfl, hc⟩
theorem Own.tail {a : Option Addr} {n c i : Nat} (h : Own w b e k (.slice a n c) n xs) (hi : i < n) {tx e' : TypeId} (hk : P.underlying tx = some (.slice e')) (h1 : ∀ v ∈ xs, v.oneCell' = true) :
    Src P k tx (.slice (sliceBase a c (i + 1) k) (n - (i + 1)) (c - (i + 1))) (n - (i + 1)) (xs.drop ((i + 1) * k)) w := by
  obtain ⟨g, off, rfl, hc⟩ := own_somewhere h (by omega)
  have hx := h.1
  have e1 : (n - (i + 1)) * k + (i + 1) * k = n * k := by rw [← Nat.add_mul]; congr 1; omega
  have hl : (xs.drop ((i + 1) * k)).length = (n - (i + 1)) * k := by rw [List.length_drop]; omega
  have h1' : ∀ v ∈ xs.drop ((i + 1) * k), v.oneCell' = true := fun v hv => h1 v (List.mem_of_mem_drop hv)
  unfold sliceBase
  split
  · rename_i hce
    have h0 : n - (i + 1) = 0 := by omega
    have hd : xs.drop ((i + 1) * k) = [] := List.eq_nil_of_length_eq_zero (by rw [hl, h0, Nat.zero_mul])
    rw [hd] at hl h1' ⊢
    exact Src.ofSlice w hk _ _ _ _ hl (fun j u hu => by cases hu) h1'
  · refine Src.ofSlice w hk _ _ _ _ hl (fun j u hu => ?_) h1'
    rw [List.getElem?_drop] at hu
    have := h.cells g off c rfl _ u hu
    show w.cell? (((⟨g, off, none⟩ : Addr).add ((i + 1) * k)).add j) = some u
    rw [Addr.add_lit, Addr.add_lit, Nat.add_assoc]
    exact this
theorem own_beyond1 {g off n c j : Nat} (h : Own w b e k (.slice (some ⟨g, off, none⟩) n c) n xs) (hj : n * k ≤ j) (hc : j < c * k) (v : Value) :
    (w.cell? ⟨g, off + j, none⟩).isSome = true ∧ w.frozen? ⟨g, off + j, none⟩ = false ∧ Own (w.setCell ⟨g, off + j, none⟩ v) b e k (.slice (some ⟨g, off, none⟩) n c) n xs := by
  obtain ⟨hl, h⟩ := h
  rcases h with ⟨h0, h1⟩ | ⟨g', off', cap, cur, hv, hb, hg, hn, hm2, hs, ht⟩
  · cases h0
  · injection hv with q1 q2 q3
    injection q1 with q1
    injection q1 with q1 q4
    subst q1; subst q3; subst q4
    have hB : Bk w g cur e := hg
    refine ⟨?_, hB.frozen _, hl, .inr ⟨g, off, c, _, rfl, hb, hB.setCell (off + j) v, hn, hm2, by simpa using hs, ?_⟩⟩
    · rw [hB.cell, Array.getElem?_eq_getElem (by omega)]; rfl
    · rw [← ht, Array.toList_setIfInBounds, List.drop_set]
      rw [if_neg (by omega), show off + j - off = j by omega, List.take_set, List.set_eq_of_length_le (by rw [List.length_take]; omega)]
theorem own_beyond {g off n c : Nat} : ∀ (vs : List Value) (j : Nat) (w : World), Own w b e k (.slice (some ⟨g, off, none⟩) n c) n xs → n * k ≤ j → j + vs.length ≤ c * k →
    w.there g (off + j) vs.length ∧ Own (w.setCells g (off + j) vs) b e k (.slice (some ⟨g, off, none⟩) n c) n xs ∧ Fr [g] w (w.setCells g (off + j) vs) ∧ (w.setCells g (off + j) vs).heap.size = w.heap.size
  | [], j, w, h, _, _ => ⟨fun i hi => by simp at hi, h, Fr.refl _ _, rfl⟩
  | v :: r, j, w, h, hj, hc => by
    rw [List.length_cons] at hc
    obtain ⟨h1, h2, h3⟩ := own_beyond1 h hj (by omega) v
    obtain ⟨k1, k2, k3, k4⟩ := own_beyond r (j + 1) _ h3 (by omega) (by omega)
    rw [← Nat.add_assoc] at k1 k2 k3 k4
    refine ⟨fun i hi => ?_, k2, ((Fr.refl [g] w).setCell (p := ⟨g, off + j, none⟩) (.inl (by simp)) v).trans k3 (Gr.refl _ _), k4.trans (by simp)⟩
    rw [List.length_cons] at hi
    refine ⟨?_, ?_⟩
    · obtain ⟨a1, a2, _⟩ := own_beyond1 h (j := j + i) (by omega) (by omega) v
      rw [Nat.add_assoc]; exact a1
    · obtain ⟨a1, a2, _⟩ := own_beyond1 h (j := j + i) (by omega) (by omega) v
      rw [Nat.add_assoc]; exact a2
theorem els_one {α : Type} {R : World → List Nat → α → List Value → Prop} {M : List Nat} {es : List α} (h : ElsOk R k w M es xs) (hR : ∀ w M e cs, R w M e cs → ∀ v ∈ cs, v.oneCell' = true) : ∀ v ∈ xs, v.oneCell' = true := by
  intro v hv
  obtain ⟨j, hj⟩ := List.getElem?_of_mem hv
  have hlt := (List.getElem?_eq_some_iff.1 hj).1
  have hl := h.1
  have hk : 0 < k := by
    rcases Nat.eq_zero_or_pos k with h0 | h0
    · subst h0; omega
    · exact h0
  have hi : j / k < es.length := Nat.div_lt_of_lt_mul (by rw [Nat.mul_comm]; omega)
  have := h.2 _ _ (List.getElem?_eq_getElem hi)
  refine hR _ _ _ _ this v ?_
  have hm : j = j / k * k + j % k := by rw [Nat.mul_comm]; exact (Nat.div_add_mod j k).symm
  have hmod := Nat.mod_lt j hk
  refine List.mem_iff_getElem?.2 ⟨j % k, ?_⟩
  rw [List.getElem?_take, if_pos hmod, List.getElem?_drop, ← hm]
  exact hj
end Go.Proofs.Ytecmpjccdhmeeaa
end
section
/- One element of an owned list is written over. No program in sight. -/
namespace Go.Proofs.Ytecmpjccdhmeeaa
open Go.RowKit
variable {w : World} {b : Nat} {e : TypeId} {k : Nat} {xs : List Value}
def setL : List Value → Nat → List Value → List Value
  | xs, _, [] => xs
  | xs, j, v :: r => setL (xs.set j v) (j + 1) r
theorem setL_len : ∀ (vs : List Value) (xs : List Value) (j : Nat), (setL xs j vs).length = xs.length
  | [], _, _ => rfl
  | v :: r, xs, j => by rw [setL, setL_len r, List.length_set]
theorem setL_get : ∀ (vs : List Value) (xs : List Value) (j i : Nat), j + vs.length ≤ xs.length → (setL xs j vs)[i]? = if j ≤ i ∧ i < j + vs.length then vs[i - j]? else xs[i]?
  | [], xs, j, i, _ => by rw [setL, if_neg (by simp only [List.length_nil]; omega)]
  | v :: r, xs, j, i, h => by
    rw [List.length_cons] at h
    rw [setL, setL_get r (xs.set j v) (j + 1) i (by rw [List.length_set]; omega), List.length_cons]
    by_cases h1 : i = j
    · subst h1
      rw [if_neg (by omega), if_pos (by omega), Nat.sub_self, List.getElem?_set_self (by omega)]
      rfl
    · by_cases h2 : j + 1 ≤ i ∧ i < j + 1 + r.length
      · rw [if_pos h2, if_pos (by omega), show i - j = (i - (j + 1)) + 1 by omega, List.getElem?_cons_succ]
      · rw [if_neg h2, if_neg (by omega), List.getElem?_set_ne (by omega)]
theorem own_in1 {g off n c j : Nat} (h : Own w b e k (.slice (some ⟨g, off, none⟩) n c) n xs) (hj : j < n * k) (v : Value) :
    (w.cell? ⟨g, off + j, none⟩).isSome = true ∧ w.frozen? ⟨g, off + j, none⟩ = false ∧ Own (w.setCell ⟨g, off + j, none⟩ v) b e k (.slice (some ⟨g, off, none⟩) n c) n (xs.set j v) := by
  obtain ⟨hl, h⟩ := h
  rcases h with ⟨h0, h1⟩ | ⟨g', off', cap, cur, hv, hb, hg, hn, hm2, hs, ht⟩
  · cases h0
  · injection hv with q1 q2 q3
    injection q1 with q1
    injection q1 with q1 q4
    subst q1; subst q3; subst q4
    have hB : Bk w g cur e := hg
    have hm : n * k ≤ c * k := Nat.mul_le_mul_right k hn
    refine ⟨?_, hB.frozen _, by rw [List.length_set]; exact hl, .inr ⟨g, off, c, _, rfl, hb, hB.setCell (off + j) v, hn, hm2, by simpa using hs, ?_⟩⟩
    · rw [hB.cell, Array.getElem?_eq_getElem (by omega)]; rfl
    · rw [← ht, Array.toList_setIfInBounds, List.drop_set]
      rw [if_neg (by omega), show off + j - off = j by omega, List.take_set]
theorem own_setL {g off n c : Nat} : ∀ (vs : List Value) (j : Nat) (w : World) (xs : List Value), Own w b e k (.slice (some ⟨g, off, none⟩) n c) n xs → j + vs.length ≤ n * k →
    w.there g (off + j) vs.length ∧ Own (w.setCells g (off + j) vs) b e k (.slice (some ⟨g, off, none⟩) n c) n (setL xs j vs) ∧ Fr [g] w (w.setCells g (off + j) vs) ∧ (w.setCells g (off + j) vs).heap.size = w.heap.size
  | [], j, w, xs, h, _ => ⟨fun i hi => by simp at hi, h, Fr.refl _ _, rfl⟩
  | v :: r, j, w, xs, h, hc => by
    rw [List.length_cons] at hc
    obtain ⟨h1, h2, h3⟩ := own_in1 h (j := j) (by omega) v
    obtain ⟨k1, k2, k3, k4⟩ := own_setL r (j + 1) _ _ h3 (by omega)
    rw [← Nat.add_assoc] at k1 k2 k3 k4
    refine ⟨fun i hi => ?_, k2, ((Fr.refl [g] w).setCell (p := ⟨g, off + j, none⟩) (.inl (by simp)) v).trans k3 (Gr.refl _ _), k4.trans (by simp)⟩
    rw [List.length_cons] at hi
    obtain ⟨a1, a2, _⟩ := own_in1 h (j := j + i) (by omega) v
    rw [Nat.add_assoc]
    exact ⟨a1, a2⟩
/-- An element of so many cells is stored. -/
theorem Own.storeK {g off n c i : Nat} (h : Own w b e k (.slice (some ⟨g, off, none⟩) n c) n xs) (hi : i < n) {vs : List Value} (hv : vs.length = k) {gs : List Nat} (hgs : ∀ x ∈ gs, x ≠ g) {K : World → Prop}
    (hk : ∀ w1, Own w1 b e k (.slice (some ⟨g, off, none⟩) n c) n (setL xs (i * k) vs) → Fr [g] w w1 → w1.heap.size = w.heap.size → K w1) : stO gs w g (off + i * k) vs K := by
  have hm : i * k + k ≤ n * k := by
    have := Nat.mul_le_mul_right k (show i + 1 ≤ n from hi)
    rw [Nat.add_mul, Nat.one_mul] at this; exact this
  obtain ⟨k1, k2, k3, k4⟩ := own_setL vs (i * k) w xs h (by omega)
  exact ⟨hgs, k1, fun w1 e1 => by subst e1; exact hk _ k2 k3 k4⟩
theorem ElsOk.set {α : Type} {R : World → List Nat → α → List Value → Prop} {M : List Nat} {es : List α} (hR : RStable R k) (h : ElsOk R k w M es xs) {i : Nat} (hi : i < es.length) {x : α} {cs : List Value} (hx : R w M x cs) : ElsOk R k w M (es.set i x) (setL xs (i * k) cs) := by
  have hl := h.1
  have hc := hR.len hx
  have hm : ∀ j, j < es.length → j * k + k ≤ xs.length := fun j hj => by
    rw [hl]
    have := Nat.mul_le_mul_right k (show j + 1 ≤ es.length from hj)
    rw [Nat.add_mul, Nat.one_mul] at this; exact this
  refine ⟨by rw [setL_len, List.length_set, hl], fun j y hy => ?_⟩
  have hj : j < es.length := by have := (List.getElem?_eq_some_iff.1 hy).1; rwa [List.length_set] at this
  have key : ((setL xs (i * k) cs).drop (j * k)).take k = if i = j then cs else (xs.drop (j * k)).take k := by
    apply List.ext_getElem?
    intro q
    rw [List.getElem?_take]
    by_cases hq : q < k
    · rw [if_pos hq, List.getElem?_drop, setL_get _ _ _ _ (by have := hm i hi; omega)]
      by_cases hij : i = j
      · subst hij
        rw [if_pos rfl, if_pos (by omega)]
        congr 1; omega
      · rw [if_neg hij]
        have hne : ¬ (i * k ≤ j * k + q ∧ j * k + q < i * k + cs.length) := by
          rintro ⟨h1, h2⟩
          rcases Nat.lt_or_gt_of_ne hij with h3 | h3
          · have := Nat.mul_le_mul_right k (show i + 1 ≤ j from h3)
            rw [Nat.add_mul, Nat.one_mul] at this; omega
          · have := Nat.mul_le_mul_right k (show j + 1 ≤ i from h3)
            rw [Nat.add_mul, Nat.one_mul] at this; omega
        rw [if_neg hne, List.getElem?_take, if_pos hq, List.getElem?_drop]
    · rw [if_neg hq]
      symm
      split
      · rw [List.getElem?_eq_none (by omega)]
      · rw [List.getElem?_take, if_neg hq]
  rw [key]
  by_cases hij : i = j
  · subst hij
    rw [List.getElem?_set_self hi] at hy
    injection hy with hy; subst hy
    rw [if_pos rfl]; exact hx
  · rw [List.getElem?_set_ne hij] at hy
    rw [if_neg hij]
    exact h.2 j y hy
end Go.Proofs.Ytecmpjccdhmeeaa
end
section
/- Functions that write nothing but blocks of their own: their steps, seen from the world that they began in. No program in sight. -/
namespace Go.Proofs.Ytecmpjccdhmeeaa
open Go.RowKit
theorem box_below {w w1 w2 : World} {g : Nat} (h : Below w.heap.size w w1) (hg : w.heap.size ≤ g) (hb : BoxSt g w1 w2) : Below w.heap.size w w2 := h.trans (hb.1.below (fun k hk => by rw [List.mem_singleton] at hk; omega) h.size)
/-- One value comes back, and what was there is as it was. -/
def Ret (v : Value) (w : World) : Ending → World → Prop := fun e w' => e = .returned v ∧ Below w.heap.size w w'
theorem ret_in {P : Program} {f : FuncId} {av : Array Value} {w : World} {v : Value} (h : Calls P f av w fun e w' => ∃ u, e = .returned u ∧ (u = v ∧ Below w.heap.size w w')) : Calls P f av w (Ret v w) :=
  h.mono (by rintro e w' ⟨u, rfl, rfl, b⟩; exact ⟨rfl, b⟩)
theorem ret_same {P : Program} {f : FuncId} {av : Array Value} {w : World} {v : Value} (h : Calls P f av w fun e w' => e = .returned v ∧ w' = w) : Calls P f av w (Ret v w) :=
  h.mono (by rintro e w' ⟨rfl, rfl⟩; exact ⟨rfl, Below.refl _ _⟩)
section
variable {w0 w : World}
abbrev Bs (w0 w : World) : Prop := Below w0.heap.size w0 w
theorem Bs.refl (w : World) : Bs w w := Below.refl _ _
theorem Bs.to {w1 : World} (B : Bs w0 w) (b : Below w.heap.size w w1) : Bs w0 w1 := Below.trans B (b.mono B.size)
theorem Bs.box {g : Nat} {w1 : World} (B : Bs w0 w) (hg : w0.heap.size ≤ g) (h : BoxSt g w w1) : Bs w0 w1 := box_below B hg h
theorem newB (B : Bs w0 w) {o : Obj} {K : Nat → World → Prop} (h : ∀ g w1, w0.heap.size ≤ g → w.heap.size = g → w1.heap[g]? = some o → w1.heap.size = g + 1 → Below w.heap.size w w1 → Bs w0 w1 → K g w1) : newO w o K := by
  rintro g w1 rfl rfl
  exact h _ _ B.size rfl (al_new rfl) (by simp) (Below_one o) (B.to (Below_one o))
theorem drewB (B : Bs w0 w) {K : World → Prop} (h : ∀ w1, Below w.heap.size w w1 → Bs w0 w1 → w1.heap = w.heap → K w1) : drewO w K := fun w1 h1 h2 => h w1 h2 (B.to h2) h1
theorem boxB {g : Nat} (B : Bs w0 w) (hg : w0.heap.size ≤ g) {K : World → Prop} (h : ∀ w1, BoxSt g w w1 → Bs w0 w1 → w1.heap.size = w.heap.size → K w1) : ∀ w1, BoxSt g w w1 → K w1 := fun w1 h1 => h w1 h1 (B.box hg h1) h1.2
theorem callB {P : Program} {f : FuncId} {av : Array Value} {v : Value} {gs : List Nat} {R : Ending → World → Prop} (B : Bs w0 w) (h : Calls P f av w (Ret v w)) (k : ∀ w1, Below w.heap.size w w1 → Bs w0 w1 → R (.returned v) w1) :
    Calls P f av w (fun e w1 => KeepG gs w w1 ∧ R e w1) := h.mono (by rintro e w1 ⟨rfl, b⟩; exact ⟨keepG_below b, k w1 b (B.to b)⟩)
theorem callQ {P : Program} {f : FuncId} {av : Array Value} {gs : List Nat} {Q R : Ending → World → Prop} (B : Bs w0 w) (h : Calls P f av w (fun e w1 => Q e w1 ∧ Below w.heap.size w w1)) (k : ∀ e w1, Q e w1 → Below w.heap.size w w1 → Bs w0 w1 → R e w1) :
    Calls P f av w (fun e w1 => KeepG gs w w1 ∧ R e w1) := h.mono (by rintro e w1 ⟨q, b⟩; exact ⟨keepG_below b, k e w1 q b (B.to b)⟩)
end
/-- Elements of k cells each, one behind the other, in a block from n0 on. -/
def Rws {α : Type} (enc : α → List Value) (k n0 : Nat) (w : World) (a : Option Addr) (xs : List α) : Prop := xs = [] ∨ ∃ b off, a = some ⟨b, off, none⟩ ∧ n0 ≤ b ∧ ∀ i x, xs[i]? = some x → cellsAt w b (off + i * k) (enc x)
section
variable {α : Type} {enc : α → List Value} {k n0 : Nat} {w w' : World} {a : Option Addr} {xs : List α}
theorem Rws.nil : Rws enc k n0 w a [] := .inl rfl
theorem Rws.ofRows (h : RowsAt (fun w b off x => cellsAt w b off (enc x)) k w a xs) : Rws enc k 0 w a xs := h.elim .inl fun ⟨b, off, h1, h2⟩ => .inr ⟨b, off, h1, Nat.zero_le _, h2⟩
theorem Rws.low {n1 : Nat} (h : Rws enc k n0 w a xs) (hn : n1 ≤ n0) : Rws enc k n1 w a xs := h.elim .inl fun ⟨b, off, h1, h2, h3⟩ => .inr ⟨b, off, h1, Nat.le_trans hn h2, h3⟩
theorem Rws.keep (h : Rws enc k n0 w a xs) (hk : ∀ b, n0 ≤ b → b < w.heap.size → w'.heap[b]? = w.heap[b]?) : Rws enc k n0 w' a xs := by
  rcases h with h | ⟨b, off, ha, hb, h⟩
  · exact .inl h
  · refine .inr ⟨b, off, ha, hb, fun i x hx => cellsAt_of fun j v hj => ?_⟩
    have h1 := cellsAt_get (h i x hx) j v hj
    have h2 := block_lt_of_cell h1
    rw [cell_keep (hk b hb h2)]
    exact h1
theorem Rws.below (h : Rws enc k n0 w a xs) (hb : Below w.heap.size w w') : Rws enc k n0 w' a xs := h.keep fun b _ h2 => hb.block b h2
theorem Rws.box {g : Nat} (h : Rws enc k n0 w a xs) (hb : BoxSt g w w') (hg : g < n0) : Rws enc k n0 w' a xs := h.keep fun b h1 h2 => hb.1.block b h2 (by rw [List.mem_singleton]; omega)
theorem Rws.newbox {g : Nat} {w1 w2 : World} (h : Rws enc k n0 w a xs) (hb : Below w.heap.size w w1) (sg : w.heap.size = g) (hx : BoxSt g w1 w2) : Rws enc k n0 w2 a xs := h.keep fun b _ h2 => (hx.1.block b (by have := hb.size; omega) (by rw [List.mem_singleton]; omega)).trans (hb.block b h2)
theorem Rws.grown {r : Option Nat} (h : Rws enc k n0 w a xs) (hg : w.grownBy w' r) (hr : ∀ b, r = some b → b < n0) : Rws enc k n0 w' a xs := h.keep fun b h1 h2 => hg.block b h2 fun e => by have := hr b e.symm; omega
theorem Rws.get (h : Rws enc k n0 w a xs) {i : Nat} (hi : i < xs.length) : ∃ b off, a = some ⟨b, off, none⟩ ∧ cellsAt w b (off + i * k) (enc xs[i]) := by
  rcases h with rfl | ⟨b, off, ha, _, h⟩
  · simp at hi
  · exact ⟨b, off, ha, h i _ (List.getElem?_eq_getElem hi)⟩
theorem Rws.take (h : Rws enc k n0 w a xs) (n : Nat) : Rws enc k n0 w a (xs.take n) := by
  rcases h with rfl | ⟨b, off, ha, h0, h⟩
  · exact .inl (by simp)
  · refine .inr ⟨b, off, ha, h0, fun i x hx => h i x ?_⟩
    rw [List.getElem?_take] at hx
    split at hx
    · exact hx
    · cases hx
theorem flatK_len (hk : ∀ x, (enc x).length = k) : ∀ es : List α, (es.flatMap enc).length = es.length * k
  | [] => by simp
  | e :: r => by rw [List.flatMap_cons, List.length_append, flatK_len hk r, hk, List.length_cons, Nat.add_mul]; omega
theorem flatK_get (hk : ∀ x, (enc x).length = k) : ∀ (es : List α) (i : Nat) (e : α) (j : Nat), es[i]? = some e → j < k → (es.flatMap enc)[i * k + j]? = (enc e)[j]?
  | x :: r, 0, e, j, h, hj => by
    cases h
    rw [List.flatMap_cons, List.getElem?_append_left (by rw [hk]; omega)]
    congr 1; omega
  | x :: r, i + 1, e, j, h, hj => by
    have e1 : (i + 1) * k = i * k + k := by rw [Nat.add_mul, Nat.one_mul]
    rw [List.flatMap_cons, List.getElem?_append_right (by rw [hk]; omega), hk, show (i + 1) * k + j - k = i * k + j by omega]
    exact flatK_get hk r i e j (by simpa using h) hj
theorem Rws.ofOwn {t : TypeId} {n c : Nat} (hkp : 0 < k) (hk : ∀ x, (enc x).length = k) (h : Own w n0 t k (.slice a n c) n (xs.flatMap enc)) : Rws enc k n0 w a xs := by
  by_cases h0 : xs = []
  · exact .inl h0
  rcases h.2 with ⟨h1, h2⟩ | ⟨g, off, cap, cur, hv, hb, hg, hn, hm, hs, ht⟩
  · have h3 := h.1
    rw [flatK_len hk, h2, Nat.zero_mul] at h3
    exact absurd (List.length_eq_zero_iff.1 ((Nat.mul_eq_zero.1 h3).resolve_right (by omega))) h0
  · injection hv with h1 h2 h3
    subst h1; subst h3
    refine .inr ⟨g, off, rfl, hb, fun i x hx => cellsAt_list fun j v hv => ?_⟩
    have hj : j < k := by have := (List.getElem?_eq_some_iff.1 hv).1; rw [hk] at this; exact this
    have := flatK_get hk xs i x j hx hj
    rw [Nat.add_assoc]
    exact h.cells g off c rfl _ v (by rw [this]; exact hv)
theorem Rws.src {P : Program} {tx e' : TypeId} {c : Nat} (hT : P.underlying tx = some (.slice e')) (hkp : 0 < k) (hk : ∀ x, (enc x).length = k) (h1 : ∀ x, ∀ v ∈ enc x, v.oneCell' = true) (h : Rws enc k n0 w a xs) : Src P k tx (.slice a xs.length c) xs.length (xs.flatMap enc) w := by
  have hone : ∀ v ∈ xs.flatMap enc, v.oneCell' = true := fun v hv => by
    obtain ⟨x, _, hx⟩ := List.mem_flatMap.1 hv
    exact h1 x v hx
  cases a with
  | none =>
    rcases h with rfl | ⟨b, off, ha, _⟩
    · exact Src.ofNil w hT c
    · cases ha
  | some ad =>
    refine Src.ofSlice w hT ad _ _ _ (flatK_len hk xs) (fun j u hu => ?_) hone
    rcases h with rfl | ⟨b, off, ha, _, h⟩
    · cases hu
    · injection ha with ha; subst ha
      have hlt := (List.getElem?_eq_some_iff.1 hu).1
      rw [flatK_len hk] at hlt
      have hi : j / k < xs.length := (Nat.div_lt_iff_lt_mul hkp).2 hlt
      have hm : j % k < k := Nat.mod_lt _ hkp
      have hx := List.getElem?_eq_getElem hi
      have h1 := flatK_get hk xs (j / k) _ (j % k) hx hm
      have hd : j / k * k + j % k = j := by rw [Nat.mul_comm]; exact Nat.div_add_mod j k
      rw [hd, hu] at h1
      have := cellsAt_get (h _ _ hx) (j % k) u h1.symm
      rw [Addr.add_lit]
      rwa [Nat.add_assoc, hd] at this
end
theorem Rws.one {α : Type} {enc : α → List Value} {k n0 g : Nat} {w : World} {x : α} {t : TypeId} {fr : Nat × Nat} (h : w.heap[g]? = some (.cells (enc x).toArray t fr)) (hg : n0 ≤ g) : Rws enc k n0 w (some ⟨g, 0, none⟩) [x] := by
  refine .inr ⟨g, 0, rfl, hg, fun i y hy => ?_⟩
  have hi : i = 0 := by have := (List.getElem?_eq_some_iff.1 hy).1; simp at this; omega
  subst hi
  simp at hy
  subst hy
  rw [Nat.zero_mul]
  exact cellsAt_row h (by simp)
theorem Own.box {w w1 : World} {n1 size n g : Nat} {e : TypeId} {v : Value} {xs : List Value} (h : Own w n1 e size v n xs) (hb : BoxSt g w w1) (hg : ∀ k, v.ownBlock = some k → k ≠ g) : Own w1 n1 e size v n xs := h.keep fun k hk => hb.1.block k (h.lt k hk).2 (by rw [List.mem_singleton]; exact hg k hk)
/-- A new box was made and filled. -/
theorem Own.newbox {w w1 w2 : World} {n1 size n g : Nat} {e : TypeId} {v : Value} {xs : List Value} (h : Own w n1 e size v n xs) (hb : Below w.heap.size w w1) (sg : w.heap.size = g) (hx : BoxSt g w1 w2) : Own w2 n1 e size v n xs := (h.below hb (Nat.le_refl _)).box hx fun k hk => by have := (h.lt k hk).2; omega
/-- What is appended to, is one's own. -/
theorem appB {P : Program} {gs : List Nat} {w0 w : World} {e : TypeId} {size bytes n1 n c m : Nat} {tx : TypeId} {a : Option Addr} {x : Value} {xs news : List Value} {K : Nat → Option Addr → Nat → World → Prop}
    (B : Bs w0 w) (o : Own w n1 e size (.slice a n c) n xs) (hn1 : w0.heap.size ≤ n1) (hn2 : n1 ≤ w.heap.size) (s : Src P size tx x m news w) (h1 : n + m ≤ maxLen) (h2 : (n + m) * bytes ≤ 140737488355328)
    (hg : ∀ g ∈ gs, (Value.slice a n c).ownBlock ≠ some g)
    (k : ∀ a' c' w1, Own w1 n1 e size (.slice a' (n + m) c') (n + m) (xs ++ news) → w.grownBy w1 (Value.slice a n c).ownBlock → Bs w0 w1 → w.heap.size ≤ w1.heap.size → K m a' c' w1) :
    appO P gs w e size bytes tx a n c x K := by
  refine ⟨m, xs, news, o.base_le fun _ _ => Nat.zero_le _, s, h1, h2, hg, fun a' c' w1 o1 g1 or1 _ => k a' c' w1 (o1.base_le fun q hq => ?_) g1 ?_ g1.size⟩
  · rcases or1 with h | ⟨g, h, h3⟩
    · exact (o.lt q (h ▸ hq)).1
    · rw [h] at hq; injection hq with hq; omega
  · exact ⟨g1.os.trans B.os, g1.tape.trans B.tape, g1.output.trans B.output, Nat.le_trans B.size g1.size, fun q hq => (g1.block q (by have := B.size; omega) fun e => by have := (o.lt q e.symm).1; omega).trans (B.block q hq)⟩
end Go.Proofs.Ytecmpjccdhmeeaa
end
section
/- Rows of ints. No program in sight. -/
namespace Go.Proofs.Ytecmpjccdhmeeaa
open Go.RowKit Go.ChangeShapes
def iV (z : Int) : Value := .int .i64 z
def ints (zs : List Int) : Prop := ∀ z ∈ zs, -9223372036854775808 ≤ z ∧ z ≤ 9223372036854775807
theorem RowAt.int {w : World} {a : Option Addr} {zs : List Int} (h : RowAt w a (zs.map iV)) {k : Nat} (hk : k < zs.length) : ∃ b off, a = some ⟨b, off, none⟩ ∧ w.cell? ⟨b, off + k, none⟩ = some (.int .i64 zs[k]) := by
  rcases h with h | ⟨b, off, ha, h⟩
  · rw [List.map_eq_nil_iff] at h; subst h; simp at hk
  · exact ⟨b, off, ha, h k _ (by rw [List.getElem?_map, List.getElem?_eq_getElem hk]; rfl)⟩
theorem one_iV {zs : List Int} : ∀ u ∈ zs.map iV, u.oneCell' = true := by
  intro u hu
  obtain ⟨x, _, rfl⟩ := List.mem_map.1 hu
  rfl
theorem min_takeI (zs : List Int) (n : Nat) : min (zs.length : Int) (n : Int) = ((zs.take n).length : Int) := by
  rw [List.length_take]; omega
variable {P : Program} {W : World} {H : Type} {enc : TypeId × Value → H}
theorem row_of_ints {a : Addr} {zs : List Int} {len : Nat} (hl : len ≤ zs.length) (hc : ∀ i, i < zs.length → W.cell? (a.add i) = some (.int .i64 (zs.getD i 0))) : (zs.take len).length = len ∧ RowAt W (some a) ((zs.take len).map iV) := by
  refine ⟨by simp; omega, ?_⟩
  cases hz : zs with
  | nil => exact .inl (by simp)
  | cons z0 r =>
    rw [← hz]
    have h0 := hc 0 (by rw [hz]; simp)
    have ha := addr_plain h0
    refine .inr ⟨a.block, a.off, by rw [← ha], fun i v hv => ?_⟩
    rw [List.getElem?_map, List.getElem?_take] at hv
    split at hv
    · rcases hq : zs[i]? with _ | z
      · rw [hq] at hv; cases hv
      · rw [hq] at hv
        simp only [Option.map_some, Option.some.injEq] at hv
        have hi : i < zs.length := (List.getElem?_eq_some_iff.1 hq).1
        have h1 := hc i hi
        rw [ha, Addr.add_lit, List.getD_eq_getElem?_getD, hq] at h1
        rw [← hv]
        exact h1
    · cases hv
theorem open_i64s {t e : TypeId} {v : Value} {d : DataW H} {p : List MemPlace} (ht : P.underlying t = some (.slice e)) (he : P.underlying e = some (.int .i64)) (hc : P.cellsOf e = 1)
    (hv : ∃ a l c, v = .slice a l c) (h : DataW.Trod enc P W 0 (fun _ => true) true t v d p) : ∃ (zs : List Int) (a : Option Addr) (c : Nat), v = .slice a zs.length c ∧ zs.length ≤ c ∧ c ≤ maxLen ∧ RowAt W a (zs.map iV) ∧ ints zs := by
  obtain ⟨a, l, c, rfl⟩ := hv
  obtain ⟨fuel, hf⟩ := h
  rcases open_ints ht he hc hf with ⟨hcs, _⟩ | ⟨x, l', c', zs, hcs, _, hl, hm, hz, _, hcell, hwz⟩
  · simp [Value.cells] at hcs
    obtain ⟨rfl, rfl, rfl⟩ := hcs
    exact ⟨[], none, 0, rfl, Nat.le_refl _, by decide, .inl rfl, fun _ h => by cases h⟩
  · simp [Value.cells] at hcs
    obtain ⟨rfl, rfl, rfl⟩ := hcs
    simp only [if_true] at hz
    obtain ⟨h1, h2⟩ := row_of_ints (len := l) (by omega) hcell
    exact ⟨zs.take l, some x, c, by rw [h1], by rw [h1]; exact hl, hm, h2, fun z hz => i64_range (hwz z (List.mem_of_mem_take hz))⟩
end Go.Proofs.Ytecmpjccdhmeeaa
end
