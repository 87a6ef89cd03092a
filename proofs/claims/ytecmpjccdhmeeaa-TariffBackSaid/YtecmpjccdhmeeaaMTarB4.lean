import Derived.Test.YtecmpjccdhmeeaaProg
import Derived.Test.YtecmpjccdhmeeaaMTarB2
import Derived.Test.YtecmpjccdhmeeaaRows
import Derived.Test.YtecmpjccdhmeeaaMTarB3
import Derived.Test.YtecmpjccdhmeeaaMTarB1
import Derived.Laws.BitsAllLaws
import Derived.Deep.Cut
set_option linter.unusedVariables false
section
/- Conditions of functions, printed by a program of this claim's own (vcgen.py) out of the loaded code; each is proved to be enough. -/
set_option maxRecDepth 100000
namespace Go.Proofs.Ytecmpjccdhmeeaa
open Go.RowKit
namespace GTar
def env : Env := ⟨[(3, ⟨.int .i64, 1, .int .i64 0, 8, [.int .i64]⟩), (4, ⟨.bool, 1, .bool false, 1, [.bool]⟩), (22, ⟨.slice 120, 1, .slice none 0 0, 24, [.slice]⟩), (24, ⟨.struct [(0, 3), (1, 3), (2, 3), (3, 22)], 4, .agg #[.int .i64 0, .int .i64 0, .int .i64 0, .slice none 0 0], 48, [.int .i64, .int .i64, .int .i64, .slice]⟩), (26, ⟨.struct [(0, 3), (1, 3), (2, 3), (3, 24), (7, 24)], 11, .agg #[.int .i64 0, .int .i64 0, .int .i64 0, .int .i64 0, .int .i64 0, .int .i64 0, .slice none 0 0, .int .i64 0, .int .i64 0, .int .i64 0, .slice none 0 0], 120, [.int .i64, .int .i64, .int .i64, .int .i64, .int .i64, .int .i64, .slice, .int .i64, .int .i64, .int .i64, .slice]⟩), (32, ⟨.struct [(0, 3), (1, 3), (2, 3), (3, 24), (7, 24)], 11, .agg #[.int .i64 0, .int .i64 0, .int .i64 0, .int .i64 0, .int .i64 0, .int .i64 0, .slice none 0 0, .int .i64 0, .int .i64 0, .int .i64 0, .slice none 0 0], 120, [.int .i64, .int .i64, .int .i64, .int .i64, .int .i64, .int .i64, .slice, .int .i64, .int .i64, .int .i64, .slice]⟩), (45, ⟨.slice 3, 1, .slice none 0 0, 24, [.slice]⟩), (50, ⟨.int .u64, 1, .int .u64 0, 8, [.int .u64]⟩), (51, ⟨.slice 116, 1, .slice none 0 0, 24, [.slice]⟩), (53, ⟨.struct [(0, 51), (1, 3), (2, 3), (3, 3)], 4, .agg #[.slice none 0 0, .int .i64 0, .int .i64 0, .int .i64 0], 48, [.slice, .int .i64, .int .i64, .int .i64]⟩), (67, ⟨.struct [(0, 51), (1, 3), (2, 3), (3, 3)], 4, .agg #[.slice none 0 0, .int .i64 0, .int .i64 0, .int .i64 0], 48, [.slice, .int .i64, .int .i64, .int .i64]⟩), (116, ⟨.struct [(0, 3), (1, 3), (2, 3)], 3, .agg #[.int .i64 0, .int .i64 0, .int .i64 0], 24, [.int .i64, .int .i64, .int .i64]⟩), (120, ⟨.struct [(0, 3), (1, 3)], 2, .agg #[.int .i64 0, .int .i64 0], 16, [.int .i64, .int .i64]⟩), (121, ⟨.arr 10 50, 10, .agg #[.int .u64 0, .int .u64 0, .int .u64 0, .int .u64 0, .int .u64 0, .int .u64 0, .int .u64 0, .int .u64 0, .int .u64 0, .int .u64 0], 80, [.int .u64, .int .u64, .int .u64, .int .u64, .int .u64, .int .u64, .int .u64, .int .u64, .int .u64, .int .u64]⟩), (123, ⟨.struct [(0, 121), (10, 4)], 11, .agg #[.int .u64 0, .int .u64 0, .int .u64 0, .int .u64 0, .int .u64 0, .int .u64 0, .int .u64 0, .int .u64 0, .int .u64 0, .int .u64 0, .bool false], 88, [.int .u64, .int .u64, .int .u64, .int .u64, .int .u64, .int .u64, .int .u64, .int .u64, .int .u64, .int .u64, .bool]⟩)], [(14, [.lf (.int .i64)]), (22, [.lf (.int .i64)]), (24, [.lf (.int .i64), .lf (.int .i64)]), (32, [.lf (.int .i64), .lf (.int .i64)]), (37, [.lf (.int .i64), .lf (.bool)]), (38, [.lf (.bool)]), (43, [.lf (.int .i64)]), (45, [.agg [.int .i64, .int .i64, .int .i64, .slice], .lf (.bool)]), (46, [.lf (.int .i64)]), (58, [.lf (.int .i64)]), (59, [.lf (.bool)]), (60, [.lf (.bool)]), (61, [.lf (.bool)]), (62, [.lf (.int .i64), .lf (.bool)]), (63, [.lf (.slice), .lf (.int .i64)]), (64, [.lf (.int .i64), .lf (.bool)]), (65, [.lf (.int .i64)]), (66, [.lf (.int .i64), .lf (.bool)]), (68, [.lf (.int .i64), .lf (.bool)]), (69, [.lf (.slice), .lf (.int .i64)]), (70, [.lf (.int .i64)]), (71, [.lf (.int .i64), .lf (.bool)]), (72, [.agg [.int .u64, .int .u64, .int .u64, .int .u64, .int .u64, .int .u64, .int .u64, .int .u64, .int .u64, .int .u64, .bool]]), (73, [.agg [.int .u64, .int .u64, .int .u64, .int .u64, .int .u64, .int .u64, .int .u64, .int .u64, .int .u64, .int .u64, .bool]]), (74, [.lf (.int .i64), .lf (.bool)]), (75, [.agg [.int .u64, .int .u64, .int .u64, .int .u64, .int .u64, .int .u64, .int .u64, .int .u64, .int .u64, .int .u64, .bool]]), (78, [.lf (.bool)]), (79, [.agg [.int .i64, .int .i64, .int .i64, .slice]]), (85, [.lf (.int .i64)]), (86, [.agg [.int .i64, .int .i64, .int .i64]]), (87, [.lf (.int .i64)]), (89, [.lf (.int .i64)]), (96, [.lf (.slice)]), (99, [.lf (.int .i64)]), (100, [.lf (.bool)])], [116, 120]⟩
theorem ty3 : TyOk Try.prog 3 ⟨.int .i64, 1, .int .i64 0, 8, [.int .i64]⟩ := tyok (by kernel_rfl) (by kernel_rfl)
theorem ty4 : TyOk Try.prog 4 ⟨.bool, 1, .bool false, 1, [.bool]⟩ := tyok (by kernel_rfl) (by kernel_rfl)
theorem ty22 : TyOk Try.prog 22 ⟨.slice 120, 1, .slice none 0 0, 24, [.slice]⟩ := tyok (by kernel_rfl) (by kernel_rfl)
theorem ty24 : TyOk Try.prog 24 ⟨.struct [(0, 3), (1, 3), (2, 3), (3, 22)], 4, .agg #[.int .i64 0, .int .i64 0, .int .i64 0, .slice none 0 0], 48, [.int .i64, .int .i64, .int .i64, .slice]⟩ := tyok (by kernel_rfl) (by kernel_rfl)
theorem ty26 : TyOk Try.prog 26 ⟨.struct [(0, 3), (1, 3), (2, 3), (3, 24), (7, 24)], 11, .agg #[.int .i64 0, .int .i64 0, .int .i64 0, .int .i64 0, .int .i64 0, .int .i64 0, .slice none 0 0, .int .i64 0, .int .i64 0, .int .i64 0, .slice none 0 0], 120, [.int .i64, .int .i64, .int .i64, .int .i64, .int .i64, .int .i64, .slice, .int .i64, .int .i64, .int .i64, .slice]⟩ := tyok (by kernel_rfl) (by kernel_rfl)
theorem ty32 : TyOk Try.prog 32 ⟨.struct [(0, 3), (1, 3), (2, 3), (3, 24), (7, 24)], 11, .agg #[.int .i64 0, .int .i64 0, .int .i64 0, .int .i64 0, .int .i64 0, .int .i64 0, .slice none 0 0, .int .i64 0, .int .i64 0, .int .i64 0, .slice none 0 0], 120, [.int .i64, .int .i64, .int .i64, .int .i64, .int .i64, .int .i64, .slice, .int .i64, .int .i64, .int .i64, .slice]⟩ := tyok (by kernel_rfl) (by kernel_rfl)
theorem ty45 : TyOk Try.prog 45 ⟨.slice 3, 1, .slice none 0 0, 24, [.slice]⟩ := tyok (by kernel_rfl) (by kernel_rfl)
theorem ty50 : TyOk Try.prog 50 ⟨.int .u64, 1, .int .u64 0, 8, [.int .u64]⟩ := tyok (by kernel_rfl) (by kernel_rfl)
theorem ty51 : TyOk Try.prog 51 ⟨.slice 116, 1, .slice none 0 0, 24, [.slice]⟩ := tyok (by kernel_rfl) (by kernel_rfl)
theorem ty53 : TyOk Try.prog 53 ⟨.struct [(0, 51), (1, 3), (2, 3), (3, 3)], 4, .agg #[.slice none 0 0, .int .i64 0, .int .i64 0, .int .i64 0], 48, [.slice, .int .i64, .int .i64, .int .i64]⟩ := tyok (by kernel_rfl) (by kernel_rfl)
theorem ty67 : TyOk Try.prog 67 ⟨.struct [(0, 51), (1, 3), (2, 3), (3, 3)], 4, .agg #[.slice none 0 0, .int .i64 0, .int .i64 0, .int .i64 0], 48, [.slice, .int .i64, .int .i64, .int .i64]⟩ := tyok (by kernel_rfl) (by kernel_rfl)
theorem ty116 : TyOk Try.prog 116 ⟨.struct [(0, 3), (1, 3), (2, 3)], 3, .agg #[.int .i64 0, .int .i64 0, .int .i64 0], 24, [.int .i64, .int .i64, .int .i64]⟩ := tyok (by kernel_rfl) (by kernel_rfl)
theorem ty120 : TyOk Try.prog 120 ⟨.struct [(0, 3), (1, 3)], 2, .agg #[.int .i64 0, .int .i64 0], 16, [.int .i64, .int .i64]⟩ := tyok (by kernel_rfl) (by kernel_rfl)
theorem ty121 : TyOk Try.prog 121 ⟨.arr 10 50, 10, .agg #[.int .u64 0, .int .u64 0, .int .u64 0, .int .u64 0, .int .u64 0, .int .u64 0, .int .u64 0, .int .u64 0, .int .u64 0, .int .u64 0], 80, [.int .u64, .int .u64, .int .u64, .int .u64, .int .u64, .int .u64, .int .u64, .int .u64, .int .u64, .int .u64]⟩ := tyok (by kernel_rfl) (by kernel_rfl)
theorem ty123 : TyOk Try.prog 123 ⟨.struct [(0, 121), (10, 4)], 11, .agg #[.int .u64 0, .int .u64 0, .int .u64 0, .int .u64 0, .int .u64 0, .int .u64 0, .int .u64 0, .int .u64 0, .int .u64 0, .int .u64 0, .bool false], 88, [.int .u64, .int .u64, .int .u64, .int .u64, .int .u64, .int .u64, .int .u64, .int .u64, .int .u64, .int .u64, .bool]⟩ := tyok (by kernel_rfl) (by kernel_rfl)
theorem fn14 : FnOk Try.prog 14 := fnok Try.func14 (by kernel_rfl) (by kernel_rfl)
theorem fn22 : FnOk Try.prog 22 := fnok Try.func22 (by kernel_rfl) (by kernel_rfl)
theorem fn24 : FnOk Try.prog 24 := fnok Try.func24 (by kernel_rfl) (by kernel_rfl)
theorem fn32 : FnOk Try.prog 32 := fnok Try.func32 (by kernel_rfl) (by kernel_rfl)
theorem fn37 : FnOk Try.prog 37 := fnok Try.func37 (by kernel_rfl) (by kernel_rfl)
theorem fn38 : FnOk Try.prog 38 := fnok Try.func38 (by kernel_rfl) (by kernel_rfl)
theorem fn43 : FnOk Try.prog 43 := fnok Try.func43 (by kernel_rfl) (by kernel_rfl)
theorem fn45 : FnOk Try.prog 45 := fnok Try.func45 (by kernel_rfl) (by kernel_rfl)
theorem fn46 : FnOk Try.prog 46 := fnok Try.func46 (by kernel_rfl) (by kernel_rfl)
theorem fn58 : FnOk Try.prog 58 := fnok Try.func58 (by kernel_rfl) (by kernel_rfl)
theorem fn59 : FnOk Try.prog 59 := fnok Try.func59 (by kernel_rfl) (by kernel_rfl)
theorem fn60 : FnOk Try.prog 60 := fnok Try.func60 (by kernel_rfl) (by kernel_rfl)
theorem fn61 : FnOk Try.prog 61 := fnok Try.func61 (by kernel_rfl) (by kernel_rfl)
theorem fn62 : FnOk Try.prog 62 := fnok Try.func62 (by kernel_rfl) (by kernel_rfl)
theorem fn63 : FnOk Try.prog 63 := fnok Try.func63 (by kernel_rfl) (by kernel_rfl)
theorem fn64 : FnOk Try.prog 64 := fnok Try.func64 (by kernel_rfl) (by kernel_rfl)
theorem fn65 : FnOk Try.prog 65 := fnok Try.func65 (by kernel_rfl) (by kernel_rfl)
theorem fn66 : FnOk Try.prog 66 := fnok Try.func66 (by kernel_rfl) (by kernel_rfl)
theorem fn68 : FnOk Try.prog 68 := fnok Try.func68 (by kernel_rfl) (by kernel_rfl)
theorem fn69 : FnOk Try.prog 69 := fnok Try.func69 (by kernel_rfl) (by kernel_rfl)
theorem fn70 : FnOk Try.prog 70 := fnok Try.func70 (by kernel_rfl) (by kernel_rfl)
theorem fn71 : FnOk Try.prog 71 := fnok Try.func71 (by kernel_rfl) (by kernel_rfl)
theorem fn72 : FnOk Try.prog 72 := fnok Try.func72 (by kernel_rfl) (by kernel_rfl)
theorem fn73 : FnOk Try.prog 73 := fnok Try.func73 (by kernel_rfl) (by kernel_rfl)
theorem fn74 : FnOk Try.prog 74 := fnok Try.func74 (by kernel_rfl) (by kernel_rfl)
theorem fn75 : FnOk Try.prog 75 := fnok Try.func75 (by kernel_rfl) (by kernel_rfl)
theorem fn78 : FnOk Try.prog 78 := fnok Try.func78 (by kernel_rfl) (by kernel_rfl)
theorem fn79 : FnOk Try.prog 79 := fnok Try.func79 (by kernel_rfl) (by kernel_rfl)
theorem fn85 : FnOk Try.prog 85 := fnok Try.func85 (by kernel_rfl) (by kernel_rfl)
theorem fn86 : FnOk Try.prog 86 := fnok Try.func86 (by kernel_rfl) (by kernel_rfl)
theorem fn87 : FnOk Try.prog 87 := fnok Try.func87 (by kernel_rfl) (by kernel_rfl)
theorem fn89 : FnOk Try.prog 89 := fnok Try.func89 (by kernel_rfl) (by kernel_rfl)
theorem fn96 : FnOk Try.prog 96 := fnok Try.func96 (by kernel_rfl) (by kernel_rfl)
theorem fn99 : FnOk Try.prog 99 := fnok Try.func99 (by kernel_rfl) (by kernel_rfl)
theorem fn100 : FnOk Try.prog 100 := fnok Try.func100 (by kernel_rfl) (by kernel_rfl)
theorem eqt116 : EqTy Try.prog 116 := ⟨by kernel_rfl, by kernel_rfl, by kernel_rfl⟩
theorem eqt120 : EqTy Try.prog 120 := ⟨by kernel_rfl, by kernel_rfl, by kernel_rfl⟩
theorem envOk : EOk Try.prog env := ⟨(by simp only [env, List.forall_mem_cons, List.not_mem_nil, false_implies, implies_true, and_true]; exact ⟨ty3, ty4, ty22, ty24, ty26, ty32, ty45, ty50, ty51, ty53, ty67, ty116, ty120, ty121, ty123⟩), (by simp only [env, List.forall_mem_cons, List.not_mem_nil, false_implies, implies_true, and_true]; exact ⟨fn14, fn22, fn24, fn32, fn37, fn38, fn43, fn45, fn46, fn58, fn59, fn60, fn61, fn62, fn63, fn64, fn65, fn66, fn68, fn69, fn70, fn71, fn72, fn73, fn74, fn75, fn78, fn79, fn85, fn86, fn87, fn89, fn96, fn99, fn100⟩), by kernel_rfl, (by simp only [env, List.forall_mem_cons, List.not_mem_nil, false_implies, implies_true, and_true]; exact ⟨eqt116, eqt120⟩)⟩
/-- purser/tariff.within -/
def within_vc (x0 : Int) (x1 : Int) (x2 : Int) (w : World) (K : Value → World → Prop) : Prop :=
  br (decide (x0 ≥ x1)) (
    K (.bool (decide (x0 ≤ x2))) w
  ) (
    K (.bool false) w
  )
def within_notes : Notes := ⟨[], [], []⟩
theorem within_calls (x0 : Int) (x1 : Int) (x2 : Int) (w : World) (K : Value → World → Prop) (h : within_vc x0 x1 x2 w K) : Calls Try.prog 60 #[.int .i64 x0, .int .i64 x1, .int .i64 x2] w fun e w' => ∃ v, e = .returned v ∧ K v w' :=
  calls_of_fvc envOk Try.func60 within_notes [] [.int .i64 x0, .int .i64 x1, .int .i64 x2] w K (use_vc h (by as_aux_lemma => kernel_rfl))
/-- purser/tariff.tiers -/
def tiers_vc (a0 : Option Addr) (n0 : Nat) (c0 : Nat) (w : World) (K : Value → World → Prop) : Prop :=
  ∃ (I : Int → Int → World → Prop) (μ : Int → Int → World → Nat),
  I 0 0 w ∧
  ∀ (x3 : Int) (x9 : Int) (w_2 : World), I x3 x9 w_2 →
  br (decide (x9 < ((n0 : Nat) : Int))) (
    withP a0 fun g12 o12 =>
    (0 : Int) ≤ x9 ∧ x9 < (((n0 : Nat) : Int) : Int) ∧
    ∃ (x13_0 : Int) (x13_1 : Int),
    cellsAt w_2 g12 (o12 + x9.toNat * 2) [.int .i64 x13_0, .int .i64 x13_1] ∧
    newO w_2 (.cells #[.int .i64 0, .int .i64 0] 120) fun g w_3 =>
    ∀ w_4 : World, BoxSt g w_3 w_4 →
    Calls Try.prog 60 #[.int .i64 x13_1, .int .i64 0, .int .i64 1048576] w_4 fun e w_5 => KeepG [g] w_4 w_5 ∧
    ∃ (b22 : Bool),
    e = .returned (.bool b22) ∧
    br (!b22) (
      K (.int .i64 1) w_5
    ) (
      br (decide (x9 = (IntKind.i64.wrap (((n0 : Nat) : Int) - 1)))) (
        br (decide (x13_0 ≠ 0)) (
          K (.int .i64 15) w_5
        ) (
          br (!(decide (x9 = (IntKind.i64.wrap (((n0 : Nat) : Int) - 1))))) (
            Calls Try.prog 60 #[.int .i64 x13_0, .int .i64 (IntKind.i64.wrap (x3 + 1)), .int .i64 1099511627776] w_5 fun e_2 w_6 => KeepG [g] w_5 w_6 ∧
            ∃ (b38 : Bool),
            e_2 = .returned (.bool b38) ∧
            br (!b38) (
              K (.int .i64 15) w_6
            ) (
              I x13_0 (IntKind.i64.wrap (x9 + 1)) w_6 ∧ μ x13_0 (IntKind.i64.wrap (x9 + 1)) w_6 < μ x3 x9 w_2
            )
          ) (
            I x13_0 (IntKind.i64.wrap (x9 + 1)) w_5 ∧ μ x13_0 (IntKind.i64.wrap (x9 + 1)) w_5 < μ x3 x9 w_2
          )
        )
      ) (
        br (!(decide (x9 = (IntKind.i64.wrap (((n0 : Nat) : Int) - 1))))) (
          Calls Try.prog 60 #[.int .i64 x13_0, .int .i64 (IntKind.i64.wrap (x3 + 1)), .int .i64 1099511627776] w_5 fun e_3 w_7 => KeepG [g] w_5 w_7 ∧
          ∃ (b38_2 : Bool),
          e_3 = .returned (.bool b38_2) ∧
          br (!b38_2) (
            K (.int .i64 15) w_7
          ) (
            I x13_0 (IntKind.i64.wrap (x9 + 1)) w_7 ∧ μ x13_0 (IntKind.i64.wrap (x9 + 1)) w_7 < μ x3 x9 w_2
          )
        ) (
          I x13_0 (IntKind.i64.wrap (x9 + 1)) w_5 ∧ μ x13_0 (IntKind.i64.wrap (x9 + 1)) w_5 < μ x3 x9 w_2
        )
      )
    )
  ) (
    K (.int .i64 0) w_2
  )
def tiers_notes : Notes := ⟨[], [(3, ⟨[(3, .lf (.int .i64)), (9, .lf (.int .i64))], [], [10, 11, 12, 13, 5, 4, 14, 15, 16, 17, 18, 6, 20, 21, 22, 23, 19, 2, 25, 26, 27, 28, 29, 30, 24, 31, 32, 33, 34, 35, 36, 37, 38, 39, 40, 41, 42, 3, 43, 9], [5]⟩)], []⟩
theorem tiers_calls (a0 : Option Addr) (n0 : Nat) (c0 : Nat) (w : World) (K : Value → World → Prop) (h : tiers_vc a0 n0 c0 w K) : Calls Try.prog 85 #[.slice a0 n0 c0] w fun e w' => ∃ v, e = .returned v ∧ K v w' :=
  calls_of_fvc envOk Try.func85 tiers_notes [5] [.slice a0 n0 c0] w K (use_vc h (by as_aux_lemma => kernel_rfl))
/-- purser/tariff.Check -/
def check_vc (x0_0 : Int) (x0_1 : Int) (x0_2 : Int) (a0_3 : Option Addr) (n0_3 : Nat) (c0_3 : Nat) (w : World) (K : Value → World → Prop) : Prop :=
  newO w (.cells #[.int .i64 x0_0, .int .i64 x0_1, .int .i64 x0_2, .slice a0_3 n0_3 c0_3] 24) fun g w_2 =>
  Calls Try.prog 60 #[.int .i64 x0_0, .int .i64 1, .int .i64 8] w_2 fun e w_3 => KeepG [g] w_2 w_3 ∧
  ∃ (b6 : Bool),
  e = .returned (.bool b6) ∧
  br (!b6) (
    K (.int .i64 1) w_3
  ) (
    Calls Try.prog 60 #[.int .i64 x0_2, .int .i64 1, .int .i64 1073741824] w_3 fun e_2 w_4 => KeepG [g] w_3 w_4 ∧
    ∃ (b11 : Bool),
    e_2 = .returned (.bool b11) ∧
    br (!b11) (
      K (.int .i64 1) w_4
    ) (
      br (decide (x0_1 ≠ 1)) (
        br (decide (x0_1 ≠ 2)) (
          K (.int .i64 21) w_4
        ) (
          Calls Try.prog 60 #[.int .i64 ((n0_3 : Nat) : Int), .int .i64 1, .int .i64 6] w_4 fun e_3 w_5 => KeepG [g] w_4 w_5 ∧
          ∃ (b27 : Bool),
          e_3 = .returned (.bool b27) ∧
          br (!b27) (
            K (.int .i64 5) w_5
          ) (
            Calls Try.prog 85 #[.slice a0_3 n0_3 c0_3] w_5 fun e_4 w_6 => KeepG [g] w_5 w_6 ∧
            ∃ (x31 : Int),
            e_4 = .returned (.int .i64 x31) ∧
            K (.int .i64 x31) w_6
          )
        )
      ) (
        Calls Try.prog 60 #[.int .i64 ((n0_3 : Nat) : Int), .int .i64 1, .int .i64 6] w_4 fun e_5 w_7 => KeepG [g] w_4 w_7 ∧
        ∃ (b27_2 : Bool),
        e_5 = .returned (.bool b27_2) ∧
        br (!b27_2) (
          K (.int .i64 5) w_7
        ) (
          Calls Try.prog 85 #[.slice a0_3 n0_3 c0_3] w_7 fun e_6 w_8 => KeepG [g] w_7 w_8 ∧
          ∃ (x31_2 : Int),
          e_6 = .returned (.int .i64 x31_2) ∧
          K (.int .i64 x31_2) w_8
        )
      )
    )
  )
def check_notes : Notes := ⟨[], [], []⟩
theorem check_calls (x0_0 : Int) (x0_1 : Int) (x0_2 : Int) (a0_3 : Option Addr) (n0_3 : Nat) (c0_3 : Nat) (w : World) (K : Value → World → Prop) (h : check_vc x0_0 x0_1 x0_2 a0_3 n0_3 c0_3 w K) : Calls Try.prog 58 #[.agg #[.int .i64 x0_0, .int .i64 x0_1, .int .i64 x0_2, .slice a0_3 n0_3 c0_3]] w fun e w' => ∃ v, e = .returned v ∧ K v w' :=
  calls_of_fvc envOk Try.func58 check_notes [1] [.agg #[.int .i64 x0_0, .int .i64 x0_1, .int .i64 x0_2, .slice a0_3 n0_3 c0_3]] w K (use_vc h (by as_aux_lemma => kernel_rfl))
/-- purser/tariff.nothing -/
def nothing_vc (x0_0 : Int) (x0_1 : Int) (x0_2 : Int) (a0_3 : Option Addr) (n0_3 : Nat) (c0_3 : Nat) (w : World) (K : Value → World → Prop) : Prop :=
  newO w (.cells #[.int .i64 x0_0, .int .i64 x0_1, .int .i64 x0_2, .slice a0_3 n0_3 c0_3] 24) fun g w_2 =>
  br (decide (x0_0 = 0)) (
    br (decide (x0_1 = 0)) (
      br (decide (x0_2 = 0)) (
        K (.bool (decide (((n0_3 : Nat) : Int) = 0))) w_2
      ) (
        K (.bool false) w_2
      )
    ) (
      K (.bool false) w_2
    )
  ) (
    K (.bool false) w_2
  )
def nothing_notes : Notes := ⟨[], [], []⟩
theorem nothing_calls (x0_0 : Int) (x0_1 : Int) (x0_2 : Int) (a0_3 : Option Addr) (n0_3 : Nat) (c0_3 : Nat) (w : World) (K : Value → World → Prop) (h : nothing_vc x0_0 x0_1 x0_2 a0_3 n0_3 c0_3 w K) : Calls Try.prog 59 #[.agg #[.int .i64 x0_0, .int .i64 x0_1, .int .i64 x0_2, .slice a0_3 n0_3 c0_3]] w fun e w' => ∃ v, e = .returned v ∧ K v w' :=
  calls_of_fvc envOk Try.func59 nothing_notes [1] [.agg #[.int .i64 x0_0, .int .i64 x0_1, .int .i64 x0_2, .slice a0_3 n0_3 c0_3]] w K (use_vc h (by as_aux_lemma => kernel_rfl))
/-- purser/tariff.CheckPlan -/
def cplan_vc (x0_0 : Int) (x0_1 : Int) (x0_2 : Int) (x0_3 : Int) (x0_4 : Int) (x0_5 : Int) (a0_6 : Option Addr) (n0_6 : Nat) (c0_6 : Nat) (x0_7 : Int) (x0_8 : Int) (x0_9 : Int) (a0_10 : Option Addr) (n0_10 : Nat) (c0_10 : Nat) (w : World) (K : Value → World → Prop) : Prop :=
  newO w (.cells #[.int .i64 x0_0, .int .i64 x0_1, .int .i64 x0_2, .int .i64 x0_3, .int .i64 x0_4, .int .i64 x0_5, .slice a0_6 n0_6 c0_6, .int .i64 x0_7, .int .i64 x0_8, .int .i64 x0_9, .slice a0_10 n0_10 c0_10] 32) fun g w_2 =>
  Calls Try.prog 58 #[.agg #[.int .i64 x0_3, .int .i64 x0_4, .int .i64 x0_5, .slice a0_6 n0_6 c0_6]] w_2 fun e w_3 => KeepG [g] w_2 w_3 ∧
  ∃ (x7 : Int),
  e = .returned (.int .i64 x7) ∧
  br (decide (x7 ≠ 0)) (
    K (.int .i64 x7) w_3
  ) (
    br (decide (x0_0 = 0)) (
      br (decide (x0_1 ≠ 0)) (
        K (.int .i64 2) w_3
      ) (
        br (decide (x0_2 ≠ 0)) (
          K (.int .i64 2) w_3
        ) (
          Calls Try.prog 59 #[.agg #[.int .i64 x0_7, .int .i64 x0_8, .int .i64 x0_9, .slice a0_10 n0_10 c0_10]] w_3 fun e_2 w_4 => KeepG [g] w_3 w_4 ∧
          ∃ (b25 : Bool),
          e_2 = .returned (.bool b25) ∧
          br (!b25) (
            K (.int .i64 2) w_4
          ) (
            K (.int .i64 0) w_4
          )
        )
      )
    ) (
      Calls Try.prog 60 #[.int .i64 x0_0, .int .i64 2, .int .i64 1073741824] w_3 fun e_3 w_5 => KeepG [g] w_3 w_5 ∧
      ∃ (b30 : Bool),
      e_3 = .returned (.bool b30) ∧
      br (!b30) (
        K (.int .i64 1) w_5
      ) (
        Calls Try.prog 60 #[.int .i64 x0_1, .int .i64 0, .int .i64 (IntKind.i64.wrap (x0_0 - 1))] w_5 fun e_4 w_6 => KeepG [g] w_5 w_6 ∧
        ∃ (b38 : Bool),
        e_4 = .returned (.bool b38) ∧
        br (!b38) (
          K (.int .i64 1) w_6
        ) (
          Calls Try.prog 60 #[.int .i64 x0_2, .int .i64 0, .int .i64 (IntKind.i64.wrap (x0_0 - 1))] w_6 fun e_5 w_7 => KeepG [g] w_6 w_7 ∧
          ∃ (b47 : Bool),
          e_5 = .returned (.bool b47) ∧
          br (!b47) (
            K (.int .i64 1) w_7
          ) (
            br (decide (x0_1 = x0_2)) (
              K (.int .i64 1) w_7
            ) (
              Calls Try.prog 58 #[.agg #[.int .i64 x0_7, .int .i64 x0_8, .int .i64 x0_9, .slice a0_10 n0_10 c0_10]] w_7 fun e_6 w_8 => KeepG [g] w_7 w_8 ∧
              ∃ (x59 : Int),
              e_6 = .returned (.int .i64 x59) ∧
              br (decide (x59 ≠ 0)) (
                K (.int .i64 x59) w_8
              ) (
                br (decide (x0_3 ≠ x0_7)) (
                  K (.int .i64 20) w_8
                ) (
                  br (decide (x0_5 ≠ x0_9)) (
                    K (.int .i64 20) w_8
                  ) (
                    K (.int .i64 0) w_8
                  )
                )
              )
            )
          )
        )
      )
    )
  )
def cplan_notes : Notes := ⟨[], [], []⟩
theorem cplan_calls (x0_0 : Int) (x0_1 : Int) (x0_2 : Int) (x0_3 : Int) (x0_4 : Int) (x0_5 : Int) (a0_6 : Option Addr) (n0_6 : Nat) (c0_6 : Nat) (x0_7 : Int) (x0_8 : Int) (x0_9 : Int) (a0_10 : Option Addr) (n0_10 : Nat) (c0_10 : Nat) (w : World) (K : Value → World → Prop) (h : cplan_vc x0_0 x0_1 x0_2 x0_3 x0_4 x0_5 a0_6 n0_6 c0_6 x0_7 x0_8 x0_9 a0_10 n0_10 c0_10 w K) : Calls Try.prog 22 #[.agg #[.int .i64 x0_0, .int .i64 x0_1, .int .i64 x0_2, .int .i64 x0_3, .int .i64 x0_4, .int .i64 x0_5, .slice a0_6 n0_6 c0_6, .int .i64 x0_7, .int .i64 x0_8, .int .i64 x0_9, .slice a0_10 n0_10 c0_10]] w fun e w' => ∃ v, e = .returned v ∧ K v w' :=
  calls_of_fvc envOk Try.func22 cplan_notes [1] [.agg #[.int .i64 x0_0, .int .i64 x0_1, .int .i64 x0_2, .int .i64 x0_3, .int .i64 x0_4, .int .i64 x0_5, .slice a0_6 n0_6 c0_6, .int .i64 x0_7, .int .i64 x0_8, .int .i64 x0_9, .slice a0_10 n0_10 c0_10]] w K (use_vc h (by as_aux_lemma => kernel_rfl))
/-- (purser/tariff.Plan).other -/
def other_vc (x0_0 : Int) (x0_1 : Int) (x0_2 : Int) (x0_3 : Int) (x0_4 : Int) (x0_5 : Int) (a0_6 : Option Addr) (n0_6 : Nat) (c0_6 : Nat) (x0_7 : Int) (x0_8 : Int) (x0_9 : Int) (a0_10 : Option Addr) (n0_10 : Nat) (c0_10 : Nat) (x1 : Int) (w : World) (K : Value → World → Prop) : Prop :=
  newO w (.cells #[.int .i64 x0_0, .int .i64 x0_1, .int .i64 x0_2, .int .i64 x0_3, .int .i64 x0_4, .int .i64 x0_5, .slice a0_6 n0_6 c0_6, .int .i64 x0_7, .int .i64 x0_8, .int .i64 x0_9, .slice a0_10 n0_10 c0_10] 32) fun g w_2 =>
  br (decide (x0_0 = 0)) (
    K (.bool false) w_2
  ) (
    (x0_0 : Int) ≠ 0 ∧
    drewO w_2 fun w_3 =>
    br (decide (x0_1 < x0_2)) (
      br (decide ((Int.tmod x1 x0_0) ≥ x0_1)) (
        K (.bool (decide ((Int.tmod x1 x0_0) < x0_2))) w_3
      ) (
        K (.bool false) w_3
      )
    ) (
      br (decide ((Int.tmod x1 x0_0) ≥ x0_1)) (
        K (.bool true) w_3
      ) (
        K (.bool (decide ((Int.tmod x1 x0_0) < x0_2))) w_3
      )
    )
  )
def other_notes : Notes := ⟨[(4, ⟨[0, 0, 2, 7, 0, 0, 32, 112, 15, 511], [], [0, 1, 2, 3, 4, 5, 6, 7, 8, 9]⟩)], [], []⟩
theorem other_calls (x0_0 : Int) (x0_1 : Int) (x0_2 : Int) (x0_3 : Int) (x0_4 : Int) (x0_5 : Int) (a0_6 : Option Addr) (n0_6 : Nat) (c0_6 : Nat) (x0_7 : Int) (x0_8 : Int) (x0_9 : Int) (a0_10 : Option Addr) (n0_10 : Nat) (c0_10 : Nat) (x1 : Int) (w : World) (K : Value → World → Prop) (h : other_vc x0_0 x0_1 x0_2 x0_3 x0_4 x0_5 a0_6 n0_6 c0_6 x0_7 x0_8 x0_9 a0_10 n0_10 c0_10 x1 w K) : Calls Try.prog 78 #[.agg #[.int .i64 x0_0, .int .i64 x0_1, .int .i64 x0_2, .int .i64 x0_3, .int .i64 x0_4, .int .i64 x0_5, .slice a0_6 n0_6 c0_6, .int .i64 x0_7, .int .i64 x0_8, .int .i64 x0_9, .slice a0_10 n0_10 c0_10], .int .i64 x1] w fun e w' => ∃ v, e = .returned v ∧ K v w' :=
  calls_of_fvc envOk Try.func78 other_notes [2] [.agg #[.int .i64 x0_0, .int .i64 x0_1, .int .i64 x0_2, .int .i64 x0_3, .int .i64 x0_4, .int .i64 x0_5, .slice a0_6 n0_6 c0_6, .int .i64 x0_7, .int .i64 x0_8, .int .i64 x0_9, .slice a0_10 n0_10 c0_10], .int .i64 x1] w K (use_vc h (by as_aux_lemma => kernel_rfl))
/-- purser/tariff.At -/
def at_vc (x0_0 : Int) (x0_1 : Int) (x0_2 : Int) (x0_3 : Int) (x0_4 : Int) (x0_5 : Int) (a0_6 : Option Addr) (n0_6 : Nat) (c0_6 : Nat) (x0_7 : Int) (x0_8 : Int) (x0_9 : Int) (a0_10 : Option Addr) (n0_10 : Nat) (c0_10 : Nat) (x1 : Int) (w : World) (K : Value → World → Prop) : Prop :=
  newO w (.cells #[.int .i64 x0_0, .int .i64 x0_1, .int .i64 x0_2, .int .i64 x0_3, .int .i64 x0_4, .int .i64 x0_5, .slice a0_6 n0_6 c0_6, .int .i64 x0_7, .int .i64 x0_8, .int .i64 x0_9, .slice a0_10 n0_10 c0_10] 32) fun g w_2 =>
  newO w_2 (.cells #[.int .i64 0, .int .i64 0, .int .i64 0, .slice none 0 0] 24) fun g_2 w_3 =>
  br (decide (x1 < 0)) (
    ∀ w_4 : World, BoxSt g_2 w_3 w_4 →
    K (.tuple #[.agg #[.int .i64 0, .int .i64 0, .int .i64 0, .slice none 0 0], .bool false]) w_4
  ) (
    Calls Try.prog 22 #[.agg #[.int .i64 x0_0, .int .i64 x0_1, .int .i64 x0_2, .int .i64 x0_3, .int .i64 x0_4, .int .i64 x0_5, .slice a0_6 n0_6 c0_6, .int .i64 x0_7, .int .i64 x0_8, .int .i64 x0_9, .slice a0_10 n0_10 c0_10]] w_3 fun e w_5 => KeepG [g_2, g] w_3 w_5 ∧
    ∃ (x11 : Int),
    e = .returned (.int .i64 x11) ∧
    br (decide (x11 ≠ 0)) (
      ∀ w_6 : World, BoxSt g_2 w_5 w_6 →
      K (.tuple #[.agg #[.int .i64 0, .int .i64 0, .int .i64 0, .slice none 0 0], .bool false]) w_6
    ) (
      Calls Try.prog 78 #[.agg #[.int .i64 x0_0, .int .i64 x0_1, .int .i64 x0_2, .int .i64 x0_3, .int .i64 x0_4, .int .i64 x0_5, .slice a0_6 n0_6 c0_6, .int .i64 x0_7, .int .i64 x0_8, .int .i64 x0_9, .slice a0_10 n0_10 c0_10], .int .i64 x1] w_5 fun e_2 w_7 => KeepG [g_2, g] w_5 w_7 ∧
      ∃ (b18 : Bool),
      e_2 = .returned (.bool b18) ∧
      br b18 (
        Calls Try.prog 79 #[.agg #[.int .i64 x0_7, .int .i64 x0_8, .int .i64 x0_9, .slice a0_10 n0_10 c0_10]] w_7 fun e_3 w_8 => KeepG [g_2, g] w_7 w_8 ∧
        ∃ (x21_0 : Int) (x21_1 : Int) (x21_2 : Int) (a21_3 : Option Addr) (n21_3 : Nat) (c21_3 : Nat),
        e_3 = .returned (.agg #[.int .i64 x21_0, .int .i64 x21_1, .int .i64 x21_2, .slice a21_3 n21_3 c21_3]) ∧
        ∀ w_9 : World, BoxSt g_2 w_8 w_9 →
        K (.tuple #[.agg #[.int .i64 x21_0, .int .i64 x21_1, .int .i64 x21_2, .slice a21_3 n21_3 c21_3], .bool true]) w_9
      ) (
        Calls Try.prog 79 #[.agg #[.int .i64 x0_3, .int .i64 x0_4, .int .i64 x0_5, .slice a0_6 n0_6 c0_6]] w_7 fun e_4 w_10 => KeepG [g_2, g] w_7 w_10 ∧
        ∃ (x24_0 : Int) (x24_1 : Int) (x24_2 : Int) (a24_3 : Option Addr) (n24_3 : Nat) (c24_3 : Nat),
        e_4 = .returned (.agg #[.int .i64 x24_0, .int .i64 x24_1, .int .i64 x24_2, .slice a24_3 n24_3 c24_3]) ∧
        ∀ w_11 : World, BoxSt g_2 w_10 w_11 →
        K (.tuple #[.agg #[.int .i64 x24_0, .int .i64 x24_1, .int .i64 x24_2, .slice a24_3 n24_3 c24_3], .bool false]) w_11
      )
    )
  )
def at_notes : Notes := ⟨[], [], []⟩
theorem at_calls (x0_0 : Int) (x0_1 : Int) (x0_2 : Int) (x0_3 : Int) (x0_4 : Int) (x0_5 : Int) (a0_6 : Option Addr) (n0_6 : Nat) (c0_6 : Nat) (x0_7 : Int) (x0_8 : Int) (x0_9 : Int) (a0_10 : Option Addr) (n0_10 : Nat) (c0_10 : Nat) (x1 : Int) (w : World) (K : Value → World → Prop) (h : at_vc x0_0 x0_1 x0_2 x0_3 x0_4 x0_5 a0_6 n0_6 c0_6 x0_7 x0_8 x0_9 a0_10 n0_10 c0_10 x1 w K) : Calls Try.prog 45 #[.agg #[.int .i64 x0_0, .int .i64 x0_1, .int .i64 x0_2, .int .i64 x0_3, .int .i64 x0_4, .int .i64 x0_5, .slice a0_6 n0_6 c0_6, .int .i64 x0_7, .int .i64 x0_8, .int .i64 x0_9, .slice a0_10 n0_10 c0_10], .int .i64 x1] w fun e w' => ∃ v, e = .returned v ∧ K v w' :=
  calls_of_fvc envOk Try.func45 at_notes [2, 4] [.agg #[.int .i64 x0_0, .int .i64 x0_1, .int .i64 x0_2, .int .i64 x0_3, .int .i64 x0_4, .int .i64 x0_5, .slice a0_6 n0_6 c0_6, .int .i64 x0_7, .int .i64 x0_8, .int .i64 x0_9, .slice a0_10 n0_10 c0_10], .int .i64 x1] w K (use_vc h (by as_aux_lemma => kernel_rfl))
/-- purser/tariff.Dearest -/
def dearest_vc (x0_0 : Int) (x0_1 : Int) (x0_2 : Int) (a0_3 : Option Addr) (n0_3 : Nat) (c0_3 : Nat) (w : World) (K : Value → World → Prop) : Prop :=
  newO w (.cells #[.int .i64 x0_0, .int .i64 x0_1, .int .i64 x0_2, .slice a0_3 n0_3 c0_3] 24) fun g w_2 =>
  ∃ (I : Int → Int → World → Prop) (μ : Int → Int → World → Nat),
  I 0 0 w_2 ∧
  ∀ (x3 : Int) (x9 : Int) (w_3 : World), I x3 x9 w_3 →
  br (decide (x9 < ((n0_3 : Nat) : Int))) (
    withP a0_3 fun g11 o11 =>
    (0 : Int) ≤ x9 ∧ x9 < (((n0_3 : Nat) : Int) : Int) ∧
    ∃ (x12_0 : Int) (x12_1 : Int),
    cellsAt w_3 g11 (o11 + x9.toNat * 2) [.int .i64 x12_0, .int .i64 x12_1] ∧
    newO w_3 (.cells #[.int .i64 0, .int .i64 0] 120) fun g_2 w_4 =>
    ∀ w_5 : World, BoxSt g_2 w_4 w_5 →
    I (max x3 x12_1) (IntKind.i64.wrap (x9 + 1)) w_5 ∧ μ (max x3 x12_1) (IntKind.i64.wrap (x9 + 1)) w_5 < μ x3 x9 w_3
  ) (
    K (.int .i64 x3) w_3
  )
def dearest_notes : Notes := ⟨[], [(3, ⟨[(3, .lf (.int .i64)), (9, .lf (.int .i64))], [], [10, 11, 12, 5, 13, 14, 15, 16, 3, 17, 9], [5]⟩)], []⟩
theorem dearest_calls (x0_0 : Int) (x0_1 : Int) (x0_2 : Int) (a0_3 : Option Addr) (n0_3 : Nat) (c0_3 : Nat) (w : World) (K : Value → World → Prop) (h : dearest_vc x0_0 x0_1 x0_2 a0_3 n0_3 c0_3 w K) : Calls Try.prog 46 #[.agg #[.int .i64 x0_0, .int .i64 x0_1, .int .i64 x0_2, .slice a0_3 n0_3 c0_3]] w fun e w' => ∃ v, e = .returned v ∧ K v w' :=
  calls_of_fvc envOk Try.func46 dearest_notes [1, 5] [.agg #[.int .i64 x0_0, .int .i64 x0_1, .int .i64 x0_2, .slice a0_3 n0_3 c0_3]] w K (use_vc h (by as_aux_lemma => kernel_rfl))
/-- purser/tariff.Copy -/
def copy_vc (x0_0 : Int) (x0_1 : Int) (x0_2 : Int) (a0_3 : Option Addr) (n0_3 : Nat) (c0_3 : Nat) (w : World) (K : Value → World → Prop) : Prop :=
  newO w (.cells #[.int .i64 x0_0, .int .i64 x0_1, .int .i64 x0_2, .slice a0_3 n0_3 c0_3] 24) fun g w_2 =>
  newO w_2 (.cells #[.int .i64 0, .int .i64 0, .int .i64 0, .slice none 0 0] 24) fun g_2 w_3 =>
  Calls Try.prog 96 #[.slice a0_3 n0_3 c0_3] w_3 fun e w_4 => KeepG [g_2, g] w_3 w_4 ∧
  ∃ (a5 : Option Addr) (n5 : Nat) (c5 : Nat),
  e = .returned (.slice a5 n5 c5) ∧
  ∀ w_5 : World, BoxSt g w_4 w_5 →
  ∀ w_6 : World, BoxSt g_2 w_5 w_6 →
  K (.agg #[.int .i64 x0_0, .int .i64 x0_1, .int .i64 x0_2, .slice a5 n5 c5]) w_6
def copy_notes : Notes := ⟨[], [], []⟩
theorem copy_calls (x0_0 : Int) (x0_1 : Int) (x0_2 : Int) (a0_3 : Option Addr) (n0_3 : Nat) (c0_3 : Nat) (w : World) (K : Value → World → Prop) (h : copy_vc x0_0 x0_1 x0_2 a0_3 n0_3 c0_3 w K) : Calls Try.prog 79 #[.agg #[.int .i64 x0_0, .int .i64 x0_1, .int .i64 x0_2, .slice a0_3 n0_3 c0_3]] w fun e w' => ∃ v, e = .returned v ∧ K v w' :=
  calls_of_fvc envOk Try.func79 copy_notes [1, 2] [.agg #[.int .i64 x0_0, .int .i64 x0_1, .int .i64 x0_2, .slice a0_3 n0_3 c0_3]] w K (use_vc h (by as_aux_lemma => kernel_rfl))
/-- slices.Clone[[]purser/api.Tier,purser/api.Tier] -/
def clone_vc (a0 : Option Addr) (n0 : Nat) (c0 : Nat) (w : World) (K : Value → World → Prop) : Prop :=
  br (Option.isNone a0) (
    K (.slice none 0 0) w
  ) (
    newO w (.cells #[] 120) fun g w_2 =>
    appO Try.prog [] w_2 120 2 16 22 (some ⟨g, 0, none⟩) 0 0 (.slice a0 n0 c0) fun m7 a7 c7 w_3 =>
    K (.slice a7 (0 + m7) c7) w_3
  )
def clone_notes : Notes := ⟨[], [], []⟩
theorem clone_calls (a0 : Option Addr) (n0 : Nat) (c0 : Nat) (w : World) (K : Value → World → Prop) (h : clone_vc a0 n0 c0 w K) : Calls Try.prog 96 #[.slice a0 n0 c0] w fun e w' => ∃ v, e = .returned v ∧ K v w' :=
  calls_of_fvc envOk Try.func96 clone_notes [] [.slice a0 n0 c0] w K (use_vc h (by as_aux_lemma => kernel_rfl))
/-- purser/tier.line -/
def line_vc (x0_0 : Int) (x0_1 : Int) (x0_2 : Int) (a0_3 : Option Addr) (n0_3 : Nat) (c0_3 : Nat) (x1 : Int) (x2 : Int) (w : World) (K : Value → World → Prop) : Prop :=
  newO w (.cells #[.int .i64 x0_0, .int .i64 x0_1, .int .i64 x0_2, .slice a0_3 n0_3 c0_3] 24) fun g w_2 =>
  newO w_2 (.cells #[.int .i64 0, .int .i64 0, .int .i64 0] 116) fun g_2 w_3 =>
  withP a0_3 fun g12 o12 =>
  (0 : Int) ≤ x1 ∧ x1 < (((n0_3 : Nat) : Int) : Int) ∧
  ∃ (x14 : Int), w_3.cell? ⟨g12, o12 + x1.toNat * 2 + 1, none⟩ = some (.int .i64 x14) ∧
  ∀ w_4 : World, BoxSt g_2 w_3 w_4 →
  K (.agg #[.int .i64 x1, .int .i64 x2, .int .i64 x14]) w_4
def line_notes : Notes := ⟨[], [], []⟩
theorem line_calls (x0_0 : Int) (x0_1 : Int) (x0_2 : Int) (a0_3 : Option Addr) (n0_3 : Nat) (c0_3 : Nat) (x1 : Int) (x2 : Int) (w : World) (K : Value → World → Prop) (h : line_vc x0_0 x0_1 x0_2 a0_3 n0_3 c0_3 x1 x2 w K) : Calls Try.prog 86 #[.agg #[.int .i64 x0_0, .int .i64 x0_1, .int .i64 x0_2, .slice a0_3 n0_3 c0_3], .int .i64 x1, .int .i64 x2] w fun e w' => ∃ v, e = .returned v ∧ K v w' :=
  calls_of_fvc envOk Try.func86 line_notes [3, 6] [.agg #[.int .i64 x0_0, .int .i64 x0_1, .int .i64 x0_2, .slice a0_3 n0_3 c0_3], .int .i64 x1, .int .i64 x2] w K (use_vc h (by as_aux_lemma => kernel_rfl))
/-- purser/tier.Index$1 -/
def index1_vc (x0_0 : Int) (x0_1 : Int) (p1 : Option Addr) (w : World) (K : Value → World → Prop) : Prop :=
  newO w (.cells #[.int .i64 x0_0, .int .i64 x0_1] 120) fun g w_2 =>
  br (decide (x0_0 = 0)) (
    K (.bool true) w_2
  ) (
    withP p1 fun g8 o8 =>
    ∃ (x8 : Int), w_2.cell? ⟨g8, o8, none⟩ = some (.int .i64 x8) ∧
    K (.bool (decide (x8 ≤ x0_0))) w_2
  )
def index1_notes : Notes := ⟨[], [], []⟩
theorem index1_calls (x0_0 : Int) (x0_1 : Int) (p1 : Option Addr) (w : World) (K : Value → World → Prop) (h : index1_vc x0_0 x0_1 p1 w K) : Calls Try.prog 100 #[.agg #[.int .i64 x0_0, .int .i64 x0_1], .pointer p1] w fun e w' => ∃ v, e = .returned v ∧ K v w' :=
  calls_of_fvc envOk Try.func100 index1_notes [2] [.agg #[.int .i64 x0_0, .int .i64 x0_1], .pointer p1] w K (use_vc h (by as_aux_lemma => kernel_rfl))
/-- slices.IndexFunc[[]purser/api.Tier,purser/api.Tier] -/
def indexf_vc (a0 : Option Addr) (n0 : Nat) (c0 : Nat) (p1_0 : Option Addr) (w : World) (K : Value → World → Prop) : Prop :=
  ∃ (I : Int → World → Prop) (μ : Int → World → Nat),
  I 0 w ∧
  ∀ (x8 : Int) (w_2 : World), I x8 w_2 →
  br (decide (x8 < ((n0 : Nat) : Int))) (
    withP a0 fun g14 o14 =>
    (0 : Int) ≤ x8 ∧ x8 < (((n0 : Nat) : Int) : Int) ∧
    ∃ (x15_0 : Int) (x15_1 : Int),
    cellsAt w_2 g14 (o14 + x8.toNat * 2) [.int .i64 x15_0, .int .i64 x15_1] ∧
    Calls Try.prog 100 #[.agg #[.int .i64 x15_0, .int .i64 x15_1], .pointer p1_0] w_2 fun e w_3 => KeepG [] w_2 w_3 ∧
    ∃ (b16 : Bool),
    e = .returned (.bool b16) ∧
    br b16 (
      K (.int .i64 x8) w_3
    ) (
      I (IntKind.i64.wrap (x8 + 1)) w_3 ∧ μ (IntKind.i64.wrap (x8 + 1)) w_3 < μ x8 w_2
    )
  ) (
    K (.int .i64 (-1)) w_2
  )
def indexf_notes : Notes := ⟨[], [(2, ⟨[(8, .lf (.int .i64))], [], [9, 10, 5, 11, 12, 13, 14, 15, 16, 17, 4, 18, 8], []⟩)], []⟩
theorem indexf_calls (a0 : Option Addr) (n0 : Nat) (c0 : Nat) (p1_0 : Option Addr) (w : World) (K : Value → World → Prop) (h : indexf_vc a0 n0 c0 p1_0 w K) : Calls Try.prog 99 #[.slice a0 n0 c0, .func (.func 100) #[] #[.pointer p1_0]] w fun e w' => ∃ v, e = .returned v ∧ K v w' :=
  calls_of_fvc envOk Try.func99 indexf_notes [] [.slice a0 n0 c0, .func (.func 100) #[] #[.pointer p1_0]] w K (use_vc h (by as_aux_lemma => kernel_rfl))
/-- purser/tier.Index -/
def index_vc (x0_0 : Int) (x0_1 : Int) (x0_2 : Int) (a0_3 : Option Addr) (n0_3 : Nat) (c0_3 : Nat) (x1 : Int) (w : World) (K : Value → World → Prop) : Prop :=
  newO w (.cells #[.int .i64 x0_0, .int .i64 x0_1, .int .i64 x0_2, .slice a0_3 n0_3 c0_3] 24) fun g w_2 =>
  newO w_2 (.cells #[.int .i64 x1] 3) fun g_2 w_3 =>
  ∃ (x5 : Int), w_3.cell? ⟨g_2, 0, none⟩ = some (.int .i64 x5) ∧
  br (decide (x5 < 1)) (
    K (.int .i64 (-1)) w_3
  ) (
    Calls Try.prog 58 #[.agg #[.int .i64 x0_0, .int .i64 x0_1, .int .i64 x0_2, .slice a0_3 n0_3 c0_3]] w_3 fun e w_4 => KeepG [g] w_3 w_4 ∧
    ∃ (x9 : Int),
    e = .returned (.int .i64 x9) ∧
    br (decide (x9 ≠ 0)) (
      K (.int .i64 (-1)) w_4
    ) (
      Calls Try.prog 99 #[.slice a0_3 n0_3 c0_3, .func (.func 100) #[] #[.pointer (some ⟨g_2, 0, none⟩)]] w_4 fun e_2 w_5 => KeepG [g] w_4 w_5 ∧
      ∃ (x15 : Int),
      e_2 = .returned (.int .i64 x15) ∧
      K (.int .i64 x15) w_5
    )
  )
def index_notes : Notes := ⟨[], [], []⟩
theorem index_calls (x0_0 : Int) (x0_1 : Int) (x0_2 : Int) (a0_3 : Option Addr) (n0_3 : Nat) (c0_3 : Nat) (x1 : Int) (w : World) (K : Value → World → Prop) (h : index_vc x0_0 x0_1 x0_2 a0_3 n0_3 c0_3 x1 w K) : Calls Try.prog 87 #[.agg #[.int .i64 x0_0, .int .i64 x0_1, .int .i64 x0_2, .slice a0_3 n0_3 c0_3], .int .i64 x1] w fun e w' => ∃ v, e = .returned v ∧ K v w' :=
  calls_of_fvc envOk Try.func87 index_notes [2] [.agg #[.int .i64 x0_0, .int .i64 x0_1, .int .i64 x0_2, .slice a0_3 n0_3 c0_3], .int .i64 x1] w K (use_vc h (by as_aux_lemma => kernel_rfl))
/-- purser/tier.Split -/
def split_vc (x0_0 : Int) (x0_1 : Int) (x0_2 : Int) (a0_3 : Option Addr) (n0_3 : Nat) (c0_3 : Nat) (x1 : Int) (x2 : Int) (w : World) (K : Value → World → Prop) : Prop :=
  newO w (.cells #[.int .i64 x0_0, .int .i64 x0_1, .int .i64 x0_2, .slice a0_3 n0_3 c0_3] 24) fun g w_2 =>
  Calls Try.prog 58 #[.agg #[.int .i64 x0_0, .int .i64 x0_1, .int .i64 x0_2, .slice a0_3 n0_3 c0_3]] w_2 fun e w_3 => KeepG [g] w_2 w_3 ∧
  ∃ (x13 : Int),
  e = .returned (.int .i64 x13) ∧
  br (decide (x13 ≠ 0)) (
    K (.tuple #[.slice none 0 0, .int .i64 1]) w_3
  ) (
    br (decide (x1 < 0)) (
      K (.tuple #[.slice none 0 0, .int .i64 1]) w_3
    ) (
      br (decide (x1 > 1099511627776)) (
        K (.tuple #[.slice none 0 0, .int .i64 1]) w_3
      ) (
        br (decide (x2 < 0)) (
          K (.tuple #[.slice none 0 0, .int .i64 1]) w_3
        ) (
          br (decide (x2 > 1073741824)) (
            K (.tuple #[.slice none 0 0, .int .i64 1]) w_3
          ) (
            ∃ (J : Bool → World → Prop), (
              br (decide (x0_1 = 2)) (
                J (decide (x2 > 0)) w_3
              ) (
                J false w_3
              )
            ) ∧
            ∀ (b37 : Bool) (w_4 : World), J b37 w_4 →
            br b37 (
              drewO w_4 fun w_5 =>
              Calls Try.prog 87 #[.agg #[.int .i64 x0_0, .int .i64 x0_1, .int .i64 x0_2, .slice a0_3 n0_3 c0_3], .int .i64 (IntKind.i64.wrap (x1 + x2))] w_5 fun e_2 w_6 => KeepG [g] w_5 w_6 ∧
              ∃ (x43 : Int),
              e_2 = .returned (.int .i64 x43) ∧
              Calls Try.prog 86 #[.agg #[.int .i64 x0_0, .int .i64 x0_1, .int .i64 x0_2, .slice a0_3 n0_3 c0_3], .int .i64 x43, .int .i64 x2] w_6 fun e_3 w_7 => KeepG [g] w_6 w_7 ∧
              ∃ (x45_0 : Int) (x45_1 : Int) (x45_2 : Int),
              e_3 = .returned (.agg #[.int .i64 x45_0, .int .i64 x45_1, .int .i64 x45_2]) ∧
              newO w_7 (.cells #[.int .i64 x45_0, .int .i64 x45_1, .int .i64 x45_2] 116) fun g_2 w_8 =>
              K (.tuple #[.slice (some ⟨g_2, 0, none⟩) 1 1, .int .i64 0]) w_8
            ) (
              ∃ (I : Int → Int → Option Addr → Nat → Nat → World → Prop) (μ : Int → Int → Option Addr → Nat → Nat → World → Nat),
              I x1 x2 none 0 0 w_4 ∧
              ∀ (x1_2 : Int) (x2_2 : Int) (a8 : Option Addr) (n8 : Nat) (c8 : Nat) (w_9 : World), I x1_2 x2_2 a8 n8 c8 w_9 →
              br (decide (x2_2 > 0)) (
                Calls Try.prog 87 #[.agg #[.int .i64 x0_0, .int .i64 x0_1, .int .i64 x0_2, .slice a0_3 n0_3 c0_3], .int .i64 (IntKind.i64.wrap (x1_2 + 1))] w_9 fun e_4 w_10 => KeepG [g] w_9 w_10 ∧
                ∃ (x52 : Int),
                e_4 = .returned (.int .i64 x52) ∧
                withP a0_3 fun g57 o57 =>
                (0 : Int) ≤ x52 ∧ x52 < (((n0_3 : Nat) : Int) : Int) ∧
                ∃ (x59 : Int), w_10.cell? ⟨g57, o57 + x52.toNat * 2, none⟩ = some (.int .i64 x59) ∧
                br (decide (x59 > 0)) (
                  Calls Try.prog 86 #[.agg #[.int .i64 x0_0, .int .i64 x0_1, .int .i64 x0_2, .slice a0_3 n0_3 c0_3], .int .i64 x52, .int .i64 (min x2_2 (IntKind.i64.wrap (x59 - x1_2)))] w_10 fun e_5 w_11 => KeepG [g] w_10 w_11 ∧
                  ∃ (x71_0 : Int) (x71_1 : Int) (x71_2 : Int),
                  e_5 = .returned (.agg #[.int .i64 x71_0, .int .i64 x71_1, .int .i64 x71_2]) ∧
                  newO w_11 (.cells #[.int .i64 x71_0, .int .i64 x71_1, .int .i64 x71_2] 116) fun g_3 w_12 =>
                  appO Try.prog [g] w_12 116 3 24 51 a8 n8 c8 (.slice (some ⟨g_3, 0, none⟩) 1 1) fun m73 a73 c73 w_13 =>
                  I (IntKind.i64.wrap (x1_2 + (min x2_2 (IntKind.i64.wrap (x59 - x1_2))))) (IntKind.i64.wrap (x2_2 - (min x2_2 (IntKind.i64.wrap (x59 - x1_2))))) a73 (n8 + m73) c73 w_13 ∧ μ (IntKind.i64.wrap (x1_2 + (min x2_2 (IntKind.i64.wrap (x59 - x1_2))))) (IntKind.i64.wrap (x2_2 - (min x2_2 (IntKind.i64.wrap (x59 - x1_2))))) a73 (n8 + m73) c73 w_13 < μ x1_2 x2_2 a8 n8 c8 w_9
                ) (
                  Calls Try.prog 86 #[.agg #[.int .i64 x0_0, .int .i64 x0_1, .int .i64 x0_2, .slice a0_3 n0_3 c0_3], .int .i64 x52, .int .i64 x2_2] w_10 fun e_6 w_14 => KeepG [g] w_10 w_14 ∧
                  ∃ (x71_0_2 : Int) (x71_1_2 : Int) (x71_2_2 : Int),
                  e_6 = .returned (.agg #[.int .i64 x71_0_2, .int .i64 x71_1_2, .int .i64 x71_2_2]) ∧
                  newO w_14 (.cells #[.int .i64 x71_0_2, .int .i64 x71_1_2, .int .i64 x71_2_2] 116) fun g_4 w_15 =>
                  appO Try.prog [g] w_15 116 3 24 51 a8 n8 c8 (.slice (some ⟨g_4, 0, none⟩) 1 1) fun m73_2 a73_2 c73_2 w_16 =>
                  I (IntKind.i64.wrap (x1_2 + x2_2)) (IntKind.i64.wrap (x2_2 - x2_2)) a73_2 (n8 + m73_2) c73_2 w_16 ∧ μ (IntKind.i64.wrap (x1_2 + x2_2)) (IntKind.i64.wrap (x2_2 - x2_2)) a73_2 (n8 + m73_2) c73_2 w_16 < μ x1_2 x2_2 a8 n8 c8 w_9
                )
              ) (
                K (.tuple #[.slice a8 n8 c8, .int .i64 0]) w_9
              )
            )
          )
        )
      )
    )
  )
def split_notes : Notes := ⟨[(4, ⟨[0, 0, 0, 0, 12, 30, 0, 127, 255, 511, 1023], [5, 7, 8], [0, 1, 2, 3, 4, 6, 9, 10]⟩)], [(6, ⟨[(1, .lf (.int .i64)), (2, .lf (.int .i64)), (8, .lf (.slice))], [], [47, 48, 49, 50, 51, 52, 9, 53, 10, 54, 55, 56, 57, 58, 59, 11, 60, 61, 62, 63, 64, 65, 66, 67, 68, 69, 70, 71, 72, 73, 8, 74, 75, 76, 1, 77, 78, 79, 2], []⟩)], [((0, 3), ⟨[(37, .lf (.bool))], [], [31, 32, 33, 34, 35, 36, 37], []⟩)]⟩
theorem split_calls (x0_0 : Int) (x0_1 : Int) (x0_2 : Int) (a0_3 : Option Addr) (n0_3 : Nat) (c0_3 : Nat) (x1 : Int) (x2 : Int) (w : World) (K : Value → World → Prop) (h : split_vc x0_0 x0_1 x0_2 a0_3 n0_3 c0_3 x1 x2 w K) : Calls Try.prog 63 #[.agg #[.int .i64 x0_0, .int .i64 x0_1, .int .i64 x0_2, .slice a0_3 n0_3 c0_3], .int .i64 x1, .int .i64 x2] w fun e w' => ∃ v, e = .returned v ∧ K v w' :=
  calls_of_fvc envOk Try.func63 split_notes [3] [.agg #[.int .i64 x0_0, .int .i64 x0_1, .int .i64 x0_2, .slice a0_3 n0_3 c0_3], .int .i64 x1, .int .i64 x2] w K (use_vc h (by as_aux_lemma => kernel_rfl))
/-- purser/tier.Cost -/
def cost_vc (a0 : Option Addr) (n0 : Nat) (c0 : Nat) (w : World) (K : Value → World → Prop) : Prop :=
  ∃ (I : Option Addr → Nat → Nat → Int → World → Prop) (μ : Option Addr → Nat → Nat → Int → World → Nat),
  I none 0 0 0 w ∧
  ∀ (a4 : Option Addr) (n4 : Nat) (c4 : Nat) (x11 : Int) (w_2 : World), I a4 n4 c4 x11 w_2 →
  br (decide (x11 < ((n0 : Nat) : Int))) (
    withP a0 fun g13 o13 =>
    (0 : Int) ≤ x11 ∧ x11 < (((n0 : Nat) : Int) : Int) ∧
    ∃ (x14_0 : Int) (x14_1 : Int) (x14_2 : Int),
    cellsAt w_2 g13 (o13 + x11.toNat * 3) [.int .i64 x14_0, .int .i64 x14_1, .int .i64 x14_2] ∧
    newO w_2 (.cells #[.int .i64 0, .int .i64 0, .int .i64 0] 116) fun g w_3 =>
    ∀ w_4 : World, BoxSt g w_3 w_4 →
    Calls Try.prog 71 #[.int .i64 x14_1, .int .i64 x14_2] w_4 fun e w_5 => KeepG [g] w_4 w_5 ∧
    ∃ (x20_0 : Int) (b20_1 : Bool),
    e = .returned (.tuple #[.int .i64 x20_0, .bool b20_1]) ∧
    br (!b20_1) (
      K (.tuple #[.int .i64 0, .bool false]) w_5
    ) (
      newO w_5 (.cells #[.int .i64 x20_0] 3) fun g_2 w_6 =>
      appO Try.prog [g] w_6 3 1 8 45 a4 n4 c4 (.slice (some ⟨g_2, 0, none⟩) 1 1) fun m28 a28 c28 w_7 =>
      I a28 (n4 + m28) c28 (IntKind.i64.wrap (x11 + 1)) w_7 ∧ μ a28 (n4 + m28) c28 (IntKind.i64.wrap (x11 + 1)) w_7 < μ a4 n4 c4 x11 w_2
    )
  ) (
    Calls Try.prog 66 #[.slice a4 n4 c4] w_2 fun e_2 w_8 => KeepG [] w_2 w_8 ∧
    ∃ (x31_0 : Int) (b31_1 : Bool),
    e_2 = .returned (.tuple #[.int .i64 x31_0, .bool b31_1]) ∧
    K (.tuple #[.int .i64 x31_0, .bool b31_1]) w_8
  )
def cost_notes : Notes := ⟨[], [(3, ⟨[(4, .lf (.slice)), (11, .lf (.int .i64))], [], [12, 13, 14, 6, 16, 17, 18, 19, 20, 15, 21, 22, 7, 8, 23, 24, 2, 3, 25, 26, 27, 28, 4, 29, 11], [6]⟩)], []⟩
theorem cost_calls (a0 : Option Addr) (n0 : Nat) (c0 : Nat) (w : World) (K : Value → World → Prop) (h : cost_vc a0 n0 c0 w K) : Calls Try.prog 64 #[.slice a0 n0 c0] w fun e w' => ∃ v, e = .returned v ∧ K v w' :=
  calls_of_fvc envOk Try.func64 cost_notes [6] [.slice a0 n0 c0] w K (use_vc h (by as_aux_lemma => kernel_rfl))
/-- purser/tier.Blocks -/
def tblocks_vc (a0 : Option Addr) (n0 : Nat) (c0 : Nat) (w : World) (K : Value → World → Prop) : Prop :=
  ∃ (I : Option Addr → Nat → Nat → Int → World → Prop) (μ : Option Addr → Nat → Nat → Int → World → Nat),
  I none 0 0 0 w ∧
  ∀ (a4 : Option Addr) (n4 : Nat) (c4 : Nat) (x9 : Int) (w_2 : World), I a4 n4 c4 x9 w_2 →
  br (decide (x9 < ((n0 : Nat) : Int))) (
    withP a0 fun g11 o11 =>
    (0 : Int) ≤ x9 ∧ x9 < (((n0 : Nat) : Int) : Int) ∧
    ∃ (x12_0 : Int) (x12_1 : Int) (x12_2 : Int),
    cellsAt w_2 g11 (o11 + x9.toNat * 3) [.int .i64 x12_0, .int .i64 x12_1, .int .i64 x12_2] ∧
    newO w_2 (.cells #[.int .i64 0, .int .i64 0, .int .i64 0] 116) fun g w_3 =>
    ∀ w_4 : World, BoxSt g w_3 w_4 →
    newO w_4 (.cells #[.int .i64 x12_1] 3) fun g_2 w_5 =>
    appO Try.prog [g] w_5 3 1 8 45 a4 n4 c4 (.slice (some ⟨g_2, 0, none⟩) 1 1) fun m17 a17 c17 w_6 =>
    I a17 (n4 + m17) c17 (IntKind.i64.wrap (x9 + 1)) w_6 ∧ μ a17 (n4 + m17) c17 (IntKind.i64.wrap (x9 + 1)) w_6 < μ a4 n4 c4 x9 w_2
  ) (
    Calls Try.prog 66 #[.slice a4 n4 c4] w_2 fun e w_7 => KeepG [] w_2 w_7 ∧
    ∃ (x20_0 : Int) (b20_1 : Bool),
    e = .returned (.tuple #[.int .i64 x20_0, .bool b20_1]) ∧
    K (.tuple #[.int .i64 x20_0, .bool b20_1]) w_7
  )
def tblocks_notes : Notes := ⟨[], [(3, ⟨[(4, .lf (.slice)), (9, .lf (.int .i64))], [], [10, 11, 12, 6, 13, 14, 15, 16, 17, 4, 18, 9], [6]⟩)], []⟩
theorem tblocks_calls (a0 : Option Addr) (n0 : Nat) (c0 : Nat) (w : World) (K : Value → World → Prop) (h : tblocks_vc a0 n0 c0 w K) : Calls Try.prog 25 #[.slice a0 n0 c0] w fun e w' => ∃ v, e = .returned v ∧ K v w' :=
  calls_of_fvc envOk Try.func25 tblocks_notes [6] [.slice a0 n0 c0] w K (use_vc h (by as_aux_lemma => kernel_rfl))
/-- purser/rate.units -/
def units_vc (x0 : Int) (w : World) (K : Value → World → Prop) : Prop :=
  br (decide (x0 ≥ 0)) (
    K (.bool (decide (x0 ≤ 1073741824))) w
  ) (
    K (.bool false) w
  )
def units_notes : Notes := ⟨[], [], []⟩
theorem units_calls (x0 : Int) (w : World) (K : Value → World → Prop) (h : units_vc x0 w K) : Calls Try.prog 61 #[.int .i64 x0] w fun e w' => ∃ v, e = .returned v ∧ K v w' :=
  calls_of_fvc envOk Try.func61 units_notes [] [.int .i64 x0] w K (use_vc h (by as_aux_lemma => kernel_rfl))
/-- purser/rate.Rate -/
def rate_vc (x0_0 : Int) (x0_1 : Int) (x0_2 : Int) (x0_3 : Int) (x0_4 : Int) (x0_5 : Int) (a0_6 : Option Addr) (n0_6 : Nat) (c0_6 : Nat) (x0_7 : Int) (x0_8 : Int) (x0_9 : Int) (a0_10 : Option Addr) (n0_10 : Nat) (c0_10 : Nat) (x1 : Int) (x2 : Int) (x3 : Int) (w : World) (K : Value → World → Prop) : Prop :=
  newO w (.cells #[.int .i64 x0_0, .int .i64 x0_1, .int .i64 x0_2, .int .i64 x0_3, .int .i64 x0_4, .int .i64 x0_5, .slice a0_6 n0_6 c0_6, .int .i64 x0_7, .int .i64 x0_8, .int .i64 x0_9, .slice a0_10 n0_10 c0_10] 32) fun g w_2 =>
  newO w_2 (.cells #[.slice none 0 0, .int .i64 0, .int .i64 0, .int .i64 0] 53) fun g_2 w_3 =>
  Calls Try.prog 22 #[.agg #[.int .i64 x0_0, .int .i64 x0_1, .int .i64 x0_2, .int .i64 x0_3, .int .i64 x0_4, .int .i64 x0_5, .slice a0_6 n0_6 c0_6, .int .i64 x0_7, .int .i64 x0_8, .int .i64 x0_9, .slice a0_10 n0_10 c0_10]] w_3 fun e w_4 => KeepG [g_2, g] w_3 w_4 ∧
  ∃ (x18 : Int),
  e = .returned (.int .i64 x18) ∧
  br (decide (x18 ≠ 0)) (
    ∀ w_5 : World, BoxSt g_2 w_4 w_5 →
    K (.tuple #[.agg #[.slice none 0 0, .int .i64 0, .int .i64 0, .int .i64 0], .int .i64 1]) w_5
  ) (
    br (decide (x1 < 0)) (
      ∀ w_6 : World, BoxSt g_2 w_4 w_6 →
      K (.tuple #[.agg #[.slice none 0 0, .int .i64 0, .int .i64 0, .int .i64 0], .int .i64 1]) w_6
    ) (
      Calls Try.prog 61 #[.int .i64 x3] w_4 fun e_2 w_7 => KeepG [g_2, g] w_4 w_7 ∧
      ∃ (b26 : Bool),
      e_2 = .returned (.bool b26) ∧
      br (!b26) (
        ∀ w_8 : World, BoxSt g_2 w_7 w_8 →
        K (.tuple #[.agg #[.slice none 0 0, .int .i64 0, .int .i64 0, .int .i64 0], .int .i64 1]) w_8
      ) (
        Calls Try.prog 45 #[.agg #[.int .i64 x0_0, .int .i64 x0_1, .int .i64 x0_2, .int .i64 x0_3, .int .i64 x0_4, .int .i64 x0_5, .slice a0_6 n0_6 c0_6, .int .i64 x0_7, .int .i64 x0_8, .int .i64 x0_9, .slice a0_10 n0_10 c0_10], .int .i64 x1] w_7 fun e_3 w_9 => KeepG [g_2, g] w_7 w_9 ∧
        ∃ (x33_0_0 : Int) (x33_0_1 : Int) (x33_0_2 : Int) (a33_0_3 : Option Addr) (n33_0_3 : Nat) (c33_0_3 : Nat) (b33_1 : Bool),
        e_3 = .returned (.tuple #[.agg #[.int .i64 x33_0_0, .int .i64 x33_0_1, .int .i64 x33_0_2, .slice a33_0_3 n33_0_3 c33_0_3], .bool b33_1]) ∧
        newO w_9 (.cells #[.int .i64 0, .int .i64 0, .int .i64 0, .slice none 0 0] 24) fun g_3 w_10 =>
        ∀ w_11 : World, BoxSt g_3 w_10 w_11 →
        Calls Try.prog 62 #[.int .i64 x3, .int .i64 x33_0_2] w_11 fun e_4 w_12 => KeepG [g_3, g_2, g] w_11 w_12 ∧
        ∃ (x40_0 : Int) (b40_1 : Bool),
        e_4 = .returned (.tuple #[.int .i64 x40_0, .bool b40_1]) ∧
        br (!b40_1) (
          ∀ w_13 : World, BoxSt g_2 w_12 w_13 →
          K (.tuple #[.agg #[.slice none 0 0, .int .i64 0, .int .i64 0, .int .i64 0], .int .i64 1]) w_13
        ) (
          Calls Try.prog 63 #[.agg #[.int .i64 x33_0_0, .int .i64 x33_0_1, .int .i64 x33_0_2, .slice a33_0_3 n33_0_3 c33_0_3], .int .i64 x2, .int .i64 x40_0] w_12 fun e_5 w_14 => KeepG [g_3, g_2, g] w_12 w_14 ∧
          ∃ (a50_0 : Option Addr) (n50_0 : Nat) (c50_0 : Nat) (x50_1 : Int),
          e_5 = .returned (.tuple #[.slice a50_0 n50_0 c50_0, .int .i64 x50_1]) ∧
          br (decide (x50_1 ≠ 0)) (
            ∀ w_15 : World, BoxSt g_2 w_14 w_15 →
            K (.tuple #[.agg #[.slice none 0 0, .int .i64 0, .int .i64 0, .int .i64 0], .int .i64 1]) w_15
          ) (
            Calls Try.prog 64 #[.slice a50_0 n50_0 c50_0] w_14 fun e_6 w_16 => KeepG [g_3, g_2, g] w_14 w_16 ∧
            ∃ (x58_0 : Int) (b58_1 : Bool),
            e_6 = .returned (.tuple #[.int .i64 x58_0, .bool b58_1]) ∧
            br (!b58_1) (
              ∀ w_17 : World, BoxSt g_2 w_16 w_17 →
              K (.tuple #[.agg #[.slice none 0 0, .int .i64 0, .int .i64 0, .int .i64 0], .int .i64 1]) w_17
            ) (
              ∀ w_18 : World, BoxSt g_2 w_16 w_18 →
              K (.tuple #[.agg #[.slice a50_0 n50_0 c50_0, .int .i64 x40_0, .int .i64 x58_0, .int .i64 (IntKind.i64.wrap (x2 + x40_0))], .int .i64 0]) w_18
            )
          )
        )
      )
    )
  )
def rate_notes : Notes := ⟨[], [], []⟩
theorem rate_calls (x0_0 : Int) (x0_1 : Int) (x0_2 : Int) (x0_3 : Int) (x0_4 : Int) (x0_5 : Int) (a0_6 : Option Addr) (n0_6 : Nat) (c0_6 : Nat) (x0_7 : Int) (x0_8 : Int) (x0_9 : Int) (a0_10 : Option Addr) (n0_10 : Nat) (c0_10 : Nat) (x1 : Int) (x2 : Int) (x3 : Int) (w : World) (K : Value → World → Prop) (h : rate_vc x0_0 x0_1 x0_2 x0_3 x0_4 x0_5 a0_6 n0_6 c0_6 x0_7 x0_8 x0_9 a0_10 n0_10 c0_10 x1 x2 x3 w K) : Calls Try.prog 23 #[.agg #[.int .i64 x0_0, .int .i64 x0_1, .int .i64 x0_2, .int .i64 x0_3, .int .i64 x0_4, .int .i64 x0_5, .slice a0_6 n0_6 c0_6, .int .i64 x0_7, .int .i64 x0_8, .int .i64 x0_9, .slice a0_10 n0_10 c0_10], .int .i64 x1, .int .i64 x2, .int .i64 x3] w fun e w' => ∃ v, e = .returned v ∧ K v w' :=
  calls_of_fvc envOk Try.func23 rate_notes [4, 8, 10] [.agg #[.int .i64 x0_0, .int .i64 x0_1, .int .i64 x0_2, .int .i64 x0_3, .int .i64 x0_4, .int .i64 x0_5, .slice a0_6 n0_6 c0_6, .int .i64 x0_7, .int .i64 x0_8, .int .i64 x0_9, .slice a0_10 n0_10 c0_10], .int .i64 x1, .int .i64 x2, .int .i64 x3] w K (use_vc h (by as_aux_lemma => kernel_rfl))
/-- purser/rate.dearest -/
def rdearest_vc (x0_0 : Int) (x0_1 : Int) (x0_2 : Int) (x0_3 : Int) (x0_4 : Int) (x0_5 : Int) (a0_6 : Option Addr) (n0_6 : Nat) (c0_6 : Nat) (x0_7 : Int) (x0_8 : Int) (x0_9 : Int) (a0_10 : Option Addr) (n0_10 : Nat) (c0_10 : Nat) (w : World) (K : Value → World → Prop) : Prop :=
  newO w (.cells #[.int .i64 x0_0, .int .i64 x0_1, .int .i64 x0_2, .int .i64 x0_3, .int .i64 x0_4, .int .i64 x0_5, .slice a0_6 n0_6 c0_6, .int .i64 x0_7, .int .i64 x0_8, .int .i64 x0_9, .slice a0_10 n0_10 c0_10] 32) fun g w_2 =>
  drewO w_2 fun w_3 =>
  Calls Try.prog 46 #[.agg #[.int .i64 x0_3, .int .i64 x0_4, .int .i64 x0_5, .slice a0_6 n0_6 c0_6]] w_3 fun e w_4 => KeepG [g] w_3 w_4 ∧
  ∃ (x5 : Int),
  e = .returned (.int .i64 x5) ∧
  Calls Try.prog 46 #[.agg #[.int .i64 x0_7, .int .i64 x0_8, .int .i64 x0_9, .slice a0_10 n0_10 c0_10]] w_4 fun e_2 w_5 => KeepG [g] w_4 w_5 ∧
  ∃ (x8 : Int),
  e_2 = .returned (.int .i64 x8) ∧
  K (.int .i64 (max x5 x8)) w_5
def rdearest_notes : Notes := ⟨[(1, ⟨[0, 1, 3, 0, 8, 31, 63, 127], [2, 5], [0, 1, 3, 4, 6, 7]⟩)], [], []⟩
theorem rdearest_calls (x0_0 : Int) (x0_1 : Int) (x0_2 : Int) (x0_3 : Int) (x0_4 : Int) (x0_5 : Int) (a0_6 : Option Addr) (n0_6 : Nat) (c0_6 : Nat) (x0_7 : Int) (x0_8 : Int) (x0_9 : Int) (a0_10 : Option Addr) (n0_10 : Nat) (c0_10 : Nat) (w : World) (K : Value → World → Prop) (h : rdearest_vc x0_0 x0_1 x0_2 x0_3 x0_4 x0_5 a0_6 n0_6 c0_6 x0_7 x0_8 x0_9 a0_10 n0_10 c0_10 w K) : Calls Try.prog 65 #[.agg #[.int .i64 x0_0, .int .i64 x0_1, .int .i64 x0_2, .int .i64 x0_3, .int .i64 x0_4, .int .i64 x0_5, .slice a0_6 n0_6 c0_6, .int .i64 x0_7, .int .i64 x0_8, .int .i64 x0_9, .slice a0_10 n0_10 c0_10]] w fun e w' => ∃ v, e = .returned v ∧ K v w' :=
  calls_of_fvc envOk Try.func65 rdearest_notes [1] [.agg #[.int .i64 x0_0, .int .i64 x0_1, .int .i64 x0_2, .int .i64 x0_3, .int .i64 x0_4, .int .i64 x0_5, .slice a0_6 n0_6 c0_6, .int .i64 x0_7, .int .i64 x0_8, .int .i64 x0_9, .slice a0_10 n0_10 c0_10]] w K (use_vc h (by as_aux_lemma => kernel_rfl))
/-- purser/rate.Worst -/
def worst_vc (x0_0 : Int) (x0_1 : Int) (x0_2 : Int) (x0_3 : Int) (x0_4 : Int) (x0_5 : Int) (a0_6 : Option Addr) (n0_6 : Nat) (c0_6 : Nat) (x0_7 : Int) (x0_8 : Int) (x0_9 : Int) (a0_10 : Option Addr) (n0_10 : Nat) (c0_10 : Nat) (x1 : Int) (w : World) (K : Value → World → Prop) : Prop :=
  newO w (.cells #[.int .i64 x0_0, .int .i64 x0_1, .int .i64 x0_2, .int .i64 x0_3, .int .i64 x0_4, .int .i64 x0_5, .slice a0_6 n0_6 c0_6, .int .i64 x0_7, .int .i64 x0_8, .int .i64 x0_9, .slice a0_10 n0_10 c0_10] 32) fun g w_2 =>
  Calls Try.prog 22 #[.agg #[.int .i64 x0_0, .int .i64 x0_1, .int .i64 x0_2, .int .i64 x0_3, .int .i64 x0_4, .int .i64 x0_5, .slice a0_6 n0_6 c0_6, .int .i64 x0_7, .int .i64 x0_8, .int .i64 x0_9, .slice a0_10 n0_10 c0_10]] w_2 fun e w_3 => KeepG [g] w_2 w_3 ∧
  ∃ (x9 : Int),
  e = .returned (.int .i64 x9) ∧
  br (decide (x9 ≠ 0)) (
    K (.tuple #[.int .i64 0, .int .i64 1]) w_3
  ) (
    Calls Try.prog 61 #[.int .i64 x1] w_3 fun e_2 w_4 => KeepG [g] w_3 w_4 ∧
    ∃ (b13 : Bool),
    e_2 = .returned (.bool b13) ∧
    br (!b13) (
      K (.tuple #[.int .i64 0, .int .i64 1]) w_4
    ) (
      Calls Try.prog 62 #[.int .i64 x1, .int .i64 x0_5] w_4 fun e_3 w_5 => KeepG [g] w_4 w_5 ∧
      ∃ (x21_0 : Int) (b21_1 : Bool),
      e_3 = .returned (.tuple #[.int .i64 x21_0, .bool b21_1]) ∧
      br (!b21_1) (
        K (.tuple #[.int .i64 0, .int .i64 1]) w_5
      ) (
        Calls Try.prog 65 #[.agg #[.int .i64 x0_0, .int .i64 x0_1, .int .i64 x0_2, .int .i64 x0_3, .int .i64 x0_4, .int .i64 x0_5, .slice a0_6 n0_6 c0_6, .int .i64 x0_7, .int .i64 x0_8, .int .i64 x0_9, .slice a0_10 n0_10 c0_10]] w_5 fun e_4 w_6 => KeepG [g] w_5 w_6 ∧
        ∃ (x28 : Int),
        e_4 = .returned (.int .i64 x28) ∧
        K (.tuple #[.int .i64 (IntKind.i64.wrap (x21_0 * x28)), .int .i64 0]) w_6
      )
    )
  )
def worst_notes : Notes := ⟨[], [], []⟩
theorem worst_calls (x0_0 : Int) (x0_1 : Int) (x0_2 : Int) (x0_3 : Int) (x0_4 : Int) (x0_5 : Int) (a0_6 : Option Addr) (n0_6 : Nat) (c0_6 : Nat) (x0_7 : Int) (x0_8 : Int) (x0_9 : Int) (a0_10 : Option Addr) (n0_10 : Nat) (c0_10 : Nat) (x1 : Int) (w : World) (K : Value → World → Prop) (h : worst_vc x0_0 x0_1 x0_2 x0_3 x0_4 x0_5 a0_6 n0_6 c0_6 x0_7 x0_8 x0_9 a0_10 n0_10 c0_10 x1 w K) : Calls Try.prog 24 #[.agg #[.int .i64 x0_0, .int .i64 x0_1, .int .i64 x0_2, .int .i64 x0_3, .int .i64 x0_4, .int .i64 x0_5, .slice a0_6 n0_6 c0_6, .int .i64 x0_7, .int .i64 x0_8, .int .i64 x0_9, .slice a0_10 n0_10 c0_10], .int .i64 x1] w fun e w' => ∃ v, e = .returned v ∧ K v w' :=
  calls_of_fvc envOk Try.func24 worst_notes [2] [.agg #[.int .i64 x0_0, .int .i64 x0_1, .int .i64 x0_2, .int .i64 x0_3, .int .i64 x0_4, .int .i64 x0_5, .slice a0_6 n0_6 c0_6, .int .i64 x0_7, .int .i64 x0_8, .int .i64 x0_9, .slice a0_10 n0_10 c0_10], .int .i64 x1] w K (use_vc h (by as_aux_lemma => kernel_rfl))
/-- purser/rate.Fit -/
def fit_vc (x0_0 : Int) (x0_1 : Int) (x0_2 : Int) (x0_3 : Int) (x0_4 : Int) (x0_5 : Int) (a0_6 : Option Addr) (n0_6 : Nat) (c0_6 : Nat) (x0_7 : Int) (x0_8 : Int) (x0_9 : Int) (a0_10 : Option Addr) (n0_10 : Nat) (c0_10 : Nat) (x1 : Int) (x2 : Int) (w : World) (K : Value → World → Prop) : Prop :=
  newO w (.cells #[.int .i64 x0_0, .int .i64 x0_1, .int .i64 x0_2, .int .i64 x0_3, .int .i64 x0_4, .int .i64 x0_5, .slice a0_6 n0_6 c0_6, .int .i64 x0_7, .int .i64 x0_8, .int .i64 x0_9, .slice a0_10 n0_10 c0_10] 32) fun g w_2 =>
  Calls Try.prog 22 #[.agg #[.int .i64 x0_0, .int .i64 x0_1, .int .i64 x0_2, .int .i64 x0_3, .int .i64 x0_4, .int .i64 x0_5, .slice a0_6 n0_6 c0_6, .int .i64 x0_7, .int .i64 x0_8, .int .i64 x0_9, .slice a0_10 n0_10 c0_10]] w_2 fun e w_3 => KeepG [g] w_2 w_3 ∧
  ∃ (x16 : Int),
  e = .returned (.int .i64 x16) ∧
  br (decide (x16 ≠ 0)) (
    K (.tuple #[.int .i64 0, .int .i64 0, .int .i64 1]) w_3
  ) (
    Calls Try.prog 61 #[.int .i64 x2] w_3 fun e_2 w_4 => KeepG [g] w_3 w_4 ∧
    ∃ (b20 : Bool),
    e_2 = .returned (.bool b20) ∧
    br (!b20) (
      K (.tuple #[.int .i64 0, .int .i64 0, .int .i64 1]) w_4
    ) (
      br (decide (x1 < 0)) (
        K (.tuple #[.int .i64 0, .int .i64 0, .int .i64 1]) w_4
      ) (
        Calls Try.prog 65 #[.agg #[.int .i64 x0_0, .int .i64 x0_1, .int .i64 x0_2, .int .i64 x0_3, .int .i64 x0_4, .int .i64 x0_5, .slice a0_6 n0_6 c0_6, .int .i64 x0_7, .int .i64 x0_8, .int .i64 x0_9, .slice a0_10 n0_10 c0_10]] w_4 fun e_3 w_5 => KeepG [g] w_4 w_5 ∧
        ∃ (x29 : Int),
        e_3 = .returned (.int .i64 x29) ∧
        ∃ (J : Int → World → Prop), (
          br (decide (x29 > 0)) (
            drewO w_5 fun w_6 =>
            (x29 : Int) ≠ 0 ∧
            Calls Try.prog 71 #[.int .i64 (IntKind.i64.wrap (Int.tdiv x1 x29)), .int .i64 x0_5] w_6 fun e_4 w_7 => KeepG [g] w_6 w_7 ∧
            ∃ (x39_0 : Int) (b39_1 : Bool),
            e_4 = .returned (.tuple #[.int .i64 x39_0, .bool b39_1]) ∧
            br b39_1 (
              J (min x2 x39_0) w_7
            ) (
              J x2 w_7
            )
          ) (
            J x2 w_5
          )
        ) ∧
        ∀ (x9 : Int) (w_8 : World), J x9 w_8 →
        Calls Try.prog 24 #[.agg #[.int .i64 x0_0, .int .i64 x0_1, .int .i64 x0_2, .int .i64 x0_3, .int .i64 x0_4, .int .i64 x0_5, .slice a0_6 n0_6 c0_6, .int .i64 x0_7, .int .i64 x0_8, .int .i64 x0_9, .slice a0_10 n0_10 c0_10], .int .i64 x9] w_8 fun e_5 w_9 => KeepG [g] w_8 w_9 ∧
        ∃ (x49_0 : Int) (x49_1 : Int),
        e_5 = .returned (.tuple #[.int .i64 x49_0, .int .i64 x49_1]) ∧
        K (.tuple #[.int .i64 x9, .int .i64 x49_0, .int .i64 x49_1]) w_9
      )
    )
  )
def fit_notes : Notes := ⟨[(6, ⟨[0, 0, 3, 0, 8, 24, 63, 127, 255, 255, 511, 2047], [6], [0, 1, 2, 3, 4, 5, 7, 8, 9, 10, 11]⟩)], [], [((1, 6), ⟨[(9, .lf (.int .i64))], [], [33, 34, 35, 36, 37, 38, 39, 32, 40, 41, 11, 12, 42, 43, 44, 45, 9], []⟩)]⟩
theorem fit_calls (x0_0 : Int) (x0_1 : Int) (x0_2 : Int) (x0_3 : Int) (x0_4 : Int) (x0_5 : Int) (a0_6 : Option Addr) (n0_6 : Nat) (c0_6 : Nat) (x0_7 : Int) (x0_8 : Int) (x0_9 : Int) (a0_10 : Option Addr) (n0_10 : Nat) (c0_10 : Nat) (x1 : Int) (x2 : Int) (w : World) (K : Value → World → Prop) (h : fit_vc x0_0 x0_1 x0_2 x0_3 x0_4 x0_5 a0_6 n0_6 c0_6 x0_7 x0_8 x0_9 a0_10 n0_10 c0_10 x1 x2 w K) : Calls Try.prog 33 #[.agg #[.int .i64 x0_0, .int .i64 x0_1, .int .i64 x0_2, .int .i64 x0_3, .int .i64 x0_4, .int .i64 x0_5, .slice a0_6 n0_6 c0_6, .int .i64 x0_7, .int .i64 x0_8, .int .i64 x0_9, .slice a0_10 n0_10 c0_10], .int .i64 x1, .int .i64 x2] w fun e w' => ∃ v, e = .returned v ∧ K v w' :=
  calls_of_fvc envOk Try.func33 fit_notes [3] [.agg #[.int .i64 x0_0, .int .i64 x0_1, .int .i64 x0_2, .int .i64 x0_3, .int .i64 x0_4, .int .i64 x0_5, .slice a0_6 n0_6 c0_6, .int .i64 x0_7, .int .i64 x0_8, .int .i64 x0_9, .slice a0_10 n0_10 c0_10], .int .i64 x1, .int .i64 x2] w K (use_vc h (by as_aux_lemma => kernel_rfl))
/-- purser/purserref09.Check -/
def rcheck_vc (x0_0 : Int) (x0_1 : Int) (x0_2 : Int) (a0_3 : Option Addr) (n0_3 : Nat) (c0_3 : Nat) (w : World) (K : Value → World → Prop) : Prop :=
  newO w (.cells #[.int .i64 x0_0, .int .i64 x0_1, .int .i64 x0_2, .slice a0_3 n0_3 c0_3] 24) fun g w_2 =>
  br (decide (x0_0 < 1)) (
    K (.int .i64 1) w_2
  ) (
    br (decide (x0_0 > 8)) (
      K (.int .i64 1) w_2
    ) (
      br (decide (x0_2 < 1)) (
        K (.int .i64 1) w_2
      ) (
        br (decide (x0_2 > 1073741824)) (
          K (.int .i64 1) w_2
        ) (
          ∃ (J : Bool → World → Prop), (
            br (decide (x0_1 ≠ 1)) (
              J (decide (x0_1 ≠ 2)) w_2
            ) (
              J false w_2
            )
          ) ∧
          ∀ (b31 : Bool) (w_3 : World), J b31 w_3 →
          br b31 (
            K (.int .i64 21) w_3
          ) (
            br (decide (((n0_3 : Nat) : Int) < 1)) (
              K (.int .i64 5) w_3
            ) (
              br (decide (((n0_3 : Nat) : Int) > 6)) (
                K (.int .i64 5) w_3
              ) (
                ∃ (I : Int → Int → World → Prop) (μ : Int → Int → World → Nat),
                I 0 0 w_3 ∧
                ∀ (x3 : Int) (x4 : Int) (w_4 : World), I x3 x4 w_4 →
                br (decide (x4 < ((n0_3 : Nat) : Int))) (
                  withP a0_3 fun g52 o52 =>
                  (0 : Int) ≤ x4 ∧ x4 < (((n0_3 : Nat) : Int) : Int) ∧
                  ∃ (x53_0 : Int) (x53_1 : Int),
                  cellsAt w_4 g52 (o52 + x4.toNat * 2) [.int .i64 x53_0, .int .i64 x53_1] ∧
                  newO w_4 (.cells #[.int .i64 0, .int .i64 0] 120) fun g_2 w_5 =>
                  ∀ w_6 : World, BoxSt g_2 w_5 w_6 →
                  br (decide (x53_1 < 0)) (
                    K (.int .i64 1) w_6
                  ) (
                    br (decide (x53_1 > 1048576)) (
                      K (.int .i64 1) w_6
                    ) (
                      br (decide (x4 = (IntKind.i64.wrap (((n0_3 : Nat) : Int) - 1)))) (
                        br (decide (x53_0 ≠ 0)) (
                          K (.int .i64 15) w_6
                        ) (
                          I x53_0 (IntKind.i64.wrap (x4 + 1)) w_6 ∧ μ x53_0 (IntKind.i64.wrap (x4 + 1)) w_6 < μ x3 x4 w_4
                        )
                      ) (
                        br (decide (x53_0 ≤ x3)) (
                          K (.int .i64 15) w_6
                        ) (
                          br (decide (x53_0 > 1099511627776)) (
                            K (.int .i64 15) w_6
                          ) (
                            I x53_0 (IntKind.i64.wrap (x4 + 1)) w_6 ∧ μ x53_0 (IntKind.i64.wrap (x4 + 1)) w_6 < μ x3 x4 w_4
                          )
                        )
                      )
                    )
                  )
                ) (
                  K (.int .i64 0) w_4
                )
              )
            )
          )
        )
      )
    )
  )
def rcheck_notes : Notes := ⟨[], [(9, ⟨[(3, .lf (.int .i64)), (4, .lf (.int .i64))], [], [42, 43, 44, 45, 46, 49, 50, 51, 52, 53, 5, 54, 55, 56, 57, 58, 59, 60, 61, 2, 62, 63, 64, 65, 66, 67, 68, 69, 70, 71, 72, 73, 74, 75, 76, 77, 78, 79, 80, 81, 3, 47, 48, 4], [5]⟩)], [((0, 3), ⟨[(31, .lf (.bool))], [], [24, 25, 26, 27, 28, 29, 30, 31], []⟩)]⟩
theorem rcheck_calls (x0_0 : Int) (x0_1 : Int) (x0_2 : Int) (a0_3 : Option Addr) (n0_3 : Nat) (c0_3 : Nat) (w : World) (K : Value → World → Prop) (h : rcheck_vc x0_0 x0_1 x0_2 a0_3 n0_3 c0_3 w K) : Calls Try.prog 43 #[.agg #[.int .i64 x0_0, .int .i64 x0_1, .int .i64 x0_2, .slice a0_3 n0_3 c0_3]] w fun e w' => ∃ v, e = .returned v ∧ K v w' :=
  calls_of_fvc envOk Try.func43 rcheck_notes [1, 5] [.agg #[.int .i64 x0_0, .int .i64 x0_1, .int .i64 x0_2, .slice a0_3 n0_3 c0_3]] w K (use_vc h (by as_aux_lemma => kernel_rfl))
/-- purser/purserref09.CheckPlan -/
def rcplan_vc (x0_0 : Int) (x0_1 : Int) (x0_2 : Int) (x0_3 : Int) (x0_4 : Int) (x0_5 : Int) (a0_6 : Option Addr) (n0_6 : Nat) (c0_6 : Nat) (x0_7 : Int) (x0_8 : Int) (x0_9 : Int) (a0_10 : Option Addr) (n0_10 : Nat) (c0_10 : Nat) (w : World) (K : Value → World → Prop) : Prop :=
  newO w (.cells #[.int .i64 x0_0, .int .i64 x0_1, .int .i64 x0_2, .int .i64 x0_3, .int .i64 x0_4, .int .i64 x0_5, .slice a0_6 n0_6 c0_6, .int .i64 x0_7, .int .i64 x0_8, .int .i64 x0_9, .slice a0_10 n0_10 c0_10] 26) fun g w_2 =>
  Calls Try.prog 43 #[.agg #[.int .i64 x0_3, .int .i64 x0_4, .int .i64 x0_5, .slice a0_6 n0_6 c0_6]] w_2 fun e w_3 => KeepG [g] w_2 w_3 ∧
  ∃ (x8 : Int),
  e = .returned (.int .i64 x8) ∧
  br (decide (x8 ≠ 0)) (
    K (.int .i64 x8) w_3
  ) (
    br (decide (x0_0 = 0)) (
      newO w_3 (.cells #[.int .i64 0, .int .i64 0, .int .i64 0, .slice none 0 0] 24) fun g_2 w_4 =>
      ∀ w_5 : World, BoxSt g_2 w_4 w_5 →
      br (decide (x0_1 ≠ 0)) (
        K (.int .i64 2) w_5
      ) (
        br (decide (x0_2 ≠ 0)) (
          K (.int .i64 2) w_5
        ) (
          br (decide (x0_7 ≠ 0)) (
            K (.int .i64 2) w_5
          ) (
            br (decide (x0_8 ≠ 0)) (
              K (.int .i64 2) w_5
            ) (
              br (decide (x0_9 ≠ 0)) (
                K (.int .i64 2) w_5
              ) (
                br (decide (((n0_10 : Nat) : Int) ≠ 0)) (
                  K (.int .i64 2) w_5
                ) (
                  K (.int .i64 0) w_5
                )
              )
            )
          )
        )
      )
    ) (
      br (decide (x0_0 < 2)) (
        K (.int .i64 1) w_3
      ) (
        br (decide (x0_0 > 1073741824)) (
          K (.int .i64 1) w_3
        ) (
          br (decide (x0_1 < 0)) (
            K (.int .i64 1) w_3
          ) (
            br (decide (x0_1 ≥ x0_0)) (
              K (.int .i64 1) w_3
            ) (
              br (decide (x0_2 < 0)) (
                K (.int .i64 1) w_3
              ) (
                br (decide (x0_2 ≥ x0_0)) (
                  K (.int .i64 1) w_3
                ) (
                  br (decide (x0_1 = x0_2)) (
                    K (.int .i64 1) w_3
                  ) (
                    Calls Try.prog 43 #[.agg #[.int .i64 x0_7, .int .i64 x0_8, .int .i64 x0_9, .slice a0_10 n0_10 c0_10]] w_3 fun e_2 w_6 => KeepG [g] w_3 w_6 ∧
                    ∃ (x87 : Int),
                    e_2 = .returned (.int .i64 x87) ∧
                    br (decide (x87 ≠ 0)) (
                      K (.int .i64 x87) w_6
                    ) (
                      br (decide (x0_3 ≠ x0_7)) (
                        K (.int .i64 20) w_6
                      ) (
                        br (decide (x0_5 ≠ x0_9)) (
                          K (.int .i64 20) w_6
                        ) (
                          K (.int .i64 0) w_6
                        )
                      )
                    )
                  )
                )
              )
            )
          )
        )
      )
    )
  )
def rcplan_notes : Notes := ⟨[], [], []⟩
theorem rcplan_calls (x0_0 : Int) (x0_1 : Int) (x0_2 : Int) (x0_3 : Int) (x0_4 : Int) (x0_5 : Int) (a0_6 : Option Addr) (n0_6 : Nat) (c0_6 : Nat) (x0_7 : Int) (x0_8 : Int) (x0_9 : Int) (a0_10 : Option Addr) (n0_10 : Nat) (c0_10 : Nat) (w : World) (K : Value → World → Prop) (h : rcplan_vc x0_0 x0_1 x0_2 x0_3 x0_4 x0_5 a0_6 n0_6 c0_6 x0_7 x0_8 x0_9 a0_10 n0_10 c0_10 w K) : Calls Try.prog 14 #[.agg #[.int .i64 x0_0, .int .i64 x0_1, .int .i64 x0_2, .int .i64 x0_3, .int .i64 x0_4, .int .i64 x0_5, .slice a0_6 n0_6 c0_6, .int .i64 x0_7, .int .i64 x0_8, .int .i64 x0_9, .slice a0_10 n0_10 c0_10]] w fun e w' => ∃ v, e = .returned v ∧ K v w' :=
  calls_of_fvc envOk Try.func14 rcplan_notes [1, 4] [.agg #[.int .i64 x0_0, .int .i64 x0_1, .int .i64 x0_2, .int .i64 x0_3, .int .i64 x0_4, .int .i64 x0_5, .slice a0_6 n0_6 c0_6, .int .i64 x0_7, .int .i64 x0_8, .int .i64 x0_9, .slice a0_10 n0_10 c0_10]] w K (use_vc h (by as_aux_lemma => kernel_rfl))
/-- purser/purserref09.Is -/
def ris_vc (x0_0 : Int) (x0_1 : Int) (x0_2 : Int) (x0_3 : Int) (x0_4 : Int) (x0_5 : Int) (a0_6 : Option Addr) (n0_6 : Nat) (c0_6 : Nat) (x0_7 : Int) (x0_8 : Int) (x0_9 : Int) (a0_10 : Option Addr) (n0_10 : Nat) (c0_10 : Nat) (x1 : Int) (w : World) (K : Value → World → Prop) : Prop :=
  newO w (.cells #[.int .i64 x0_0, .int .i64 x0_1, .int .i64 x0_2, .int .i64 x0_3, .int .i64 x0_4, .int .i64 x0_5, .slice a0_6 n0_6 c0_6, .int .i64 x0_7, .int .i64 x0_8, .int .i64 x0_9, .slice a0_10 n0_10 c0_10] 26) fun g w_2 =>
  br (decide (x0_0 = 0)) (
    K (.bool false) w_2
  ) (
    (x0_0 : Int) ≠ 0 ∧
    br (decide (x0_1 < x0_2)) (
      br (decide ((Int.tmod x1 x0_0) ≥ x0_1)) (
        K (.bool (decide ((Int.tmod x1 x0_0) < x0_2))) w_2
      ) (
        K (.bool false) w_2
      )
    ) (
      br (decide ((Int.tmod x1 x0_0) ≥ x0_1)) (
        K (.bool true) w_2
      ) (
        K (.bool (decide ((Int.tmod x1 x0_0) < x0_2))) w_2
      )
    )
  )
def ris_notes : Notes := ⟨[], [], []⟩
theorem ris_calls (x0_0 : Int) (x0_1 : Int) (x0_2 : Int) (x0_3 : Int) (x0_4 : Int) (x0_5 : Int) (a0_6 : Option Addr) (n0_6 : Nat) (c0_6 : Nat) (x0_7 : Int) (x0_8 : Int) (x0_9 : Int) (a0_10 : Option Addr) (n0_10 : Nat) (c0_10 : Nat) (x1 : Int) (w : World) (K : Value → World → Prop) (h : ris_vc x0_0 x0_1 x0_2 x0_3 x0_4 x0_5 a0_6 n0_6 c0_6 x0_7 x0_8 x0_9 a0_10 n0_10 c0_10 x1 w K) : Calls Try.prog 38 #[.agg #[.int .i64 x0_0, .int .i64 x0_1, .int .i64 x0_2, .int .i64 x0_3, .int .i64 x0_4, .int .i64 x0_5, .slice a0_6 n0_6 c0_6, .int .i64 x0_7, .int .i64 x0_8, .int .i64 x0_9, .slice a0_10 n0_10 c0_10], .int .i64 x1] w fun e w' => ∃ v, e = .returned v ∧ K v w' :=
  calls_of_fvc envOk Try.func38 ris_notes [2] [.agg #[.int .i64 x0_0, .int .i64 x0_1, .int .i64 x0_2, .int .i64 x0_3, .int .i64 x0_4, .int .i64 x0_5, .slice a0_6 n0_6 c0_6, .int .i64 x0_7, .int .i64 x0_8, .int .i64 x0_9, .slice a0_10 n0_10 c0_10], .int .i64 x1] w K (use_vc h (by as_aux_lemma => kernel_rfl))
/-- purser/purserref09.Same -/
def rsame_vc (x0_0 : Int) (x0_1 : Int) (x0_2 : Int) (a0_3 : Option Addr) (n0_3 : Nat) (c0_3 : Nat) (x1_0 : Int) (x1_1 : Int) (x1_2 : Int) (a1_3 : Option Addr) (n1_3 : Nat) (c1_3 : Nat) (w : World) (K : Value → World → Prop) : Prop :=
  newO w (.cells #[.int .i64 x0_0, .int .i64 x0_1, .int .i64 x0_2, .slice a0_3 n0_3 c0_3] 24) fun g w_2 =>
  newO w_2 (.cells #[.int .i64 x1_0, .int .i64 x1_1, .int .i64 x1_2, .slice a1_3 n1_3 c1_3] 24) fun g_2 w_3 =>
  br (decide (x0_0 ≠ x1_0)) (
    K (.bool false) w_3
  ) (
    br (decide (x0_1 ≠ x1_1)) (
      K (.bool false) w_3
    ) (
      br (decide (x0_2 ≠ x1_2)) (
        K (.bool false) w_3
      ) (
        br (decide (((n0_3 : Nat) : Int) ≠ ((n1_3 : Nat) : Int))) (
          K (.bool false) w_3
        ) (
          ∃ (I : Int → World → Prop) (μ : Int → World → Nat),
          I 0 w_3 ∧
          ∀ (x5 : Int) (w_4 : World), I x5 w_4 →
          br (decide (x5 < ((n0_3 : Nat) : Int))) (
            drewO w_4 fun w_5 =>
            withP a0_3 fun g44 o44 =>
            (0 : Int) ≤ x5 ∧ x5 < (((n0_3 : Nat) : Int) : Int) ∧
            ∃ (x45_0 : Int) (x45_1 : Int),
            cellsAt w_5 g44 (o44 + x5.toNat * 2) [.int .i64 x45_0, .int .i64 x45_1] ∧
            withP a1_3 fun g49 o49 =>
            (0 : Int) ≤ x5 ∧ x5 < (((n1_3 : Nat) : Int) : Int) ∧
            ∃ (x50_0 : Int) (x50_1 : Int),
            cellsAt w_5 g49 (o49 + x5.toNat * 2) [.int .i64 x50_0, .int .i64 x50_1] ∧
            br (!((decide (x45_0 = x50_0)) && ((decide (x45_1 = x50_1)) && true))) (
              K (.bool false) w_5
            ) (
              I (IntKind.i64.wrap (x5 + 1)) w_5 ∧ μ (IntKind.i64.wrap (x5 + 1)) w_5 < μ x5 w_4
            )
          ) (
            K (.bool true) w_4
          )
        )
      )
    )
  )
def rsame_notes : Notes := ⟨[(6, ⟨[0, 1, 0, 7, 15, 0, 32, 0, 224, 480, 1023], [], [0, 1, 2, 3, 4, 5, 6, 7, 8, 9, 10]⟩)], [(4, ⟨[(5, .lf (.int .i64))], [], [34, 35, 36, 37, 38, 41, 42, 43, 44, 45, 46, 47, 48, 49, 50, 51, 4, 39, 40, 5], []⟩)], []⟩
theorem rsame_calls (x0_0 : Int) (x0_1 : Int) (x0_2 : Int) (a0_3 : Option Addr) (n0_3 : Nat) (c0_3 : Nat) (x1_0 : Int) (x1_1 : Int) (x1_2 : Int) (a1_3 : Option Addr) (n1_3 : Nat) (c1_3 : Nat) (w : World) (K : Value → World → Prop) (h : rsame_vc x0_0 x0_1 x0_2 a0_3 n0_3 c0_3 x1_0 x1_1 x1_2 a1_3 n1_3 c1_3 w K) : Calls Try.prog 53 #[.agg #[.int .i64 x0_0, .int .i64 x0_1, .int .i64 x0_2, .slice a0_3 n0_3 c0_3], .agg #[.int .i64 x1_0, .int .i64 x1_1, .int .i64 x1_2, .slice a1_3 n1_3 c1_3]] w fun e w' => ∃ v, e = .returned v ∧ K v w' :=
  calls_of_fvc envOk Try.func53 rsame_notes [2, 3] [.agg #[.int .i64 x0_0, .int .i64 x0_1, .int .i64 x0_2, .slice a0_3 n0_3 c0_3], .agg #[.int .i64 x1_0, .int .i64 x1_1, .int .i64 x1_2, .slice a1_3 n1_3 c1_3]] w K (use_vc h (by as_aux_lemma => kernel_rfl))
/-- purser/purserref10.Index -/
def rindex_vc (x0_0 : Int) (x0_1 : Int) (x0_2 : Int) (a0_3 : Option Addr) (n0_3 : Nat) (c0_3 : Nat) (x1 : Int) (w : World) (K : Value → World → Prop) : Prop :=
  newO w (.cells #[.int .i64 x0_0, .int .i64 x0_1, .int .i64 x0_2, .slice a0_3 n0_3 c0_3] 24) fun g w_2 =>
  Calls Try.prog 43 #[.agg #[.int .i64 x0_0, .int .i64 x0_1, .int .i64 x0_2, .slice a0_3 n0_3 c0_3]] w_2 fun e w_3 => KeepG [g] w_2 w_3 ∧
  ∃ (x7 : Int),
  e = .returned (.int .i64 x7) ∧
  br (decide (x7 ≠ 0)) (
    K (.int .i64 (-1)) w_3
  ) (
    br (decide (x1 < 1)) (
      K (.int .i64 (-1)) w_3
    ) (
      ∃ (I : Int → World → Prop) (μ : Int → World → Nat),
      I 0 w_3 ∧
      ∀ (x5 : Int) (w_4 : World), I x5 w_4 →
      br (decide (x5 < ((n0_3 : Nat) : Int))) (
        withP a0_3 fun g23 o23 =>
        (0 : Int) ≤ x5 ∧ x5 < (((n0_3 : Nat) : Int) : Int) ∧
        ∃ (x25 : Int), w_4.cell? ⟨g23, o23 + x5.toNat * 2, none⟩ = some (.int .i64 x25) ∧
        br (decide (x25 = 0)) (
          K (.int .i64 x5) w_4
        ) (
          withP a0_3 fun g32 o32 =>
          (0 : Int) ≤ x5 ∧ x5 < (((n0_3 : Nat) : Int) : Int) ∧
          ∃ (x34 : Int), w_4.cell? ⟨g32, o32 + x5.toNat * 2, none⟩ = some (.int .i64 x34) ∧
          br (decide (x1 ≤ x34)) (
            K (.int .i64 x5) w_4
          ) (
            I (IntKind.i64.wrap (x5 + 1)) w_4 ∧ μ (IntKind.i64.wrap (x5 + 1)) w_4 < μ x5 w_4
          )
        )
      ) (
        K (.int .i64 (-1)) w_4
      )
    )
  )
def rindex_notes : Notes := ⟨[], [(4, ⟨[(5, .lf (.int .i64))], [], [13, 14, 15, 16, 17, 20, 21, 22, 23, 24, 25, 26, 27, 28, 29, 30, 31, 32, 33, 34, 35, 36, 37, 4, 18, 19, 5], []⟩)], []⟩
theorem rindex_calls (x0_0 : Int) (x0_1 : Int) (x0_2 : Int) (a0_3 : Option Addr) (n0_3 : Nat) (c0_3 : Nat) (x1 : Int) (w : World) (K : Value → World → Prop) (h : rindex_vc x0_0 x0_1 x0_2 a0_3 n0_3 c0_3 x1 w K) : Calls Try.prog 89 #[.agg #[.int .i64 x0_0, .int .i64 x0_1, .int .i64 x0_2, .slice a0_3 n0_3 c0_3], .int .i64 x1] w fun e w' => ∃ v, e = .returned v ∧ K v w' :=
  calls_of_fvc envOk Try.func89 rindex_notes [2] [.agg #[.int .i64 x0_0, .int .i64 x0_1, .int .i64 x0_2, .slice a0_3 n0_3 c0_3], .int .i64 x1] w K (use_vc h (by as_aux_lemma => kernel_rfl))
/-- purser/purserref10.Split -/
def rsplit_vc (x0_0 : Int) (x0_1 : Int) (x0_2 : Int) (a0_3 : Option Addr) (n0_3 : Nat) (c0_3 : Nat) (x1 : Int) (x2 : Int) (w : World) (K : Value → World → Prop) : Prop :=
  newO w (.cells #[.int .i64 x0_0, .int .i64 x0_1, .int .i64 x0_2, .slice a0_3 n0_3 c0_3] 24) fun g w_2 =>
  Calls Try.prog 43 #[.agg #[.int .i64 x0_0, .int .i64 x0_1, .int .i64 x0_2, .slice a0_3 n0_3 c0_3]] w_2 fun e w_3 => KeepG [g] w_2 w_3 ∧
  ∃ (x14 : Int),
  e = .returned (.int .i64 x14) ∧
  br (decide (x14 ≠ 0)) (
    K (.tuple #[.slice none 0 0, .int .i64 1]) w_3
  ) (
    br (decide (x1 < 0)) (
      K (.tuple #[.slice none 0 0, .int .i64 1]) w_3
    ) (
      br (decide (x1 > 1099511627776)) (
        K (.tuple #[.slice none 0 0, .int .i64 1]) w_3
      ) (
        br (decide (x2 < 0)) (
          K (.tuple #[.slice none 0 0, .int .i64 1]) w_3
        ) (
          br (decide (x2 > 1073741824)) (
            K (.tuple #[.slice none 0 0, .int .i64 1]) w_3
          ) (
            br (decide (x2 = 0)) (
              K (.tuple #[.slice none 0 0, .int .i64 0]) w_3
            ) (
              br (decide (x0_1 = 2)) (
                Calls Try.prog 89 #[.agg #[.int .i64 x0_0, .int .i64 x0_1, .int .i64 x0_2, .slice a0_3 n0_3 c0_3], .int .i64 (IntKind.i64.wrap (x1 + x2))] w_3 fun e_2 w_4 => KeepG [g] w_3 w_4 ∧
                ∃ (x41 : Int),
                e_2 = .returned (.int .i64 x41) ∧
                withP a0_3 fun g47 o47 =>
                (0 : Int) ≤ x41 ∧ x41 < (((n0_3 : Nat) : Int) : Int) ∧
                ∃ (x49 : Int), w_4.cell? ⟨g47, o47 + x41.toNat * 2 + 1, none⟩ = some (.int .i64 x49) ∧
                newO w_4 (.cells #[.int .i64 x41, .int .i64 x2, .int .i64 x49] 116) fun g_2 w_5 =>
                K (.tuple #[.slice (some ⟨g_2, 0, none⟩) 1 1, .int .i64 0]) w_5
              ) (
                ∃ (I : Option Addr → Nat → Nat → Int → World → Prop) (μ : Option Addr → Nat → Nat → Int → World → Nat),
                I none 0 0 0 w_3 ∧
                ∀ (a9 : Option Addr) (n9 : Nat) (c9 : Nat) (x10 : Int) (w_6 : World), I a9 n9 c9 x10 w_6 →
                br (decide (x10 < ((n0_3 : Nat) : Int))) (
                  ∃ (J : Int → World → Prop), (
                    br (decide (x10 > 0)) (
                      withP a0_3 fun g70 o70 =>
                      (0 : Int) ≤ IntKind.i64.wrap (x10 - 1) ∧ IntKind.i64.wrap (x10 - 1) < (((n0_3 : Nat) : Int) : Int) ∧
                      ∃ (x72 : Int), w_6.cell? ⟨g70, o70 + (IntKind.i64.wrap (x10 - 1)).toNat * 2, none⟩ = some (.int .i64 x72) ∧
                      J (max x1 x72) w_6
                    ) (
                      J x1 w_6
                    )
                  ) ∧
                  ∀ (x11 : Int) (w_7 : World), J x11 w_7 →
                  withP a0_3 fun g77 o77 =>
                  (0 : Int) ≤ x10 ∧ x10 < (((n0_3 : Nat) : Int) : Int) ∧
                  ∃ (x79 : Int), w_7.cell? ⟨g77, o77 + x10.toNat * 2, none⟩ = some (.int .i64 x79) ∧
                  ∃ (J_2 : Int → World → Prop), (
                    br (decide (x79 > 0)) (
                      withP a0_3 fun g85 o85 =>
                      (0 : Int) ≤ x10 ∧ x10 < (((n0_3 : Nat) : Int) : Int) ∧
                      ∃ (x87 : Int), w_7.cell? ⟨g85, o85 + x10.toNat * 2, none⟩ = some (.int .i64 x87) ∧
                      J_2 (min (IntKind.i64.wrap (x1 + x2)) x87) w_7
                    ) (
                      J_2 (IntKind.i64.wrap (x1 + x2)) w_7
                    )
                  ) ∧
                  ∀ (x12 : Int) (w_8 : World), J_2 x12 w_8 →
                  br (decide (x12 > x11)) (
                    withP a0_3 fun g100 o100 =>
                    (0 : Int) ≤ x10 ∧ x10 < (((n0_3 : Nat) : Int) : Int) ∧
                    ∃ (x102 : Int), w_8.cell? ⟨g100, o100 + x10.toNat * 2 + 1, none⟩ = some (.int .i64 x102) ∧
                    newO w_8 (.cells #[.int .i64 x10, .int .i64 (IntKind.i64.wrap (x12 - x11)), .int .i64 x102] 116) fun g_3 w_9 =>
                    appO Try.prog [g] w_9 116 3 24 51 a9 n9 c9 (.slice (some ⟨g_3, 0, none⟩) 1 1) fun m105 a105 c105 w_10 =>
                    I a105 (n9 + m105) c105 (IntKind.i64.wrap (x10 + 1)) w_10 ∧ μ a105 (n9 + m105) c105 (IntKind.i64.wrap (x10 + 1)) w_10 < μ a9 n9 c9 x10 w_6
                  ) (
                    I a9 n9 c9 (IntKind.i64.wrap (x10 + 1)) w_8 ∧ μ a9 n9 c9 (IntKind.i64.wrap (x10 + 1)) w_8 < μ a9 n9 c9 x10 w_6
                  )
                ) (
                  K (.tuple #[.slice a9 n9 c9, .int .i64 0]) w_6
                )
              )
            )
          )
        )
      )
    )
  )
def rsplit_notes : Notes := ⟨[], [(10, ⟨[(9, .lf (.slice)), (10, .lf (.int .i64))], [], [52, 53, 54, 55, 56, 59, 60, 61, 62, 11, 12, 63, 64, 65, 66, 67, 68, 69, 70, 71, 72, 73, 74, 75, 76, 77, 78, 79, 80, 81, 82, 83, 84, 85, 86, 87, 88, 89, 90, 91, 92, 93, 94, 95, 96, 97, 98, 99, 100, 101, 102, 103, 104, 105, 9, 57, 58, 10], []⟩)], [((1, 14), ⟨[(11, .lf (.int .i64))], [], [65, 66, 67, 68, 69, 70, 71, 72, 73, 11], []⟩), ((1, 16), ⟨[(12, .lf (.int .i64))], [], [81, 82, 83, 84, 85, 86, 87, 88, 12], []⟩)]⟩
theorem rsplit_calls (x0_0 : Int) (x0_1 : Int) (x0_2 : Int) (a0_3 : Option Addr) (n0_3 : Nat) (c0_3 : Nat) (x1 : Int) (x2 : Int) (w : World) (K : Value → World → Prop) (h : rsplit_vc x0_0 x0_1 x0_2 a0_3 n0_3 c0_3 x1 x2 w K) : Calls Try.prog 69 #[.agg #[.int .i64 x0_0, .int .i64 x0_1, .int .i64 x0_2, .slice a0_3 n0_3 c0_3], .int .i64 x1, .int .i64 x2] w fun e w' => ∃ v, e = .returned v ∧ K v w' :=
  calls_of_fvc envOk Try.func69 rsplit_notes [3] [.agg #[.int .i64 x0_0, .int .i64 x0_1, .int .i64 x0_2, .slice a0_3 n0_3 c0_3], .int .i64 x1, .int .i64 x2] w K (use_vc h (by as_aux_lemma => kernel_rfl))
/-- purser/purserref10.Cost -/
def rcost_vc (a0 : Option Addr) (n0 : Nat) (c0 : Nat) (w : World) (K : Value → World → Prop) : Prop :=
  Calls Try.prog 72 #[.int .i64 0] w fun e w_2 => KeepG [] w w_2 ∧
  ∃ (x9_0 : Int) (x9_1 : Int) (x9_2 : Int) (x9_3 : Int) (x9_4 : Int) (x9_5 : Int) (x9_6 : Int) (x9_7 : Int) (x9_8 : Int) (x9_9 : Int) (b9_10 : Bool),
  e = .returned (.agg #[.int .u64 x9_0, .int .u64 x9_1, .int .u64 x9_2, .int .u64 x9_3, .int .u64 x9_4, .int .u64 x9_5, .int .u64 x9_6, .int .u64 x9_7, .int .u64 x9_8, .int .u64 x9_9, .bool b9_10]) ∧
  newO w_2 (.cells #[.int .u64 0, .int .u64 0, .int .u64 0, .int .u64 0, .int .u64 0, .int .u64 0, .int .u64 0, .int .u64 0, .int .u64 0, .int .u64 0, .bool false] 123) fun g w_3 =>
  ∀ w_4 : World, BoxSt g w_3 w_4 →
  ∃ (I : Int → Int → Int → Int → Int → Int → Int → Int → Int → Int → Int → Bool → World → Prop) (μ : Int → Int → Int → Int → Int → Int → Int → Int → Int → Int → Int → Bool → World → Nat),
  I 0 x9_0 x9_1 x9_2 x9_3 x9_4 x9_5 x9_6 x9_7 x9_8 x9_9 b9_10 w_4 ∧
  ∀ (x5 : Int) (x4_0 : Int) (x4_1 : Int) (x4_2 : Int) (x4_3 : Int) (x4_4 : Int) (x4_5 : Int) (x4_6 : Int) (x4_7 : Int) (x4_8 : Int) (x4_9 : Int) (b4_10 : Bool) (w_5 : World), I x5 x4_0 x4_1 x4_2 x4_3 x4_4 x4_5 x4_6 x4_7 x4_8 x4_9 b4_10 w_5 →
  br (decide (x5 < ((n0 : Nat) : Int))) (
    drewO w_5 fun w_6 =>
    withP a0 fun g18 o18 =>
    (0 : Int) ≤ x5 ∧ x5 < (((n0 : Nat) : Int) : Int) ∧
    ∃ (x20 : Int), w_6.cell? ⟨g18, o18 + x5.toNat * 3 + 1, none⟩ = some (.int .i64 x20) ∧
    withP a0 fun g24 o24 =>
    (0 : Int) ≤ x5 ∧ x5 < (((n0 : Nat) : Int) : Int) ∧
    ∃ (x26 : Int), w_6.cell? ⟨g24, o24 + x5.toNat * 3 + 2, none⟩ = some (.int .i64 x26) ∧
    (
      Calls Try.prog 72 #[.int .i64 x20] w_6 fun e_2 w_7 => KeepG [g] w_6 w_7 ∧
      ∃ (x21_0 : Int) (x21_1 : Int) (x21_2 : Int) (x21_3 : Int) (x21_4 : Int) (x21_5 : Int) (x21_6 : Int) (x21_7 : Int) (x21_8 : Int) (x21_9 : Int) (b21_10 : Bool),
      e_2 = .returned (.agg #[.int .u64 x21_0, .int .u64 x21_1, .int .u64 x21_2, .int .u64 x21_3, .int .u64 x21_4, .int .u64 x21_5, .int .u64 x21_6, .int .u64 x21_7, .int .u64 x21_8, .int .u64 x21_9, .bool b21_10]) ∧
      w_7.cell? ⟨g24, o24 + x5.toNat * 3 + 2, none⟩ = some (.int .i64 x26) ∧
      (
        Calls Try.prog 72 #[.int .i64 x26] w_7 fun e_3 w_8 => KeepG [g] w_7 w_8 ∧
        ∃ (x27_0 : Int) (x27_1 : Int) (x27_2 : Int) (x27_3 : Int) (x27_4 : Int) (x27_5 : Int) (x27_6 : Int) (x27_7 : Int) (x27_8 : Int) (x27_9 : Int) (b27_10 : Bool),
        e_3 = .returned (.agg #[.int .u64 x27_0, .int .u64 x27_1, .int .u64 x27_2, .int .u64 x27_3, .int .u64 x27_4, .int .u64 x27_5, .int .u64 x27_6, .int .u64 x27_7, .int .u64 x27_8, .int .u64 x27_9, .bool b27_10]) ∧
        (
          Calls Try.prog 73 #[.agg #[.int .u64 x21_0, .int .u64 x21_1, .int .u64 x21_2, .int .u64 x21_3, .int .u64 x21_4, .int .u64 x21_5, .int .u64 x21_6, .int .u64 x21_7, .int .u64 x21_8, .int .u64 x21_9, .bool b21_10], .agg #[.int .u64 x27_0, .int .u64 x27_1, .int .u64 x27_2, .int .u64 x27_3, .int .u64 x27_4, .int .u64 x27_5, .int .u64 x27_6, .int .u64 x27_7, .int .u64 x27_8, .int .u64 x27_9, .bool b27_10]] w_8 fun e_4 w_9 => KeepG [g] w_8 w_9 ∧
          ∃ (x28_0 : Int) (x28_1 : Int) (x28_2 : Int) (x28_3 : Int) (x28_4 : Int) (x28_5 : Int) (x28_6 : Int) (x28_7 : Int) (x28_8 : Int) (x28_9 : Int) (b28_10 : Bool),
          e_4 = .returned (.agg #[.int .u64 x28_0, .int .u64 x28_1, .int .u64 x28_2, .int .u64 x28_3, .int .u64 x28_4, .int .u64 x28_5, .int .u64 x28_6, .int .u64 x28_7, .int .u64 x28_8, .int .u64 x28_9, .bool b28_10]) ∧
          newO w_9 (.cells #[.int .u64 0, .int .u64 0, .int .u64 0, .int .u64 0, .int .u64 0, .int .u64 0, .int .u64 0, .int .u64 0, .int .u64 0, .int .u64 0, .bool false] 123) fun g_2 w_10 =>
          ∀ w_11 : World, BoxSt g_2 w_10 w_11 →
          Calls Try.prog 74 #[.agg #[.int .u64 x28_0, .int .u64 x28_1, .int .u64 x28_2, .int .u64 x28_3, .int .u64 x28_4, .int .u64 x28_5, .int .u64 x28_6, .int .u64 x28_7, .int .u64 x28_8, .int .u64 x28_9, .bool b28_10]] w_11 fun e_5 w_12 => KeepG [g_2, g] w_11 w_12 ∧
          ∃ (x31_0 : Int) (b31_1 : Bool),
          e_5 = .returned (.tuple #[.int .i64 x31_0, .bool b31_1]) ∧
          br (!b31_1) (
            K (.tuple #[.int .i64 0, .bool false]) w_12
          ) (
            Calls Try.prog 75 #[.agg #[.int .u64 x4_0, .int .u64 x4_1, .int .u64 x4_2, .int .u64 x4_3, .int .u64 x4_4, .int .u64 x4_5, .int .u64 x4_6, .int .u64 x4_7, .int .u64 x4_8, .int .u64 x4_9, .bool b4_10], .agg #[.int .u64 x28_0, .int .u64 x28_1, .int .u64 x28_2, .int .u64 x28_3, .int .u64 x28_4, .int .u64 x28_5, .int .u64 x28_6, .int .u64 x28_7, .int .u64 x28_8, .int .u64 x28_9, .bool b28_10]] w_12 fun e_6 w_13 => KeepG [g_2, g] w_12 w_13 ∧
            ∃ (x38_0 : Int) (x38_1 : Int) (x38_2 : Int) (x38_3 : Int) (x38_4 : Int) (x38_5 : Int) (x38_6 : Int) (x38_7 : Int) (x38_8 : Int) (x38_9 : Int) (b38_10 : Bool),
            e_6 = .returned (.agg #[.int .u64 x38_0, .int .u64 x38_1, .int .u64 x38_2, .int .u64 x38_3, .int .u64 x38_4, .int .u64 x38_5, .int .u64 x38_6, .int .u64 x38_7, .int .u64 x38_8, .int .u64 x38_9, .bool b38_10]) ∧
            ∀ w_14 : World, BoxSt g w_13 w_14 →
            I (IntKind.i64.wrap (x5 + 1)) x38_0 x38_1 x38_2 x38_3 x38_4 x38_5 x38_6 x38_7 x38_8 x38_9 b38_10 w_14 ∧ μ (IntKind.i64.wrap (x5 + 1)) x38_0 x38_1 x38_2 x38_3 x38_4 x38_5 x38_6 x38_7 x38_8 x38_9 b38_10 w_14 < μ x5 x4_0 x4_1 x4_2 x4_3 x4_4 x4_5 x4_6 x4_7 x4_8 x4_9 b4_10 w_5
          )
        ) ∧
        (
          newO w_8 (.cells #[.int .u64 0, .int .u64 0, .int .u64 0, .int .u64 0, .int .u64 0, .int .u64 0, .int .u64 0, .int .u64 0, .int .u64 0, .int .u64 0, .bool false] 123) fun g_3 w_15 =>
          Calls Try.prog 73 #[.agg #[.int .u64 x21_0, .int .u64 x21_1, .int .u64 x21_2, .int .u64 x21_3, .int .u64 x21_4, .int .u64 x21_5, .int .u64 x21_6, .int .u64 x21_7, .int .u64 x21_8, .int .u64 x21_9, .bool b21_10], .agg #[.int .u64 x27_0, .int .u64 x27_1, .int .u64 x27_2, .int .u64 x27_3, .int .u64 x27_4, .int .u64 x27_5, .int .u64 x27_6, .int .u64 x27_7, .int .u64 x27_8, .int .u64 x27_9, .bool b27_10]] w_15 fun e_7 w_16 => KeepG [g_3, g] w_15 w_16 ∧
          ∃ (x28_0_2 : Int) (x28_1_2 : Int) (x28_2_2 : Int) (x28_3_2 : Int) (x28_4_2 : Int) (x28_5_2 : Int) (x28_6_2 : Int) (x28_7_2 : Int) (x28_8_2 : Int) (x28_9_2 : Int) (b28_10_2 : Bool),
          e_7 = .returned (.agg #[.int .u64 x28_0_2, .int .u64 x28_1_2, .int .u64 x28_2_2, .int .u64 x28_3_2, .int .u64 x28_4_2, .int .u64 x28_5_2, .int .u64 x28_6_2, .int .u64 x28_7_2, .int .u64 x28_8_2, .int .u64 x28_9_2, .bool b28_10_2]) ∧
          ∀ w_17 : World, BoxSt g_3 w_16 w_17 →
          Calls Try.prog 74 #[.agg #[.int .u64 x28_0_2, .int .u64 x28_1_2, .int .u64 x28_2_2, .int .u64 x28_3_2, .int .u64 x28_4_2, .int .u64 x28_5_2, .int .u64 x28_6_2, .int .u64 x28_7_2, .int .u64 x28_8_2, .int .u64 x28_9_2, .bool b28_10_2]] w_17 fun e_8 w_18 => KeepG [g_3, g] w_17 w_18 ∧
          ∃ (x31_0_2 : Int) (b31_1_2 : Bool),
          e_8 = .returned (.tuple #[.int .i64 x31_0_2, .bool b31_1_2]) ∧
          br (!b31_1_2) (
            K (.tuple #[.int .i64 0, .bool false]) w_18
          ) (
            Calls Try.prog 75 #[.agg #[.int .u64 x4_0, .int .u64 x4_1, .int .u64 x4_2, .int .u64 x4_3, .int .u64 x4_4, .int .u64 x4_5, .int .u64 x4_6, .int .u64 x4_7, .int .u64 x4_8, .int .u64 x4_9, .bool b4_10], .agg #[.int .u64 x28_0_2, .int .u64 x28_1_2, .int .u64 x28_2_2, .int .u64 x28_3_2, .int .u64 x28_4_2, .int .u64 x28_5_2, .int .u64 x28_6_2, .int .u64 x28_7_2, .int .u64 x28_8_2, .int .u64 x28_9_2, .bool b28_10_2]] w_18 fun e_9 w_19 => KeepG [g_3, g] w_18 w_19 ∧
            ∃ (x38_0_2 : Int) (x38_1_2 : Int) (x38_2_2 : Int) (x38_3_2 : Int) (x38_4_2 : Int) (x38_5_2 : Int) (x38_6_2 : Int) (x38_7_2 : Int) (x38_8_2 : Int) (x38_9_2 : Int) (b38_10_2 : Bool),
            e_9 = .returned (.agg #[.int .u64 x38_0_2, .int .u64 x38_1_2, .int .u64 x38_2_2, .int .u64 x38_3_2, .int .u64 x38_4_2, .int .u64 x38_5_2, .int .u64 x38_6_2, .int .u64 x38_7_2, .int .u64 x38_8_2, .int .u64 x38_9_2, .bool b38_10_2]) ∧
            ∀ w_20 : World, BoxSt g w_19 w_20 →
            I (IntKind.i64.wrap (x5 + 1)) x38_0_2 x38_1_2 x38_2_2 x38_3_2 x38_4_2 x38_5_2 x38_6_2 x38_7_2 x38_8_2 x38_9_2 b38_10_2 w_20 ∧ μ (IntKind.i64.wrap (x5 + 1)) x38_0_2 x38_1_2 x38_2_2 x38_3_2 x38_4_2 x38_5_2 x38_6_2 x38_7_2 x38_8_2 x38_9_2 b38_10_2 w_20 < μ x5 x4_0 x4_1 x4_2 x4_3 x4_4 x4_5 x4_6 x4_7 x4_8 x4_9 b4_10 w_5
          )
        )
      ) ∧
      (
        newO w_7 (.cells #[.int .u64 0, .int .u64 0, .int .u64 0, .int .u64 0, .int .u64 0, .int .u64 0, .int .u64 0, .int .u64 0, .int .u64 0, .int .u64 0, .bool false] 123) fun g_4 w_21 =>
        w_21.cell? ⟨g24, o24 + x5.toNat * 3 + 2, none⟩ = some (.int .i64 x26) ∧
        Calls Try.prog 72 #[.int .i64 x26] w_21 fun e_10 w_22 => KeepG [g_4, g] w_21 w_22 ∧
        ∃ (x27_0_2 : Int) (x27_1_2 : Int) (x27_2_2 : Int) (x27_3_2 : Int) (x27_4_2 : Int) (x27_5_2 : Int) (x27_6_2 : Int) (x27_7_2 : Int) (x27_8_2 : Int) (x27_9_2 : Int) (b27_10_2 : Bool),
        e_10 = .returned (.agg #[.int .u64 x27_0_2, .int .u64 x27_1_2, .int .u64 x27_2_2, .int .u64 x27_3_2, .int .u64 x27_4_2, .int .u64 x27_5_2, .int .u64 x27_6_2, .int .u64 x27_7_2, .int .u64 x27_8_2, .int .u64 x27_9_2, .bool b27_10_2]) ∧
        Calls Try.prog 73 #[.agg #[.int .u64 x21_0, .int .u64 x21_1, .int .u64 x21_2, .int .u64 x21_3, .int .u64 x21_4, .int .u64 x21_5, .int .u64 x21_6, .int .u64 x21_7, .int .u64 x21_8, .int .u64 x21_9, .bool b21_10], .agg #[.int .u64 x27_0_2, .int .u64 x27_1_2, .int .u64 x27_2_2, .int .u64 x27_3_2, .int .u64 x27_4_2, .int .u64 x27_5_2, .int .u64 x27_6_2, .int .u64 x27_7_2, .int .u64 x27_8_2, .int .u64 x27_9_2, .bool b27_10_2]] w_22 fun e_11 w_23 => KeepG [g_4, g] w_22 w_23 ∧
        ∃ (x28_0_3 : Int) (x28_1_3 : Int) (x28_2_3 : Int) (x28_3_3 : Int) (x28_4_3 : Int) (x28_5_3 : Int) (x28_6_3 : Int) (x28_7_3 : Int) (x28_8_3 : Int) (x28_9_3 : Int) (b28_10_3 : Bool),
        e_11 = .returned (.agg #[.int .u64 x28_0_3, .int .u64 x28_1_3, .int .u64 x28_2_3, .int .u64 x28_3_3, .int .u64 x28_4_3, .int .u64 x28_5_3, .int .u64 x28_6_3, .int .u64 x28_7_3, .int .u64 x28_8_3, .int .u64 x28_9_3, .bool b28_10_3]) ∧
        ∀ w_24 : World, BoxSt g_4 w_23 w_24 →
        Calls Try.prog 74 #[.agg #[.int .u64 x28_0_3, .int .u64 x28_1_3, .int .u64 x28_2_3, .int .u64 x28_3_3, .int .u64 x28_4_3, .int .u64 x28_5_3, .int .u64 x28_6_3, .int .u64 x28_7_3, .int .u64 x28_8_3, .int .u64 x28_9_3, .bool b28_10_3]] w_24 fun e_12 w_25 => KeepG [g_4, g] w_24 w_25 ∧
        ∃ (x31_0_3 : Int) (b31_1_3 : Bool),
        e_12 = .returned (.tuple #[.int .i64 x31_0_3, .bool b31_1_3]) ∧
        br (!b31_1_3) (
          K (.tuple #[.int .i64 0, .bool false]) w_25
        ) (
          Calls Try.prog 75 #[.agg #[.int .u64 x4_0, .int .u64 x4_1, .int .u64 x4_2, .int .u64 x4_3, .int .u64 x4_4, .int .u64 x4_5, .int .u64 x4_6, .int .u64 x4_7, .int .u64 x4_8, .int .u64 x4_9, .bool b4_10], .agg #[.int .u64 x28_0_3, .int .u64 x28_1_3, .int .u64 x28_2_3, .int .u64 x28_3_3, .int .u64 x28_4_3, .int .u64 x28_5_3, .int .u64 x28_6_3, .int .u64 x28_7_3, .int .u64 x28_8_3, .int .u64 x28_9_3, .bool b28_10_3]] w_25 fun e_13 w_26 => KeepG [g_4, g] w_25 w_26 ∧
          ∃ (x38_0_3 : Int) (x38_1_3 : Int) (x38_2_3 : Int) (x38_3_3 : Int) (x38_4_3 : Int) (x38_5_3 : Int) (x38_6_3 : Int) (x38_7_3 : Int) (x38_8_3 : Int) (x38_9_3 : Int) (b38_10_3 : Bool),
          e_13 = .returned (.agg #[.int .u64 x38_0_3, .int .u64 x38_1_3, .int .u64 x38_2_3, .int .u64 x38_3_3, .int .u64 x38_4_3, .int .u64 x38_5_3, .int .u64 x38_6_3, .int .u64 x38_7_3, .int .u64 x38_8_3, .int .u64 x38_9_3, .bool b38_10_3]) ∧
          ∀ w_27 : World, BoxSt g w_26 w_27 →
          I (IntKind.i64.wrap (x5 + 1)) x38_0_3 x38_1_3 x38_2_3 x38_3_3 x38_4_3 x38_5_3 x38_6_3 x38_7_3 x38_8_3 x38_9_3 b38_10_3 w_27 ∧ μ (IntKind.i64.wrap (x5 + 1)) x38_0_3 x38_1_3 x38_2_3 x38_3_3 x38_4_3 x38_5_3 x38_6_3 x38_7_3 x38_8_3 x38_9_3 b38_10_3 w_27 < μ x5 x4_0 x4_1 x4_2 x4_3 x4_4 x4_5 x4_6 x4_7 x4_8 x4_9 b4_10 w_5
        )
      )
    ) ∧
    (
      newO w_6 (.cells #[.int .u64 0, .int .u64 0, .int .u64 0, .int .u64 0, .int .u64 0, .int .u64 0, .int .u64 0, .int .u64 0, .int .u64 0, .int .u64 0, .bool false] 123) fun g_5 w_28 =>
      w_28.cell? ⟨g18, o18 + x5.toNat * 3 + 1, none⟩ = some (.int .i64 x20) ∧
      w_28.cell? ⟨g24, o24 + x5.toNat * 3 + 2, none⟩ = some (.int .i64 x26) ∧
      Calls Try.prog 72 #[.int .i64 x20] w_28 fun e_14 w_29 => KeepG [g_5, g] w_28 w_29 ∧
      ∃ (x21_0_2 : Int) (x21_1_2 : Int) (x21_2_2 : Int) (x21_3_2 : Int) (x21_4_2 : Int) (x21_5_2 : Int) (x21_6_2 : Int) (x21_7_2 : Int) (x21_8_2 : Int) (x21_9_2 : Int) (b21_10_2 : Bool),
      e_14 = .returned (.agg #[.int .u64 x21_0_2, .int .u64 x21_1_2, .int .u64 x21_2_2, .int .u64 x21_3_2, .int .u64 x21_4_2, .int .u64 x21_5_2, .int .u64 x21_6_2, .int .u64 x21_7_2, .int .u64 x21_8_2, .int .u64 x21_9_2, .bool b21_10_2]) ∧
      w_29.cell? ⟨g24, o24 + x5.toNat * 3 + 2, none⟩ = some (.int .i64 x26) ∧
      Calls Try.prog 72 #[.int .i64 x26] w_29 fun e_15 w_30 => KeepG [g_5, g] w_29 w_30 ∧
      ∃ (x27_0_3 : Int) (x27_1_3 : Int) (x27_2_3 : Int) (x27_3_3 : Int) (x27_4_3 : Int) (x27_5_3 : Int) (x27_6_3 : Int) (x27_7_3 : Int) (x27_8_3 : Int) (x27_9_3 : Int) (b27_10_3 : Bool),
      e_15 = .returned (.agg #[.int .u64 x27_0_3, .int .u64 x27_1_3, .int .u64 x27_2_3, .int .u64 x27_3_3, .int .u64 x27_4_3, .int .u64 x27_5_3, .int .u64 x27_6_3, .int .u64 x27_7_3, .int .u64 x27_8_3, .int .u64 x27_9_3, .bool b27_10_3]) ∧
      Calls Try.prog 73 #[.agg #[.int .u64 x21_0_2, .int .u64 x21_1_2, .int .u64 x21_2_2, .int .u64 x21_3_2, .int .u64 x21_4_2, .int .u64 x21_5_2, .int .u64 x21_6_2, .int .u64 x21_7_2, .int .u64 x21_8_2, .int .u64 x21_9_2, .bool b21_10_2], .agg #[.int .u64 x27_0_3, .int .u64 x27_1_3, .int .u64 x27_2_3, .int .u64 x27_3_3, .int .u64 x27_4_3, .int .u64 x27_5_3, .int .u64 x27_6_3, .int .u64 x27_7_3, .int .u64 x27_8_3, .int .u64 x27_9_3, .bool b27_10_3]] w_30 fun e_16 w_31 => KeepG [g_5, g] w_30 w_31 ∧
      ∃ (x28_0_4 : Int) (x28_1_4 : Int) (x28_2_4 : Int) (x28_3_4 : Int) (x28_4_4 : Int) (x28_5_4 : Int) (x28_6_4 : Int) (x28_7_4 : Int) (x28_8_4 : Int) (x28_9_4 : Int) (b28_10_4 : Bool),
      e_16 = .returned (.agg #[.int .u64 x28_0_4, .int .u64 x28_1_4, .int .u64 x28_2_4, .int .u64 x28_3_4, .int .u64 x28_4_4, .int .u64 x28_5_4, .int .u64 x28_6_4, .int .u64 x28_7_4, .int .u64 x28_8_4, .int .u64 x28_9_4, .bool b28_10_4]) ∧
      ∀ w_32 : World, BoxSt g_5 w_31 w_32 →
      Calls Try.prog 74 #[.agg #[.int .u64 x28_0_4, .int .u64 x28_1_4, .int .u64 x28_2_4, .int .u64 x28_3_4, .int .u64 x28_4_4, .int .u64 x28_5_4, .int .u64 x28_6_4, .int .u64 x28_7_4, .int .u64 x28_8_4, .int .u64 x28_9_4, .bool b28_10_4]] w_32 fun e_17 w_33 => KeepG [g_5, g] w_32 w_33 ∧
      ∃ (x31_0_4 : Int) (b31_1_4 : Bool),
      e_17 = .returned (.tuple #[.int .i64 x31_0_4, .bool b31_1_4]) ∧
      br (!b31_1_4) (
        K (.tuple #[.int .i64 0, .bool false]) w_33
      ) (
        Calls Try.prog 75 #[.agg #[.int .u64 x4_0, .int .u64 x4_1, .int .u64 x4_2, .int .u64 x4_3, .int .u64 x4_4, .int .u64 x4_5, .int .u64 x4_6, .int .u64 x4_7, .int .u64 x4_8, .int .u64 x4_9, .bool b4_10], .agg #[.int .u64 x28_0_4, .int .u64 x28_1_4, .int .u64 x28_2_4, .int .u64 x28_3_4, .int .u64 x28_4_4, .int .u64 x28_5_4, .int .u64 x28_6_4, .int .u64 x28_7_4, .int .u64 x28_8_4, .int .u64 x28_9_4, .bool b28_10_4]] w_33 fun e_18 w_34 => KeepG [g_5, g] w_33 w_34 ∧
        ∃ (x38_0_4 : Int) (x38_1_4 : Int) (x38_2_4 : Int) (x38_3_4 : Int) (x38_4_4 : Int) (x38_5_4 : Int) (x38_6_4 : Int) (x38_7_4 : Int) (x38_8_4 : Int) (x38_9_4 : Int) (b38_10_4 : Bool),
        e_18 = .returned (.agg #[.int .u64 x38_0_4, .int .u64 x38_1_4, .int .u64 x38_2_4, .int .u64 x38_3_4, .int .u64 x38_4_4, .int .u64 x38_5_4, .int .u64 x38_6_4, .int .u64 x38_7_4, .int .u64 x38_8_4, .int .u64 x38_9_4, .bool b38_10_4]) ∧
        ∀ w_35 : World, BoxSt g w_34 w_35 →
        I (IntKind.i64.wrap (x5 + 1)) x38_0_4 x38_1_4 x38_2_4 x38_3_4 x38_4_4 x38_5_4 x38_6_4 x38_7_4 x38_8_4 x38_9_4 b38_10_4 w_35 ∧ μ (IntKind.i64.wrap (x5 + 1)) x38_0_4 x38_1_4 x38_2_4 x38_3_4 x38_4_4 x38_5_4 x38_6_4 x38_7_4 x38_8_4 x38_9_4 b38_10_4 w_35 < μ x5 x4_0 x4_1 x4_2 x4_3 x4_4 x4_5 x4_6 x4_7 x4_8 x4_9 b4_10 w_5
      )
    )
  ) (
    Calls Try.prog 74 #[.agg #[.int .u64 x4_0, .int .u64 x4_1, .int .u64 x4_2, .int .u64 x4_3, .int .u64 x4_4, .int .u64 x4_5, .int .u64 x4_6, .int .u64 x4_7, .int .u64 x4_8, .int .u64 x4_9, .bool b4_10]] w_5 fun e_19 w_36 => KeepG [g] w_5 w_36 ∧
    ∃ (x40_0 : Int) (b40_1 : Bool),
    e_19 = .returned (.tuple #[.int .i64 x40_0, .bool b40_1]) ∧
    K (.tuple #[.int .i64 x40_0, .bool b40_1]) w_36
  )
def rcost_notes : Notes := ⟨[(5, ⟨[0, 0, 3, 7, 15, 31, 0, 0, 192, 448, 960, 2047, 4095, 0, 16383], [5, 11, 12, 13, 14], [0, 1, 2, 3, 4, 6, 7, 8, 9, 10]⟩)], [(3, ⟨[(5, .lf (.int .i64))], [(4, [.int .u64, .int .u64, .int .u64, .int .u64, .int .u64, .int .u64, .int .u64, .int .u64, .int .u64, .int .u64, .bool])], [10, 11, 12, 13, 16, 17, 18, 19, 20, 21, 22, 23, 24, 25, 26, 27, 28, 6, 30, 31, 29, 32, 33, 7, 8, 34, 35, 2, 3, 36, 37, 38, 14, 15, 5], [6, 4]⟩)], []⟩
theorem rcost_calls (a0 : Option Addr) (n0 : Nat) (c0 : Nat) (w : World) (K : Value → World → Prop) (h : rcost_vc a0 n0 c0 w K) : Calls Try.prog 37 #[.slice a0 n0 c0] w fun e w' => ∃ v, e = .returned v ∧ K v w' :=
  calls_of_fvc envOk Try.func37 rcost_notes [4, 6] [.slice a0 n0 c0] w K (use_vc h (by as_aux_lemma => kernel_rfl))
/-- purser/purserref10.Same -/
def rlsame_vc (a0 : Option Addr) (n0 : Nat) (c0 : Nat) (a1 : Option Addr) (n1 : Nat) (c1 : Nat) (w : World) (K : Value → World → Prop) : Prop :=
  br (decide (((n0 : Nat) : Int) ≠ ((n1 : Nat) : Int))) (
    K (.bool false) w
  ) (
    ∃ (I : Int → World → Prop) (μ : Int → World → Nat),
    I 0 w ∧
    ∀ (x5 : Int) (w_2 : World), I x5 w_2 →
    br (decide (x5 < ((n0 : Nat) : Int))) (
      drewO w_2 fun w_3 =>
      withP a0 fun g19 o19 =>
      (0 : Int) ≤ x5 ∧ x5 < (((n0 : Nat) : Int) : Int) ∧
      ∃ (x20_0 : Int) (x20_1 : Int) (x20_2 : Int),
      cellsAt w_3 g19 (o19 + x5.toNat * 3) [.int .i64 x20_0, .int .i64 x20_1, .int .i64 x20_2] ∧
      withP a1 fun g23 o23 =>
      (0 : Int) ≤ x5 ∧ x5 < (((n1 : Nat) : Int) : Int) ∧
      ∃ (x24_0 : Int) (x24_1 : Int) (x24_2 : Int),
      cellsAt w_3 g23 (o23 + x5.toNat * 3) [.int .i64 x24_0, .int .i64 x24_1, .int .i64 x24_2] ∧
      br (!((decide (x20_0 = x24_0)) && ((decide (x20_1 = x24_1)) && ((decide (x20_2 = x24_2)) && true)))) (
        K (.bool false) w_3
      ) (
        I (IntKind.i64.wrap (x5 + 1)) w_3 ∧ μ (IntKind.i64.wrap (x5 + 1)) w_3 < μ x5 w_2
      )
    ) (
      K (.bool true) w_2
    )
  )
def rlsame_notes : Notes := ⟨[(6, ⟨[0, 0, 3, 7, 0, 0, 48, 112, 255], [], [0, 1, 2, 3, 4, 5, 6, 7, 8]⟩)], [(4, ⟨[(5, .lf (.int .i64))], [], [11, 12, 13, 14, 17, 18, 19, 20, 21, 22, 23, 24, 25, 4, 15, 16, 5], []⟩)], []⟩
theorem rlsame_calls (a0 : Option Addr) (n0 : Nat) (c0 : Nat) (a1 : Option Addr) (n1 : Nat) (c1 : Nat) (w : World) (K : Value → World → Prop) (h : rlsame_vc a0 n0 c0 a1 n1 c1 w K) : Calls Try.prog 36 #[.slice a0 n0 c0, .slice a1 n1 c1] w fun e w' => ∃ v, e = .returned v ∧ K v w' :=
  calls_of_fvc envOk Try.func36 rlsame_notes [] [.slice a0 n0 c0, .slice a1 n1 c1] w K (use_vc h (by as_aux_lemma => kernel_rfl))
/-- purser/purserref11.Rate -/
def rrate_vc (x0_0 : Int) (x0_1 : Int) (x0_2 : Int) (x0_3 : Int) (x0_4 : Int) (x0_5 : Int) (a0_6 : Option Addr) (n0_6 : Nat) (c0_6 : Nat) (x0_7 : Int) (x0_8 : Int) (x0_9 : Int) (a0_10 : Option Addr) (n0_10 : Nat) (c0_10 : Nat) (x1 : Int) (x2 : Int) (x3 : Int) (w : World) (K : Value → World → Prop) : Prop :=
  newO w (.cells #[.int .i64 x0_0, .int .i64 x0_1, .int .i64 x0_2, .int .i64 x0_3, .int .i64 x0_4, .int .i64 x0_5, .slice a0_6 n0_6 c0_6, .int .i64 x0_7, .int .i64 x0_8, .int .i64 x0_9, .slice a0_10 n0_10 c0_10] 26) fun g w_2 =>
  newO w_2 (.cells #[.slice none 0 0, .int .i64 0, .int .i64 0, .int .i64 0] 67) fun g_2 w_3 =>
  Calls Try.prog 14 #[.agg #[.int .i64 x0_0, .int .i64 x0_1, .int .i64 x0_2, .int .i64 x0_3, .int .i64 x0_4, .int .i64 x0_5, .slice a0_6 n0_6 c0_6, .int .i64 x0_7, .int .i64 x0_8, .int .i64 x0_9, .slice a0_10 n0_10 c0_10]] w_3 fun e w_4 => KeepG [g_2, g] w_3 w_4 ∧
  ∃ (x18 : Int),
  e = .returned (.int .i64 x18) ∧
  br (decide (x18 ≠ 0)) (
    ∀ w_5 : World, BoxSt g_2 w_4 w_5 →
    K (.tuple #[.agg #[.slice none 0 0, .int .i64 0, .int .i64 0, .int .i64 0], .int .i64 1]) w_5
  ) (
    br (decide (x1 < 0)) (
      ∀ w_6 : World, BoxSt g_2 w_4 w_6 →
      K (.tuple #[.agg #[.slice none 0 0, .int .i64 0, .int .i64 0, .int .i64 0], .int .i64 1]) w_6
    ) (
      br (decide (x3 < 0)) (
        ∀ w_7 : World, BoxSt g_2 w_4 w_7 →
        K (.tuple #[.agg #[.slice none 0 0, .int .i64 0, .int .i64 0, .int .i64 0], .int .i64 1]) w_7
      ) (
        br (decide (x3 > 1073741824)) (
          ∀ w_8 : World, BoxSt g_2 w_4 w_8 →
          K (.tuple #[.agg #[.slice none 0 0, .int .i64 0, .int .i64 0, .int .i64 0], .int .i64 1]) w_8
        ) (
          newO w_4 (.cells #[.int .i64 0, .int .i64 0, .int .i64 0, .slice none 0 0] 24) fun g_3 w_9 =>
          ∀ w_10 : World, BoxSt g_3 w_9 w_10 →
          Calls Try.prog 38 #[.agg #[.int .i64 x0_0, .int .i64 x0_1, .int .i64 x0_2, .int .i64 x0_3, .int .i64 x0_4, .int .i64 x0_5, .slice a0_6 n0_6 c0_6, .int .i64 x0_7, .int .i64 x0_8, .int .i64 x0_9, .slice a0_10 n0_10 c0_10], .int .i64 x1] w_10 fun e_2 w_11 => KeepG [g_3, g_2, g] w_10 w_11 ∧
          ∃ (b37 : Bool),
          e_2 = .returned (.bool b37) ∧
          br b37 (
            ∀ w_12 : World, BoxSt g_3 w_11 w_12 →
            Calls Try.prog 68 #[.int .i64 x3, .int .i64 x0_9] w_12 fun e_3 w_13 => KeepG [g_3, g_2, g] w_12 w_13 ∧
            ∃ (x44_0 : Int) (b44_1 : Bool),
            e_3 = .returned (.tuple #[.int .i64 x44_0, .bool b44_1]) ∧
            Calls Try.prog 69 #[.agg #[.int .i64 x0_7, .int .i64 x0_8, .int .i64 x0_9, .slice a0_10 n0_10 c0_10], .int .i64 x2, .int .i64 x44_0] w_13 fun e_4 w_14 => KeepG [g_3, g_2, g] w_13 w_14 ∧
            ∃ (a51_0 : Option Addr) (n51_0 : Nat) (c51_0 : Nat) (x51_1 : Int),
            e_4 = .returned (.tuple #[.slice a51_0 n51_0 c51_0, .int .i64 x51_1]) ∧
            br (decide (x51_1 ≠ 0)) (
              ∀ w_15 : World, BoxSt g_2 w_14 w_15 →
              K (.tuple #[.agg #[.slice none 0 0, .int .i64 0, .int .i64 0, .int .i64 0], .int .i64 1]) w_15
            ) (
              Calls Try.prog 37 #[.slice a51_0 n51_0 c51_0] w_14 fun e_5 w_16 => KeepG [g_3, g_2, g] w_14 w_16 ∧
              ∃ (x59_0 : Int) (b59_1 : Bool),
              e_5 = .returned (.tuple #[.int .i64 x59_0, .bool b59_1]) ∧
              ∀ w_17 : World, BoxSt g_2 w_16 w_17 →
              K (.tuple #[.agg #[.slice a51_0 n51_0 c51_0, .int .i64 x44_0, .int .i64 x59_0, .int .i64 (IntKind.i64.wrap (x2 + x44_0))], .int .i64 0]) w_17
            )
          ) (
            Calls Try.prog 68 #[.int .i64 x3, .int .i64 x0_5] w_11 fun e_6 w_18 => KeepG [g_3, g_2, g] w_11 w_18 ∧
            ∃ (x44_0_2 : Int) (b44_1_2 : Bool),
            e_6 = .returned (.tuple #[.int .i64 x44_0_2, .bool b44_1_2]) ∧
            Calls Try.prog 69 #[.agg #[.int .i64 x0_3, .int .i64 x0_4, .int .i64 x0_5, .slice a0_6 n0_6 c0_6], .int .i64 x2, .int .i64 x44_0_2] w_18 fun e_7 w_19 => KeepG [g_3, g_2, g] w_18 w_19 ∧
            ∃ (a51_0_2 : Option Addr) (n51_0_2 : Nat) (c51_0_2 : Nat) (x51_1_2 : Int),
            e_7 = .returned (.tuple #[.slice a51_0_2 n51_0_2 c51_0_2, .int .i64 x51_1_2]) ∧
            br (decide (x51_1_2 ≠ 0)) (
              ∀ w_20 : World, BoxSt g_2 w_19 w_20 →
              K (.tuple #[.agg #[.slice none 0 0, .int .i64 0, .int .i64 0, .int .i64 0], .int .i64 1]) w_20
            ) (
              Calls Try.prog 37 #[.slice a51_0_2 n51_0_2 c51_0_2] w_19 fun e_8 w_21 => KeepG [g_3, g_2, g] w_19 w_21 ∧
              ∃ (x59_0_2 : Int) (b59_1_2 : Bool),
              e_8 = .returned (.tuple #[.int .i64 x59_0_2, .bool b59_1_2]) ∧
              ∀ w_22 : World, BoxSt g_2 w_21 w_22 →
              K (.tuple #[.agg #[.slice a51_0_2 n51_0_2 c51_0_2, .int .i64 x44_0_2, .int .i64 x59_0_2, .int .i64 (IntKind.i64.wrap (x2 + x44_0_2))], .int .i64 0]) w_22
            )
          )
        )
      )
    )
  )
def rrate_notes : Notes := ⟨[], [], []⟩
theorem rrate_calls (x0_0 : Int) (x0_1 : Int) (x0_2 : Int) (x0_3 : Int) (x0_4 : Int) (x0_5 : Int) (a0_6 : Option Addr) (n0_6 : Nat) (c0_6 : Nat) (x0_7 : Int) (x0_8 : Int) (x0_9 : Int) (a0_10 : Option Addr) (n0_10 : Nat) (c0_10 : Nat) (x1 : Int) (x2 : Int) (x3 : Int) (w : World) (K : Value → World → Prop) (h : rrate_vc x0_0 x0_1 x0_2 x0_3 x0_4 x0_5 a0_6 n0_6 c0_6 x0_7 x0_8 x0_9 a0_10 n0_10 c0_10 x1 x2 x3 w K) : Calls Try.prog 31 #[.agg #[.int .i64 x0_0, .int .i64 x0_1, .int .i64 x0_2, .int .i64 x0_3, .int .i64 x0_4, .int .i64 x0_5, .slice a0_6 n0_6 c0_6, .int .i64 x0_7, .int .i64 x0_8, .int .i64 x0_9, .slice a0_10 n0_10 c0_10], .int .i64 x1, .int .i64 x2, .int .i64 x3] w fun e w' => ∃ v, e = .returned v ∧ K v w' :=
  calls_of_fvc envOk Try.func31 rrate_notes [4, 8, 10] [.agg #[.int .i64 x0_0, .int .i64 x0_1, .int .i64 x0_2, .int .i64 x0_3, .int .i64 x0_4, .int .i64 x0_5, .slice a0_6 n0_6 c0_6, .int .i64 x0_7, .int .i64 x0_8, .int .i64 x0_9, .slice a0_10 n0_10 c0_10], .int .i64 x1, .int .i64 x2, .int .i64 x3] w K (use_vc h (by as_aux_lemma => kernel_rfl))
/-- purser/purserref11.Dear -/
def rdear_vc (x0_0 : Int) (x0_1 : Int) (x0_2 : Int) (x0_3 : Int) (x0_4 : Int) (x0_5 : Int) (a0_6 : Option Addr) (n0_6 : Nat) (c0_6 : Nat) (x0_7 : Int) (x0_8 : Int) (x0_9 : Int) (a0_10 : Option Addr) (n0_10 : Nat) (c0_10 : Nat) (w : World) (K : Value → World → Prop) : Prop :=
  newO w (.cells #[.int .i64 x0_0, .int .i64 x0_1, .int .i64 x0_2, .int .i64 x0_3, .int .i64 x0_4, .int .i64 x0_5, .slice a0_6 n0_6 c0_6, .int .i64 x0_7, .int .i64 x0_8, .int .i64 x0_9, .slice a0_10 n0_10 c0_10] 26) fun g w_2 =>
  drewO w_2 fun w_3 =>
  newO w_3 (.cells #[] 120) fun g_2 w_4 =>
  appO Try.prog [g] w_4 120 2 16 22 (some ⟨g_2, 0, none⟩) 0 0 (.slice a0_6 n0_6 c0_6) fun m10 a10 c10 w_5 =>
  appO Try.prog [g] w_5 120 2 16 22 a10 (0 + m10) c10 (.slice a0_10 n0_10 c0_10) fun m14 a14 c14 w_6 =>
  ∃ (I : Int → Int → World → Prop) (μ : Int → Int → World → Nat),
  I 0 0 w_6 ∧
  ∀ (x3 : Int) (x5 : Int) (w_7 : World), I x3 x5 w_7 →
  br (decide (x5 < (((0 + m10) + m14 : Nat) : Int))) (
    withP a14 fun g24 o24 =>
    (0 : Int) ≤ x5 ∧ x5 < ((((0 + m10) + m14 : Nat) : Int) : Int) ∧
    ∃ (x26 : Int), w_7.cell? ⟨g24, o24 + x5.toNat * 2 + 1, none⟩ = some (.int .i64 x26) ∧
    I (max x3 x26) (IntKind.i64.wrap (x5 + 1)) w_7 ∧ μ (max x3 x26) (IntKind.i64.wrap (x5 + 1)) w_7 < μ x3 x5 w_7
  ) (
    K (.int .i64 x3) w_7
  )
def rdear_notes : Notes := ⟨[(2, ⟨[0, 0, 2, 6, 15, 0, 32, 96, 255, 511], [0, 4, 8], [1, 2, 3, 5, 6, 7, 9]⟩)], [(4, ⟨[(3, .lf (.int .i64)), (5, .lf (.int .i64))], [], [15, 16, 17, 18, 21, 22, 23, 24, 25, 26, 27, 3, 19, 20, 5], []⟩)], []⟩
theorem rdear_calls (x0_0 : Int) (x0_1 : Int) (x0_2 : Int) (x0_3 : Int) (x0_4 : Int) (x0_5 : Int) (a0_6 : Option Addr) (n0_6 : Nat) (c0_6 : Nat) (x0_7 : Int) (x0_8 : Int) (x0_9 : Int) (a0_10 : Option Addr) (n0_10 : Nat) (c0_10 : Nat) (w : World) (K : Value → World → Prop) (h : rdear_vc x0_0 x0_1 x0_2 x0_3 x0_4 x0_5 a0_6 n0_6 c0_6 x0_7 x0_8 x0_9 a0_10 n0_10 c0_10 w K) : Calls Try.prog 70 #[.agg #[.int .i64 x0_0, .int .i64 x0_1, .int .i64 x0_2, .int .i64 x0_3, .int .i64 x0_4, .int .i64 x0_5, .slice a0_6 n0_6 c0_6, .int .i64 x0_7, .int .i64 x0_8, .int .i64 x0_9, .slice a0_10 n0_10 c0_10]] w fun e w' => ∃ v, e = .returned v ∧ K v w' :=
  calls_of_fvc envOk Try.func70 rdear_notes [1] [.agg #[.int .i64 x0_0, .int .i64 x0_1, .int .i64 x0_2, .int .i64 x0_3, .int .i64 x0_4, .int .i64 x0_5, .slice a0_6 n0_6 c0_6, .int .i64 x0_7, .int .i64 x0_8, .int .i64 x0_9, .slice a0_10 n0_10 c0_10]] w K (use_vc h (by as_aux_lemma => kernel_rfl))
/-- purser/purserref11.Worst -/
def rworst_vc (x0_0 : Int) (x0_1 : Int) (x0_2 : Int) (x0_3 : Int) (x0_4 : Int) (x0_5 : Int) (a0_6 : Option Addr) (n0_6 : Nat) (c0_6 : Nat) (x0_7 : Int) (x0_8 : Int) (x0_9 : Int) (a0_10 : Option Addr) (n0_10 : Nat) (c0_10 : Nat) (x1 : Int) (w : World) (K : Value → World → Prop) : Prop :=
  newO w (.cells #[.int .i64 x0_0, .int .i64 x0_1, .int .i64 x0_2, .int .i64 x0_3, .int .i64 x0_4, .int .i64 x0_5, .slice a0_6 n0_6 c0_6, .int .i64 x0_7, .int .i64 x0_8, .int .i64 x0_9, .slice a0_10 n0_10 c0_10] 26) fun g w_2 =>
  Calls Try.prog 14 #[.agg #[.int .i64 x0_0, .int .i64 x0_1, .int .i64 x0_2, .int .i64 x0_3, .int .i64 x0_4, .int .i64 x0_5, .slice a0_6 n0_6 c0_6, .int .i64 x0_7, .int .i64 x0_8, .int .i64 x0_9, .slice a0_10 n0_10 c0_10]] w_2 fun e w_3 => KeepG [g] w_2 w_3 ∧
  ∃ (x9 : Int),
  e = .returned (.int .i64 x9) ∧
  br (decide (x9 ≠ 0)) (
    K (.tuple #[.int .i64 0, .int .i64 1]) w_3
  ) (
    br (decide (x1 < 0)) (
      K (.tuple #[.int .i64 0, .int .i64 1]) w_3
    ) (
      br (decide (x1 > 1073741824)) (
        K (.tuple #[.int .i64 0, .int .i64 1]) w_3
      ) (
        Calls Try.prog 68 #[.int .i64 x1, .int .i64 x0_5] w_3 fun e_2 w_4 => KeepG [g] w_3 w_4 ∧
        ∃ (x24_0 : Int) (b24_1 : Bool),
        e_2 = .returned (.tuple #[.int .i64 x24_0, .bool b24_1]) ∧
        Calls Try.prog 70 #[.agg #[.int .i64 x0_0, .int .i64 x0_1, .int .i64 x0_2, .int .i64 x0_3, .int .i64 x0_4, .int .i64 x0_5, .slice a0_6 n0_6 c0_6, .int .i64 x0_7, .int .i64 x0_8, .int .i64 x0_9, .slice a0_10 n0_10 c0_10]] w_4 fun e_3 w_5 => KeepG [g] w_4 w_5 ∧
        ∃ (x29 : Int),
        e_3 = .returned (.int .i64 x29) ∧
        K (.tuple #[.int .i64 (IntKind.i64.wrap (x24_0 * x29)), .int .i64 0]) w_5
      )
    )
  )
def rworst_notes : Notes := ⟨[], [], []⟩
theorem rworst_calls (x0_0 : Int) (x0_1 : Int) (x0_2 : Int) (x0_3 : Int) (x0_4 : Int) (x0_5 : Int) (a0_6 : Option Addr) (n0_6 : Nat) (c0_6 : Nat) (x0_7 : Int) (x0_8 : Int) (x0_9 : Int) (a0_10 : Option Addr) (n0_10 : Nat) (c0_10 : Nat) (x1 : Int) (w : World) (K : Value → World → Prop) (h : rworst_vc x0_0 x0_1 x0_2 x0_3 x0_4 x0_5 a0_6 n0_6 c0_6 x0_7 x0_8 x0_9 a0_10 n0_10 c0_10 x1 w K) : Calls Try.prog 32 #[.agg #[.int .i64 x0_0, .int .i64 x0_1, .int .i64 x0_2, .int .i64 x0_3, .int .i64 x0_4, .int .i64 x0_5, .slice a0_6 n0_6 c0_6, .int .i64 x0_7, .int .i64 x0_8, .int .i64 x0_9, .slice a0_10 n0_10 c0_10], .int .i64 x1] w fun e w' => ∃ v, e = .returned v ∧ K v w' :=
  calls_of_fvc envOk Try.func32 rworst_notes [2] [.agg #[.int .i64 x0_0, .int .i64 x0_1, .int .i64 x0_2, .int .i64 x0_3, .int .i64 x0_4, .int .i64 x0_5, .slice a0_6 n0_6 c0_6, .int .i64 x0_7, .int .i64 x0_8, .int .i64 x0_9, .slice a0_10 n0_10 c0_10], .int .i64 x1] w K (use_vc h (by as_aux_lemma => kernel_rfl))
/-- purser/purserref11.Fit -/
def rfit_vc (x0_0 : Int) (x0_1 : Int) (x0_2 : Int) (x0_3 : Int) (x0_4 : Int) (x0_5 : Int) (a0_6 : Option Addr) (n0_6 : Nat) (c0_6 : Nat) (x0_7 : Int) (x0_8 : Int) (x0_9 : Int) (a0_10 : Option Addr) (n0_10 : Nat) (c0_10 : Nat) (x1 : Int) (x2 : Int) (w : World) (K : Value → World → Prop) : Prop :=
  newO w (.cells #[.int .i64 x0_0, .int .i64 x0_1, .int .i64 x0_2, .int .i64 x0_3, .int .i64 x0_4, .int .i64 x0_5, .slice a0_6 n0_6 c0_6, .int .i64 x0_7, .int .i64 x0_8, .int .i64 x0_9, .slice a0_10 n0_10 c0_10] 26) fun g w_2 =>
  Calls Try.prog 14 #[.agg #[.int .i64 x0_0, .int .i64 x0_1, .int .i64 x0_2, .int .i64 x0_3, .int .i64 x0_4, .int .i64 x0_5, .slice a0_6 n0_6 c0_6, .int .i64 x0_7, .int .i64 x0_8, .int .i64 x0_9, .slice a0_10 n0_10 c0_10]] w_2 fun e w_3 => KeepG [g] w_2 w_3 ∧
  ∃ (x17 : Int),
  e = .returned (.int .i64 x17) ∧
  br (decide (x17 ≠ 0)) (
    K (.tuple #[.int .i64 0, .int .i64 0, .int .i64 1]) w_3
  ) (
    br (decide (x2 < 0)) (
      K (.tuple #[.int .i64 0, .int .i64 0, .int .i64 1]) w_3
    ) (
      br (decide (x2 > 1073741824)) (
        K (.tuple #[.int .i64 0, .int .i64 0, .int .i64 1]) w_3
      ) (
        br (decide (x1 < 0)) (
          K (.tuple #[.int .i64 0, .int .i64 0, .int .i64 1]) w_3
        ) (
          ∃ (I : Int → Int → World → Prop) (μ : Int → Int → World → Nat),
          I 0 x2 w_3 ∧
          ∀ (x9 : Int) (x10 : Int) (w_4 : World), I x9 x10 w_4 →
          br (decide (x9 < x10)) (
            (2 : Int) ≠ 0 ∧
            Calls Try.prog 32 #[.agg #[.int .i64 x0_0, .int .i64 x0_1, .int .i64 x0_2, .int .i64 x0_3, .int .i64 x0_4, .int .i64 x0_5, .slice a0_6 n0_6 c0_6, .int .i64 x0_7, .int .i64 x0_8, .int .i64 x0_9, .slice a0_10 n0_10 c0_10], .int .i64 (IntKind.i64.wrap (x9 + (IntKind.i64.wrap (Int.tdiv (IntKind.i64.wrap ((IntKind.i64.wrap (x10 - x9)) + 1)) 2))))] w_4 fun e_2 w_5 => KeepG [g] w_4 w_5 ∧
            ∃ (x45_0 : Int) (x45_1 : Int),
            e_2 = .returned (.tuple #[.int .i64 x45_0, .int .i64 x45_1]) ∧
            br (decide (x45_0 ≤ x1)) (
              I (IntKind.i64.wrap (x9 + (IntKind.i64.wrap (Int.tdiv (IntKind.i64.wrap ((IntKind.i64.wrap (x10 - x9)) + 1)) 2)))) x10 w_5 ∧ μ (IntKind.i64.wrap (x9 + (IntKind.i64.wrap (Int.tdiv (IntKind.i64.wrap ((IntKind.i64.wrap (x10 - x9)) + 1)) 2)))) x10 w_5 < μ x9 x10 w_4
            ) (
              I x9 (IntKind.i64.wrap ((IntKind.i64.wrap (x9 + (IntKind.i64.wrap (Int.tdiv (IntKind.i64.wrap ((IntKind.i64.wrap (x10 - x9)) + 1)) 2)))) - 1)) w_5 ∧ μ x9 (IntKind.i64.wrap ((IntKind.i64.wrap (x9 + (IntKind.i64.wrap (Int.tdiv (IntKind.i64.wrap ((IntKind.i64.wrap (x10 - x9)) + 1)) 2)))) - 1)) w_5 < μ x9 x10 w_4
            )
          ) (
            Calls Try.prog 32 #[.agg #[.int .i64 x0_0, .int .i64 x0_1, .int .i64 x0_2, .int .i64 x0_3, .int .i64 x0_4, .int .i64 x0_5, .slice a0_6 n0_6 c0_6, .int .i64 x0_7, .int .i64 x0_8, .int .i64 x0_9, .slice a0_10 n0_10 c0_10], .int .i64 x9] w_4 fun e_3 w_6 => KeepG [g] w_4 w_6 ∧
            ∃ (x57_0 : Int) (x57_1 : Int),
            e_3 = .returned (.tuple #[.int .i64 x57_0, .int .i64 x57_1]) ∧
            K (.tuple #[.int .i64 x9, .int .i64 x57_0, .int .i64 0]) w_6
          )
        )
      )
    )
  )
def rfit_notes : Notes := ⟨[], [(4, ⟨[(9, .lf (.int .i64)), (10, .lf (.int .i64))], [], [32, 33, 34, 35, 36, 37, 38, 39, 40, 41, 11, 43, 44, 45, 42, 46, 47, 12, 13, 48, 49, 50, 51, 9, 52, 53, 10], []⟩)], []⟩
theorem rfit_calls (x0_0 : Int) (x0_1 : Int) (x0_2 : Int) (x0_3 : Int) (x0_4 : Int) (x0_5 : Int) (a0_6 : Option Addr) (n0_6 : Nat) (c0_6 : Nat) (x0_7 : Int) (x0_8 : Int) (x0_9 : Int) (a0_10 : Option Addr) (n0_10 : Nat) (c0_10 : Nat) (x1 : Int) (x2 : Int) (w : World) (K : Value → World → Prop) (h : rfit_vc x0_0 x0_1 x0_2 x0_3 x0_4 x0_5 a0_6 n0_6 c0_6 x0_7 x0_8 x0_9 a0_10 n0_10 c0_10 x1 x2 w K) : Calls Try.prog 34 #[.agg #[.int .i64 x0_0, .int .i64 x0_1, .int .i64 x0_2, .int .i64 x0_3, .int .i64 x0_4, .int .i64 x0_5, .slice a0_6 n0_6 c0_6, .int .i64 x0_7, .int .i64 x0_8, .int .i64 x0_9, .slice a0_10 n0_10 c0_10], .int .i64 x1, .int .i64 x2] w fun e w' => ∃ v, e = .returned v ∧ K v w' :=
  calls_of_fvc envOk Try.func34 rfit_notes [3] [.agg #[.int .i64 x0_0, .int .i64 x0_1, .int .i64 x0_2, .int .i64 x0_3, .int .i64 x0_4, .int .i64 x0_5, .slice a0_6 n0_6 c0_6, .int .i64 x0_7, .int .i64 x0_8, .int .i64 x0_9, .slice a0_10 n0_10 c0_10], .int .i64 x1, .int .i64 x2] w K (use_vc h (by as_aux_lemma => kernel_rfl))
end GTar
end Go.Proofs.Ytecmpjccdhmeeaa
end
section
/- Tariffs and plans: are they ones; which is it; the dearest; walked. -/
namespace Go.Proofs.Ytecmpjccdhmeeaa
open Go.RowKit
def trCells (t : Tr) : List Value := [.int .i64 t.upto, .int .i64 t.price]
theorem tr_len (t : Tr) : (trCells t).length = 2 := rfl
theorem tr_one (t : Tr) : ∀ v ∈ trCells t, v.oneCell' = true := by
  intro v hv
  simp [trCells] at hv
  rcases hv with rfl | rfl <;> rfl
abbrev TsAt (n0 : Nat) (w : World) (a : Option Addr) (ts : List Tr) : Prop := Rws trCells 2 n0 w a ts
def tarV (t : Tar) (a : Option Addr) (c : Nat) : Value := .agg #[.int .i64 t.grp, .int .i64 t.mode, .int .i64 t.block, .slice a t.ts.length c]
def planV (p : Pl) (a : Option Addr) (c : Nat) (a2 : Option Addr) (c2 : Nat) : Value :=
  .agg #[.int .i64 p.day, .int .i64 p.frm, .int .i64 p.til, .int .i64 p.base.grp, .int .i64 p.base.mode, .int .i64 p.base.block, .slice a p.base.ts.length c, .int .i64 p.other.grp, .int .i64 p.other.mode, .int .i64 p.other.block, .slice a2 p.other.ts.length c2]
/-- A plan's tiers lie in memory, not too many. -/
structure PlAt (w : World) (p : Pl) (a a2 : Option Addr) : Prop where
  base : TsAt 0 w a p.base.ts
  other : TsAt 0 w a2 p.other.ts
  lb : p.base.ts.length ≤ 1000
  lo : p.other.ts.length ≤ 1000
theorem PlAt.to {w w' : World} {p : Pl} {a a2 : Option Addr} (h : PlAt w p a a2) (b : Below w.heap.size w w') : PlAt w' p a a2 := ⟨h.base.below b, h.other.below b, h.lb, h.lo⟩
theorem within_ret (x lo hi : Int) (w : World) : Calls Try.prog 60 #[.int .i64 x, .int .i64 lo, .int .i64 hi] w (Ret (.bool (decide (lo ≤ x ∧ x ≤ hi))) w) := by
  refine ret_in (GTar.within_calls x lo hi w (fun u w' => u = .bool (decide (lo ≤ x ∧ x ≤ hi)) ∧ Below w.heap.size w w') ?_)
  unfold GTar.within_vc
  refine br_dec (fun h => ⟨?_, Bs.refl _⟩) fun h => ⟨?_, Bs.refl _⟩
  · congr 1; exact decide_eq_decide.2 (by omega)
  · congr 1; exact (decide_eq_false (by omega)).symm
theorem tiersE_cons (ahead : Int) (t : Tr) (r : List Tr) : tiersE ahead (t :: r) = if ¬ (0 ≤ t.price ∧ t.price ≤ 1048576) then 1 else if r = [] then (if t.upto ≠ 0 then 15 else 0) else if ¬ (ahead + 1 ≤ t.upto ∧ t.upto ≤ 1099511627776) then 15 else tiersE t.upto r := rfl
theorem tiers_ret (a : Option Addr) (c : Nat) (ts : List Tr) (w : World) (h : TsAt 0 w a ts) (hl : ts.length ≤ 1000) : Calls Try.prog 85 #[.slice a ts.length c] w (Ret (.int .i64 (tiersE 0 ts)) w) := by
  refine ret_in (GTar.tiers_calls a ts.length c w (fun u w' => u = .int .i64 (tiersE 0 ts) ∧ Below w.heap.size w w') ?_)
  unfold GTar.tiers_vc
  refine ⟨fun x y wx => ∃ i : Nat, y = i ∧ i ≤ ts.length ∧ tiersE 0 ts = tiersE x (ts.drop i) ∧ 0 ≤ x ∧ x ≤ 1099511627776 ∧ Bs w wx, fun _ y _ => ts.length - y.toNat, ⟨0, rfl, by omega, by simp, by omega, by omega, Bs.refl _⟩, ?_⟩
  rintro x y wx ⟨i, rfl, hi, he, hx0, hx1, B⟩
  refine br_dec (fun hlt => ?_) fun hge => ?_
  · have hil : i < ts.length := by omega
    obtain ⟨b, off, rfl, hc⟩ := (h.below B).get hil
    have hlast : (ts.drop (i + 1) = []) ↔ i = ts.length - 1 := by rw [List.drop_eq_nil_iff]; omega
    rw [List.drop_eq_getElem_cons hil, tiersE_cons] at he
    refine ⟨by omega, by omega, ts[i].upto, ts[i].price, by rw [Int.toNat_natCast]; exact hc, newB B fun g w3 g0 sg n3 z3 b3 B3 => boxB B3 g0 fun w4 h4 B4 z4 => callB B4 (within_ret _ _ _ _) fun w5 b5 B5 => ⟨_, rfl, ?_⟩⟩
    refine br_not (br_dec (fun hp => ?_) fun hp => ⟨by rw [he, if_pos hp], B5⟩)
    rw [if_neg (not_not_intro hp)] at he
    rw [wr64 (show -9223372036854775808 ≤ ((ts.length : Nat) : Int) - 1 by omega) (by omega), wr64 (show -9223372036854775808 ≤ ((i : Nat) : Int) + 1 by omega) (by omega), wr64 (show -9223372036854775808 ≤ x + 1 by omega) (by omega)]
    have next : ∀ wy, Bs w wy → 0 ≤ ts[i].upto → ts[i].upto ≤ 1099511627776 → tiersE 0 ts = tiersE ts[i].upto (ts.drop (i + 1)) → (∃ j : Nat, ((i : Nat) : Int) + 1 = j ∧ j ≤ ts.length ∧ tiersE 0 ts = tiersE ts[i].upto (ts.drop j) ∧ 0 ≤ ts[i].upto ∧ ts[i].upto ≤ 1099511627776 ∧ Bs w wy) ∧ ts.length - (((i : Nat) : Int) + 1).toNat < ts.length - ((i : Nat) : Int).toNat :=
      fun wy By h0 h1 h2 => ⟨⟨i + 1, by omega, by omega, h2, h0, h1, By⟩, by omega⟩
    by_cases hla : i = ts.length - 1
    · rw [if_pos (hlast.2 hla)] at he
      refine br_y (by omega) (br_dec (fun hu => ⟨by rw [he, if_pos hu], B5⟩) fun hu => br_f (by simp; omega) ?_)
      have hu := Decidable.not_not.1 hu
      exact next w5 B5 (by omega) (by omega) (by rw [he, if_neg (not_not_intro hu), hlast.2 hla]; rfl)
    · rw [if_neg (fun h => hla (hlast.1 h))] at he
      refine br_n (by omega) (br_t (by simp; omega) (callB B5 (within_ret _ _ _ _) fun w6 b6 B6 => ⟨_, rfl, br_not (br_dec (fun hu => ?_) fun hu => ⟨by rw [he, if_pos hu], B6⟩)⟩))
      exact next w6 B6 (by omega) (by omega) (by rw [he, if_neg (not_not_intro hu)])
  · obtain rfl : i = ts.length := by omega
    refine ⟨?_, B⟩
    rw [he, List.drop_length]; rfl
theorem check_ret (t : Tar) (a : Option Addr) (c : Nat) (w : World) (h : TsAt 0 w a t.ts) (hl : t.ts.length ≤ 1000) : Calls Try.prog 58 #[tarV t a c] w (Ret (.int .i64 (chkE t)) w) := by
  refine ret_in (GTar.check_calls t.grp t.mode t.block a t.ts.length c w (fun u w' => u = .int .i64 (chkE t) ∧ Below w.heap.size w w') ?_)
  unfold GTar.check_vc chkE
  refine newB (Bs.refl w) fun g w2 g0 sg n2 z2 b2 B2 => callB B2 (within_ret _ _ _ _) fun w3 b3 B3 => ⟨_, rfl, br_not (br_dec (fun h1 => ?_) fun h1 => ⟨by rw [if_pos (by omega)], B3⟩)⟩
  refine callB B3 (within_ret _ _ _ _) fun w4 b4 B4 => ⟨_, rfl, br_not (br_dec (fun h2 => ?_) fun h2 => ⟨by rw [if_pos (by omega)], B4⟩)⟩
  rw [if_neg (by omega)]
  have rest : ∀ w4, Bs w w4 → ¬ (t.mode ≠ 1 ∧ t.mode ≠ 2) → Calls Try.prog 60 #[.int .i64 ((t.ts.length : Nat) : Int), .int .i64 1, .int .i64 6] w4 fun e w5 => KeepG [g] w4 w5 ∧ ∃ b : Bool, e = .returned (.bool b) ∧ br (!b) (Value.int .i64 5 = .int .i64 (if t.mode ≠ 1 ∧ t.mode ≠ 2 then 21 else if ¬ (1 ≤ t.ts.length ∧ t.ts.length ≤ 6) then 5 else tiersE 0 t.ts) ∧ Below w.heap.size w w5)
      (Calls Try.prog 85 #[.slice a t.ts.length c] w5 fun e w6 => KeepG [g] w5 w6 ∧ ∃ x : Int, e = .returned (.int .i64 x) ∧ (Value.int .i64 x = .int .i64 (if t.mode ≠ 1 ∧ t.mode ≠ 2 then 21 else if ¬ (1 ≤ t.ts.length ∧ t.ts.length ≤ 6) then 5 else tiersE 0 t.ts) ∧ Below w.heap.size w w6)) := by
    intro w4 B4 hm
    refine callB B4 (within_ret _ _ _ _) fun w5 b5 B5 => ⟨_, rfl, br_not (br_dec (fun h3 => ?_) fun h3 => ⟨by rw [if_neg hm, if_pos (by omega)], B5⟩)⟩
    exact callB B5 (tiers_ret a c t.ts w5 (h.below B5) hl) fun w6 b6 B6 => ⟨_, rfl, by rw [if_neg hm, if_neg (by omega)], B6⟩
  refine br_dec (fun h3 => br_dec (fun h4 => ⟨by rw [if_pos ⟨h3, h4⟩], B4⟩) fun h4 => rest w4 B4 (by omega)) fun h3 => rest w4 B4 (by omega)
theorem nothing_ret (t : Tar) (a : Option Addr) (c : Nat) (w : World) : Calls Try.prog 59 #[tarV t a c] w (Ret (.bool (decide (nothingT t))) w) := by
  refine ret_in (GTar.nothing_calls t.grp t.mode t.block a t.ts.length c w (fun u w' => u = .bool (decide (nothingT t)) ∧ Below w.heap.size w w') ?_)
  unfold GTar.nothing_vc nothingT
  refine newB (Bs.refl w) fun g w2 g0 sg n2 z2 b2 B2 => br_dec (fun h1 => br_dec (fun h2 => br_dec (fun h3 => ⟨?_, B2⟩) fun h => ⟨?_, B2⟩) fun h => ⟨?_, B2⟩) fun h => ⟨?_, B2⟩
  · congr 1
    exact decide_eq_decide.2 ⟨fun h => ⟨h1, h2, h3, List.length_eq_zero_iff.1 (by omega)⟩, fun h => by rw [h.2.2.2]; rfl⟩
  · congr 1; exact (decide_eq_false fun k => h k.2.2.1).symm
  · congr 1; exact (decide_eq_false fun k => h k.2.1).symm
  · congr 1; exact (decide_eq_false fun k => h k.1).symm
theorem cplan_ret (p : Pl) (a a2 : Option Addr) (c c2 : Nat) (w : World) (h : PlAt w p a a2) (hd : -9223372036854775808 ≤ p.day) (hd2 : p.day ≤ 9223372036854775807) : Calls Try.prog 22 #[planV p a c a2 c2] w (Ret (.int .i64 (planE p)) w) := by
  refine ret_in (GTar.cplan_calls p.day p.frm p.til p.base.grp p.base.mode p.base.block a p.base.ts.length c p.other.grp p.other.mode p.other.block a2 p.other.ts.length c2 w (fun u w' => u = .int .i64 (planE p) ∧ Below w.heap.size w w') ?_)
  unfold GTar.cplan_vc planE
  refine newB (Bs.refl w) fun g w2 g0 sg n2 z2 b2 B2 => callB B2 (check_ret p.base a c w2 (h.base.below B2) h.lb) fun w3 b3 B3 => ⟨_, rfl, br_dec (fun h1 => ⟨by rw [if_pos h1], B3⟩) fun h1 => ?_⟩
  rw [if_neg h1]
  refine br_dec (fun h0 => ?_) fun h0 => ?_
  · rw [if_pos h0]
    refine br_dec (fun h2 => ⟨by rw [if_neg (fun k => h2 k.1)], B3⟩) fun h2 => br_dec (fun h3 => ⟨by rw [if_neg (fun k => h3 k.2.1)], B3⟩) fun h3 => callB B3 (nothing_ret p.other a2 c2 w3) fun w4 b4 B4 => ⟨_, rfl, br_not (br_dec (fun h4 => ⟨?_, B4⟩) fun h4 => ⟨by rw [if_neg (fun k => h4 k.2.2)], B4⟩)⟩
    rw [if_pos ⟨Decidable.not_not.1 h2, Decidable.not_not.1 h3, h4⟩]
  · rw [if_neg h0]
    have no : ∀ {q : Prop}, ¬ q → (dayOk p → q) → ∀ z : Int, (1 : Int) = if ¬ dayOk p then 1 else z := fun hq hk z => by rw [if_pos fun k => hq (hk k)]
    refine callB B3 (within_ret _ _ _ _) fun w4 b4 B4 => ⟨_, rfl, br_not (br_dec (fun h2 => ?_) fun h2 => ⟨by rw [← no h2 fun k => k.1], B4⟩)⟩
    rw [wr64 (show -9223372036854775808 ≤ p.day - 1 by omega) (by omega)]
    refine callB B4 (within_ret _ _ _ _) fun w5 b5 B5 => ⟨_, rfl, br_not (br_dec (fun h3 => ?_) fun h3 => ⟨by rw [← no h3 fun k => k.2.1], B5⟩)⟩
    refine callB B5 (within_ret _ _ _ _) fun w6 b6 B6 => ⟨_, rfl, br_not (br_dec (fun h4 => ?_) fun h4 => ⟨by rw [← no h4 fun k => k.2.2.1], B6⟩)⟩
    refine br_dec (fun h5 => ⟨by rw [← no (not_not_intro h5) fun k => k.2.2.2], B6⟩) fun h5 => ?_
    rw [if_neg (not_not_intro (show dayOk p from ⟨h2, h3, h4, h5⟩))]
    refine callB B6 (check_ret p.other a2 c2 w6 (h.other.below B6) h.lo) fun w7 b7 B7 => ⟨_, rfl, br_dec (fun h6 => ⟨by rw [if_pos h6], B7⟩) fun h6 => ?_⟩
    rw [if_neg h6]
    exact br_dec (fun h7 => ⟨by rw [if_pos (.inl h7)], B7⟩) fun h7 => br_dec (fun h8 => ⟨by rw [if_pos (.inr h8)], B7⟩) fun h8 => ⟨by rw [if_neg (by omega)], B7⟩
theorem isOther_day {p : Pl} {now : Int} (h : p.day ≠ 0) : isOther p now ↔ if p.frm < p.til then p.frm ≤ Int.tmod now p.day ∧ Int.tmod now p.day < p.til else p.frm ≤ Int.tmod now p.day ∨ Int.tmod now p.day < p.til := ⟨fun k => k.2, fun k => ⟨h, k⟩⟩
theorem other_ret (p : Pl) (a a2 : Option Addr) (c c2 : Nat) (now : Int) (w : World) : Calls Try.prog 78 #[planV p a c a2 c2, .int .i64 now] w (Ret (.bool (decide (isOther p now))) w) := by
  refine ret_in (GTar.other_calls p.day p.frm p.til p.base.grp p.base.mode p.base.block a p.base.ts.length c p.other.grp p.other.mode p.other.block a2 p.other.ts.length c2 now w (fun u w' => u = .bool (decide (isOther p now)) ∧ Below w.heap.size w w') ?_)
  unfold GTar.other_vc
  refine newB (Bs.refl w) fun g w2 g0 sg n2 z2 b2 B2 => br_dec (fun h0 => ⟨by rw [decide_eq_false fun k => k.1 h0], B2⟩) fun h0 => ⟨h0, drewB B2 fun w3 b3 B3 _ => ?_⟩
  refine br_dec (fun h1 => br_dec (fun h2 => ⟨?_, B3⟩) fun h2 => ⟨?_, B3⟩) fun h1 => br_dec (fun h2 => ⟨?_, B3⟩) fun h2 => ⟨?_, B3⟩
  · congr 1; exact decide_eq_decide.2 (by rw [isOther_day h0, if_pos h1]; omega)
  · congr 1; exact (decide_eq_false (by rw [isOther_day h0, if_pos h1]; omega)).symm
  · congr 1; exact (decide_eq_true (by rw [isOther_day h0, if_neg h1]; omega)).symm
  · congr 1; exact decide_eq_decide.2 (by rw [isOther_day h0, if_neg h1]; omega)
theorem clone_new (a : Option Addr) (c : Nat) (ts : List Tr) (w : World) (h : TsAt 0 w a ts) (hl : ts.length ≤ 1000) :
    Calls Try.prog 96 #[.slice a ts.length c] w fun e w' => (∃ a' c', e = .returned (.slice a' ts.length c') ∧ TsAt w.heap.size w' a' ts) ∧ Below w.heap.size w w' := by
  refine (GTar.clone_calls a ts.length c w (fun u w' => (∃ a' c', u = .slice a' ts.length c' ∧ TsAt w.heap.size w' a' ts) ∧ Below w.heap.size w w') ?_).mono (by rintro e w' ⟨v, rfl, ⟨a', c', rfl, h⟩, h2⟩; exact ⟨⟨a', c', rfl, h⟩, h2⟩)
  unfold GTar.clone_vc
  cases a with
  | none =>
    have h0 : ts = [] := by
      rcases h with h | ⟨b, off, ha, _⟩
      · exact h
      · cases ha
    subst h0
    exact br_t rfl ⟨⟨none, 0, rfl, Rws.nil⟩, Bs.refl _⟩
  | some ad =>
    refine br_f rfl (newB (Bs.refl w) fun g w2 g0 sg n2 z2 b2 B2 => ?_)
    have o2 : Own w2 w.heap.size 120 2 (.slice (some ⟨g, 0, none⟩) 0 0) 0 [] := (own_empty 2 n2).base_le fun k hk => by simp [Value.ownBlock] at hk; omega
    refine appB B2 o2 (Nat.le_refl _) B2.size ((h.below B2).src (c := c) Try.underlying22 (by decide) tr_len tr_one) (by unfold maxLen; omega) (by omega) (by simp) fun a' c' w3 o3 g3 B3 z3 => ?_
    rw [Nat.zero_add, List.nil_append] at o3
    rw [Nat.zero_add]
    exact ⟨⟨a', c', rfl, Rws.ofOwn (by decide) tr_len o3⟩, B3⟩
theorem copy_new (t : Tar) (a : Option Addr) (c : Nat) (w : World) (h : TsAt 0 w a t.ts) (hl : t.ts.length ≤ 1000) :
    Calls Try.prog 79 #[tarV t a c] w fun e w' => (∃ a' c', e = .returned (tarV t a' c') ∧ TsAt w.heap.size w' a' t.ts) ∧ Below w.heap.size w w' := by
  refine (GTar.copy_calls t.grp t.mode t.block a t.ts.length c w (fun u w' => (∃ a' c', u = tarV t a' c' ∧ TsAt w.heap.size w' a' t.ts) ∧ Below w.heap.size w w') ?_).mono (by rintro e w' ⟨v, rfl, ⟨a', c', rfl, h⟩, h2⟩; exact ⟨⟨a', c', rfl, h⟩, h2⟩)
  unfold GTar.copy_vc
  refine newB (Bs.refl w) fun g w2 g0 sg n2 z2 b2 B2 => newB B2 fun g' w3 g0' sg' n3 z3 b3 B3 => callQ B3 (clone_new a c t.ts w3 (h.below B3) hl) ?_
  rintro e w4 ⟨a4, c4, rfl, h4⟩ b4 B4
  refine ⟨_, _, _, rfl, boxB B4 g0 fun w5 h5 B5 z5 => boxB B5 g0' fun w6 h6 B6 z6 => ⟨⟨a4, c4, rfl, ?_⟩, B6⟩⟩
  exact ((h4.box h5 (by omega)).box h6 (by omega)).low (by omega)
theorem at_new (p : Pl) (a a2 : Option Addr) (c c2 : Nat) (now : Int) (w : World) (h : PlAt w p a a2) (hd : -9223372036854775808 ≤ p.day) (hd2 : p.day ≤ 9223372036854775807) (hn : 0 ≤ now) (hp : planE p = 0) :
    Calls Try.prog 45 #[planV p a c a2 c2, .int .i64 now] w fun e w' => (∃ a' c', e = .returned (.tuple #[tarV (atT p now) a' c', .bool (decide (isOther p now))]) ∧ TsAt w.heap.size w' a' (atT p now).ts) ∧ Below w.heap.size w w' := by
  refine (GTar.at_calls p.day p.frm p.til p.base.grp p.base.mode p.base.block a p.base.ts.length c p.other.grp p.other.mode p.other.block a2 p.other.ts.length c2 now w (fun u w' => (∃ a' c', u = .tuple #[tarV (atT p now) a' c', .bool (decide (isOther p now))] ∧ TsAt w.heap.size w' a' (atT p now).ts) ∧ Below w.heap.size w w') ?_).mono (by rintro e w' ⟨v, rfl, ⟨a', c', rfl, h⟩, h2⟩; exact ⟨⟨a', c', rfl, h⟩, h2⟩)
  unfold GTar.at_vc atT
  refine newB (Bs.refl w) fun g w2 g0 sg n2 z2 b2 B2 => newB B2 fun g' w3 g0' sg' n3 z3 b3 B3 => br_n (by omega) (callB B3 (cplan_ret p a a2 c c2 w3 (h.to B3) hd hd2) fun w5 b5 B5 => ⟨_, rfl, br_n (by omega) (callB B5 (other_ret p a a2 c c2 now w5) fun w7 b7 B7 => ⟨_, rfl, br_dec (fun ho => ?_) fun ho => ?_⟩)⟩)
  · rw [if_pos ho]
    have b5s := b5.size
    have b7s := b7.size
    refine callQ B7 (copy_new p.other a2 c2 w7 (h.other.below B7) h.lo) ?_
    rintro e w8 ⟨a8, c8, rfl, h8⟩ b8 B8
    exact ⟨_, _, _, _, _, _, rfl, boxB B8 g0' fun w9 h9 B9 z9 => ⟨⟨a8, c8, by rw [decide_eq_true ho]; rfl, (h8.box h9 (by omega)).low (by omega)⟩, B9⟩⟩
  · rw [if_neg ho]
    have b5s := b5.size
    have b7s := b7.size
    refine callQ B7 (copy_new p.base a c w7 (h.base.below B7) h.lb) ?_
    rintro e w8 ⟨a8, c8, rfl, h8⟩ b8 B8
    exact ⟨_, _, _, _, _, _, rfl, boxB B8 g0' fun w9 h9 B9 z9 => ⟨⟨a8, c8, by rw [decide_eq_false ho]; rfl, (h8.box h9 (by omega)).low (by omega)⟩, B9⟩⟩
theorem dearest_ret (t : Tar) (a : Option Addr) (c : Nat) (w : World) (h : TsAt 0 w a t.ts) (hl : t.ts.length ≤ 1000) : Calls Try.prog 46 #[tarV t a c] w (Ret (.int .i64 (dearT t.ts)) w) := by
  refine ret_in (GTar.dearest_calls t.grp t.mode t.block a t.ts.length c w (fun u w' => u = .int .i64 (dearT t.ts) ∧ Below w.heap.size w w') ?_)
  unfold GTar.dearest_vc
  have nn := dearT_nn t.ts
  refine newB (Bs.refl w) fun g w2 g0 sg n2 z2 b2 B2 => ⟨fun x y wx => ∃ i : Nat, y = i ∧ i ≤ t.ts.length ∧ dearT t.ts = max x (dearT (t.ts.drop i)) ∧ 0 ≤ x ∧ Bs w wx, fun _ y _ => t.ts.length - y.toNat, ⟨0, rfl, by omega, by simp; omega, by omega, B2⟩, ?_⟩
  rintro x y wx ⟨i, rfl, hi, he, hx, B⟩
  refine br_dec (fun hlt => ?_) fun hge => ?_
  · have hil : i < t.ts.length := by omega
    obtain ⟨b, off, rfl, hc⟩ := (h.below B).get hil
    rw [List.drop_eq_getElem_cons hil, dearT] at he
    refine ⟨by omega, by omega, t.ts[i].upto, t.ts[i].price, by rw [Int.toNat_natCast]; exact hc, newB B fun g' w4 g0' sg' n4 z4 b4 B4 => boxB B4 g0' fun w5 h5 B5 z5 => ?_⟩
    rw [wr64 (by omega) (by omega)]
    exact ⟨⟨i + 1, by omega, by omega, by omega, by omega, B5⟩, by dsimp only; omega⟩
  · obtain rfl : i = t.ts.length := by omega
    refine ⟨?_, B⟩
    rw [List.drop_length] at he
    congr 1
    simp only [dearT] at he
    omega
end Go.Proofs.Ytecmpjccdhmeeaa
end
section
/- Numbers in ten parts of 32 bits: what one part of a sum, a difference, a product is. No program in sight. -/
namespace Go.Proofs.Ytecmpjccdhmeeaa
open Go.RowKit
def limb (n i : Nat) : Nat := n / 2 ^ (32 * i) % 4294967296
def uV (n : Nat) : Value := .int .u64 n
def arr (f : Nat → Nat) (neg : Bool) : Array Value := #[uV (f 0), uV (f 1), uV (f 2), uV (f 3), uV (f 4), uV (f 5), uV (f 6), uV (f 7), uV (f 8), uV (f 9), .bool neg]
def bigM (n : Nat) (neg : Bool) : Value := .agg (arr (limb n) neg)
def bigOf (z : Int) : Value := bigM z.natAbs (decide (z < 0))
theorem limb_lt (n i : Nat) : limb n i < 4294967296 := Nat.mod_lt _ (by omega)
theorem cases10 {P : Nat → Prop} (h0 : P 0) (h1 : P 1) (h2 : P 2) (h3 : P 3) (h4 : P 4) (h5 : P 5) (h6 : P 6) (h7 : P 7) (h8 : P 8) (h9 : P 9) : ∀ i, i < 10 → P i := by
  intro i hi
  match i, hi with
  | 0, _ => exact h0
  | 1, _ => exact h1
  | 2, _ => exact h2
  | 3, _ => exact h3
  | 4, _ => exact h4
  | 5, _ => exact h5
  | 6, _ => exact h6
  | 7, _ => exact h7
  | 8, _ => exact h8
  | 9, _ => exact h9
  | n + 10, h => omega
theorem arr_get (f : Nat → Nat) (neg : Bool) : ∀ i, i < 10 → (arr f neg)[i]? = some (.int .u64 (f i)) := cases10 rfl rfl rfl rfl rfl rfl rfl rfl rfl rfl
theorem arr_neg (f : Nat → Nat) (neg : Bool) : (arr f neg)[10]? = some (.bool neg) := rfl
theorem arr_size (f : Nat → Nat) (neg : Bool) : (arr f neg).size = 11 := rfl
theorem arr_congr {f g : Nat → Nat} (neg : Bool) (h : ∀ i, i < 10 → f i = g i) : arr f neg = arr g neg := by
  unfold arr
  rw [h 0 (by omega), h 1 (by omega), h 2 (by omega), h 3 (by omega), h 4 (by omega), h 5 (by omega), h 6 (by omega), h 7 (by omega), h 8 (by omega), h 9 (by omega)]
theorem arr_set (f : Nat → Nat) (neg : Bool) (v : Nat) : ∀ i, i < 10 → (arr f neg).setIfInBounds i (.int .u64 v) = arr (fun k => if k = i then v else f k) neg := cases10 rfl rfl rfl rfl rfl rfl rfl rfl rfl rfl
theorem arr_setNeg (f : Nat → Nat) (neg b : Bool) : (arr f neg).setIfInBounds 10 (.bool b) = arr f b := rfl
theorem arr_one (f : Nat → Nat) (neg : Bool) : (arr f neg).all (·.oneCell') = true := by simp [arr, uV, Value.oneCell']
theorem arr_zero : arr (fun _ => 0) false = #[.int .u64 0, .int .u64 0, .int .u64 0, .int .u64 0, .int .u64 0, .int .u64 0, .int .u64 0, .int .u64 0, .int .u64 0, .int .u64 0, .bool false] := rfl
theorem limb_zero (i : Nat) : limb 0 i = 0 := by unfold limb; rw [Nat.zero_div]
theorem bigOf_zero : bigOf 0 = .agg (arr (fun _ => 0) false) := by
  show Value.agg (arr (limb 0) false) = _
  rw [arr_congr false (g := fun _ => 0) (fun i _ => limb_zero i)]

/-! One step of a sum. -/
def carry (n m i : Nat) : Nat := (n % 2 ^ (32 * i) + m % 2 ^ (32 * i)) / 2 ^ (32 * i)
theorem pow_succ32 (i : Nat) : 2 ^ (32 * (i + 1)) = 2 ^ (32 * i) * 4294967296 := by rw [Nat.mul_add, Nat.pow_add]
theorem mod_limb (n i : Nat) : n % 2 ^ (32 * (i + 1)) = n % 2 ^ (32 * i) + 2 ^ (32 * i) * limb n i := by
  rw [pow_succ32, Nat.mod_mul]; rfl
theorem carry_zero (n m : Nat) : carry n m 0 = 0 := by unfold carry; simp [Nat.mod_one]
theorem carry_le (n m i : Nat) : carry n m i ≤ 1 := by
  unfold carry
  have hp : 0 < 2 ^ (32 * i) := Nat.pow_pos (by omega)
  have h1 := Nat.mod_lt n hp
  have h2 := Nat.mod_lt m hp
  have : (n % 2 ^ (32 * i) + m % 2 ^ (32 * i)) / 2 ^ (32 * i) < 2 := by rw [Nat.div_lt_iff_lt_mul hp]; omega
  omega
theorem add_step (n m i : Nat) : (limb n i + limb m i + carry n m i) / 4294967296 = carry n m (i + 1) ∧ (limb n i + limb m i + carry n m i) % 4294967296 = limb (n + m) i := by
  have hp : 0 < 2 ^ (32 * i) := Nat.pow_pos (by omega)
  constructor
  · unfold carry
    rw [mod_limb, mod_limb, pow_succ32]
    generalize 2 ^ (32 * i) = p at *
    rw [← Nat.div_div_eq_div_mul]
    congr 1
    rw [show n % p + p * limb n i + (m % p + p * limb m i) = (n % p + m % p) + p * (limb n i + limb m i) by rw [Nat.mul_add]; omega, Nat.add_mul_div_left _ _ hp]
    omega
  · unfold carry limb
    generalize 2 ^ (32 * i) = p at *
    have h : (n + m) / p = n / p + m / p + (n % p + m % p) / p := by
      conv => lhs; rw [← Nat.div_add_mod n p, ← Nat.div_add_mod m p]
      rw [show p * (n / p) + n % p + (p * (m / p) + m % p) = (n % p + m % p) + p * (n / p + m / p) by rw [Nat.mul_add]; omega, Nat.add_mul_div_left _ _ hp]
      omega
    rw [h]
    omega
theorem u64_mask (s : Nat) (h : s < 18446744073709551616) : bits BinOp.and IntKind.u64 (s : Int) 4294967295 = ((s % 4294967296 : Nat) : Int) := by
  rw [show (4294967295 : Int) = ((4294967295 : Nat) : Int) from rfl, u64_and_nat _ _ h (by omega), show (4294967295 : Nat) = 2 ^ 32 - 1 from rfl, Nat.and_two_pow_sub_one_eq_mod]
/-! One step of a difference. -/
def borrow (n m i : Nat) : Nat := if n % 2 ^ (32 * i) < m % 2 ^ (32 * i) then 1 else 0
theorem borrow_zero (n m : Nat) : borrow n m 0 = 0 := by unfold borrow; simp [Nat.mod_one]
theorem borrow_le (n m i : Nat) : borrow n m i ≤ 1 := by unfold borrow; split <;> omega
theorem sub_step (n m i : Nat) (h : m ≤ n) : 1 - (limb n i + 4294967296 - limb m i - borrow n m i) / 4294967296 = borrow n m (i + 1) ∧ (limb n i + 4294967296 - limb m i - borrow n m i) % 4294967296 = limb (n - m) i := by
  have hp : 0 < 2 ^ (32 * i) := Nat.pow_pos (by omega)
  constructor
  · unfold borrow
    rw [mod_limb, mod_limb]
    have lx := limb_lt n i
    have ly := limb_lt m i
    have r1 := Nat.mod_lt n hp
    have r2 := Nat.mod_lt m hp
    generalize limb n i = x at *
    generalize limb m i = y at *
    generalize 2 ^ (32 * i) = p at *
    generalize n % p = r at *
    generalize m % p = s at *
    rcases Nat.lt_trichotomy x y with hxy | hxy | hxy
    · have h1 : p * (x + 1) ≤ p * y := Nat.mul_le_mul_left p hxy
      rw [Nat.mul_add, Nat.mul_one] at h1
      rw [if_pos (show r + p * x < s + p * y by omega)]
      split <;> omega
    · subst hxy
      by_cases hrs : r < s
      · rw [if_pos hrs, if_pos (by omega)]; omega
      · rw [if_neg hrs, if_neg (by omega)]; omega
    · have h1 : p * (y + 1) ≤ p * x := Nat.mul_le_mul_left p hxy
      rw [Nat.mul_add, Nat.mul_one] at h1
      rw [if_neg (show ¬ (r + p * x < s + p * y) by omega)]
      split <;> omega
  · unfold borrow limb
    have r1 := Nat.mod_lt n hp
    have r2 := Nat.mod_lt m hp
    generalize 2 ^ (32 * i) = p at *
    have e1 := Nat.div_add_mod n p
    have e2 := Nat.div_add_mod m p
    have hd : m / p ≤ n / p := Nat.div_le_div_right h
    have key : (n - m) / p = n / p - m / p - (if n % p < m % p then 1 else 0) := by
      split
      · rename_i hlt
        have hne : m / p < n / p := by
          rcases Nat.lt_or_ge (m / p) (n / p) with h1 | h1
          · exact h1
          · have : n / p = m / p := by omega
            rw [this] at e1
            omega
        have hm : p * (m / p + 1) ≤ p * (n / p) := Nat.mul_le_mul_left p hne
        rw [Nat.mul_add, Nat.mul_one] at hm
        have e3 : n - m = (p + n % p - m % p) + p * (n / p - m / p - 1) := by
          rw [Nat.mul_sub, Nat.mul_sub]
          omega
        rw [e3, Nat.add_mul_div_left _ _ hp, Nat.div_eq_of_lt (by omega)]
        omega
      · have hm : p * (m / p) ≤ p * (n / p) := Nat.mul_le_mul_left p hd
        have e3 : n - m = (n % p - m % p) + p * (n / p - m / p) := by
          rw [Nat.mul_sub]
          omega
        rw [e3, Nat.add_mul_div_left _ _ hp, Nat.div_eq_of_lt (by omega)]
        omega
    rw [key]
    have hb : n % p < m % p → m / p < n / p := fun hlt => by
      rcases Nat.lt_or_ge (m / p) (n / p) with h1 | h1
      · exact h1
      · have : n / p = m / p := by omega
        rw [this] at e1
        omega
    generalize n / p = a at *
    generalize m / p = b at *
    split
    · rename_i hlt
      have := hb hlt
      omega
    · omega
/-! From the top: the first part that parts them decides. -/
theorem div_limb (n i : Nat) : n / 2 ^ (32 * i) = 4294967296 * (n / 2 ^ (32 * (i + 1))) + limb n i := by
  rw [pow_succ32, ← Nat.div_div_eq_div_mul]
  unfold limb
  omega
theorem less_same {n m i : Nat} (h : n / 2 ^ (32 * (i + 1)) = m / 2 ^ (32 * (i + 1))) (h2 : limb n i = limb m i) : n / 2 ^ (32 * i) = m / 2 ^ (32 * i) := by rw [div_limb n, div_limb m, h, h2]
theorem less_apart {n m i : Nat} (h : n / 2 ^ (32 * (i + 1)) = m / 2 ^ (32 * (i + 1))) (h2 : limb n i ≠ limb m i) : decide (limb n i < limb m i) = decide (n < m) := by
  have e1 := div_limb n i
  have e2 := div_limb m i
  rw [h] at e1
  have hp : 0 < 2 ^ (32 * i) := Nat.pow_pos (by omega)
  have f1 := Nat.div_add_mod n (2 ^ (32 * i))
  have f2 := Nat.div_add_mod m (2 ^ (32 * i))
  have r1 := Nat.mod_lt n hp
  have r2 := Nat.mod_lt m hp
  generalize 2 ^ (32 * i) = p at *
  generalize limb n i = x at *
  generalize limb m i = y at *
  rcases Nat.lt_or_gt_of_ne h2 with hxy | hxy
  · have h3 : n / p + 1 ≤ m / p := by omega
    have h4 := Nat.mul_le_mul_left p h3
    rw [Nat.mul_add, Nat.mul_one] at h4
    rw [decide_eq_true hxy, decide_eq_true (by omega)]
  · have h3 : m / p + 1 ≤ n / p := by omega
    have h4 := Nat.mul_le_mul_left p h3
    rw [Nat.mul_add, Nat.mul_one] at h4
    rw [decide_eq_false (by omega), decide_eq_false (by omega)]
/-- More than all ten parts hold. (A name: the number itself is never to be reckoned.) -/
def lim : Nat := 2 ^ (32 * 10)
theorem lim_eq : lim = 2 ^ (32 * 10) := by unfold lim; rfl
theorem lim_div {n : Nat} (h : n < lim) : n / 2 ^ (32 * 10) = 0 := by rw [← lim_eq]; exact Nat.div_eq_of_lt h
theorem lim_big {n k : Nat} (hk : k ≤ 32 * 10) (h : n < 2 ^ k) : n < lim := by
  have h2 := Nat.pow_le_pow_right (n := 2) (by omega) hk
  rw [← lim_eq] at h2
  exact Nat.lt_of_lt_of_le h h2
theorem top_zero {n : Nat} (h : n < lim) : n / 2 ^ (32 * (9 + 1)) = 0 := by
  rw [show 9 + 1 = 10 from rfl]; exact lim_div h
theorem all_same {n m : Nat} (h : n / 2 ^ (32 * 0) = m / 2 ^ (32 * 0)) : n = m := by simpa using h
/-- Nought has no part. -/
theorem limb_all_zero {n : Nat} (h : n < lim) (h0 : ∀ i, i < 10 → limb n i = 0) : n = 0 := by
  have e : ∀ k, k ≤ 10 → n / 2 ^ (32 * (10 - k)) = 0 := by
    intro k
    induction k with
    | zero => intro _; rw [Nat.sub_zero]; exact lim_div h
    | succ k ih =>
      intro hk
      have h1 := ih (by omega)
      rw [div_limb, show 10 - (k + 1) + 1 = 10 - k by omega, h1, h0 _ (by omega)]
  have := e 10 (by omega)
  simpa using this
theorem limb_small {n i : Nat} (h : n < 2 ^ (32 * i)) : limb n i = 0 := by unfold limb; rw [Nat.div_eq_of_lt h]
end Go.Proofs.Ytecmpjccdhmeeaa
end
section
/- 'add' of the reference, walked. -/
namespace Go.Proofs.Ytecmpjccdhmeeaa
open Go.RowKit
/-- A block that holds a row, whole. -/
def Blk (w : World) (g : Nat) (cs : Array Value) (t : TypeId) : Prop := w.heap[g]? = some (.cells cs t (0, 0))
theorem Blk.cell {w : World} {g : Nat} {cs : Array Value} {t : TypeId} (h : Blk w g cs t) (i : Nat) : w.cell? ⟨g, i, none⟩ = cs[i]? := cell_of_row _ _ _ _ _ _ h
theorem Blk.frozen {w : World} {g : Nat} {cs : Array Value} {t : TypeId} (h : Blk w g cs t) (i : Nat) : w.frozen? ⟨g, i, none⟩ = false := frozen_of_row _ _ _ _ _ h
theorem Blk.setCell {w : World} {g : Nat} {cs : Array Value} {t : TypeId} (h : Blk w g cs t) (i : Nat) (v : Value) : Blk (w.setCell ⟨g, i, none⟩ v) g (cs.setIfInBounds i v) t := heap_setCell_same _ _ _ _ _ _ h
theorem Blk.other {w : World} {g k i : Nat} {cs : Array Value} {t : TypeId} {v : Value} (h : Blk w g cs t) (hne : g ≠ k) : Blk (w.setCell ⟨k, i, none⟩ v) g cs t := (heap_setCell_other _ _ _ _ hne).trans h
theorem Blk.new {w : World} {cs : Array Value} {t : TypeId} {k : Nat} (h : k = w.heap.size) : Blk (w.alloc (.cells cs t)) k cs t := al_new h
theorem Blk.alloc {w : World} {g : Nat} {cs : Array Value} {t : TypeId} (h : Blk w g cs t) (o : Obj) : Blk (w.alloc o) g cs t := al_old h
theorem Blk.setRow {w : World} {g : Nat} {cs : Array Value} {t : TypeId} (h : Blk w g cs t) (ds : Array Value) : Blk (w.setRow g ds) g ds t := setRow_heap _ _ _ _ _ _ h
theorem Blk.otherRow {w : World} {g k : Nat} {cs : Array Value} {t : TypeId} (h : Blk w g cs t) (ds : Array Value) (hne : g ≠ k) : Blk (w.setRow k ds) g cs t := by
  unfold Blk at *
  simp only [World.setRow, Array.getElem?_modify]
  rw [if_neg (fun e => hne e.symm)]
  exact h
theorem Blk.lt {w : World} {g : Nat} {cs : Array Value} {t : TypeId} (h : Blk w g cs t) : g < w.heap.size := heap_lt h
theorem Blk.below {w w' : World} {g B : Nat} {cs : Array Value} {t : TypeId} (h : Blk w g cs t) (hb : Below B w w') (hB : w.heap.size ≤ B) : Blk w' g cs t := Below.kept hb (Nat.lt_of_lt_of_le h.lt hB) h
theorem al3 (w : World) (A B C : Obj) : ((w.alloc A).alloc B |>.alloc C).heap[w.heap.size]? = some A ∧ ((w.alloc A).alloc B |>.alloc C).heap[w.heap.size + 1]? = some B ∧ ((w.alloc A).alloc B |>.alloc C).heap[w.heap.size + 1 + 1]? = some C ∧
    Below w.heap.size w ((w.alloc A).alloc B |>.alloc C) :=
  ⟨al_old (al_old (al_new rfl)), al_old (al_new (by simp)), al_new (by simp), ((Below_one A).alloc (by simp) B).alloc (by simp; omega) C⟩
def mix (n m i k : Nat) : Nat := if k < i then limb (n + m) k else limb n k
set_option maxRecDepth 100000 in
set_option maxHeartbeats 1000000 in
theorem radd_any (n m : Nat) (na nb : Bool) (w : World) :
    Calls Try.prog 93 #[bigM n na, bigM m nb] w fun e w' => e = .returned (bigM (n + m) na) ∧ Below w.heap.size w w' := by
  unfold bigM
  go_enter Try.func93, Try.ntmps93
  go_wp2
  rw [← arr_zero]
  obtain ⟨h1, h2, h3, hb⟩ := al3 w (.cells (arr (limb n) na) 123) (.cells (arr (limb m) nb) 123) (.cells (arr (fun _ => 0) false) 123)
  generalize ((w.alloc (.cells (arr (limb n) na) 123)).alloc (.cells (arr (limb m) nb) 123)).alloc (.cells (arr (fun _ => 0) false) 123) = W at *
  have H1 := hid h1; have H2 := hid h2; have H3 := hid h3; have HB := hid hb
  clear h1 h2 h3 hb
  go_loopw [5,6,7,8,9,10,11,12,13,14,15,16,17,18,19,20,21,22,23,24,25,26,27,28,29] (fun t5 t6 _ _ _ _ _ _ _ _ _ _ _ _ _ _ _ _ _ _ _ _ _ _ _ wr => ∃ i : Nat, i ≤ 10 ∧ t6 = .int .i64 i ∧ t5 = uV (carry n m i) ∧ Blk wr w.heap.size (arr (mix n m i) na) 123 ∧ Blk wr (w.heap.size + 1) (arr (limb m) nb) 123 ∧ Blk wr (w.heap.size + 1 + 1) (arr (fun _ => 0) false) 123 ∧ Below w.heap.size w wr) (fun t5 t6 _ _ _ _ _ _ _ _ _ _ _ _ _ _ _ _ _ _ _ _ _ _ _ wr => 10 - (intOf t6).toNat)
  case atStart => exact ⟨0, by omega, rfl, by rw [carry_zero]; rfl, by rw [arr_congr (g := limb n) na (fun i _ => by unfold mix; rw [if_neg (by omega)])]; exact H1.out, H2.out, H3.out, HB.out⟩
  case round =>
    obtain ⟨i, hi, rfl, rfl, hA, hB, hC, hW⟩ := hrel
    have HA := hid hA; have HBb := hid hB; have HC := hid hC; have HW := hid hW
    clear hA hB hC hW
    by_cases hlt : i < 10
    · have c1 : wr.cell? ⟨w.heap.size, i, none⟩ = some (.int .u64 (limb n i : Nat)) := by rw [HA.out.cell, arr_get _ _ i hlt]; unfold mix; rw [if_neg (by omega)]
      have c2 : wr.cell? ⟨w.heap.size + 1, i, none⟩ = some (.int .u64 (limb m i : Nat)) := by rw [HBb.out.cell, arr_get _ _ i hlt]
      have hst := add_step n m i
      have l1 := limb_lt n i
      have l2 := limb_lt m i
      have l3 := carry_le n m i
      generalize limb n i = x at *
      generalize limb m i = y at *
      generalize carry n m i = o at *
      obtain ⟨s1, s2⟩ := hst
      have S1 := hid s1; have S2 := hid s2
      clear s1 s2
      have q1 : IntKind.u64.wrap ((x : Int) + (y : Int)) = (x : Int) + (y : Int) := by rw [IntKind.wrap_u64]; omega
      have q2 : IntKind.u64.wrap ((x : Int) + (y : Int) + (o : Int)) = (x : Int) + (y : Int) + (o : Int) := by rw [IntKind.wrap_u64]; omega
      have q3 : bits BinOp.and IntKind.u64 ((x : Int) + (y : Int) + (o : Int)) 4294967295 = (((x + y + o) % 4294967296 : Nat) : Int) := by rw [← u64_mask (x + y + o) (by omega)]; simp
      have i0 : (0 : Int) ≤ (i : Int) := by omega
      have i1 : (i : Int) < 10 := by omega
      unfold uV
      go_wp2
      refine wp_region_early [0, 1, 2, 3, 4, 5, 6, 7, 8, 9, 10, 11] [] [] (fun wx => wx.cell? ⟨w.heap.size, i, none⟩ = some (.int .u64 (x : Int)) ∧ wx.cell? ⟨w.heap.size + 1, i, none⟩ = some (.int .u64 (y : Int))) (by kernel_rfl) (by kernel_rfl) (by kernel_rfl) (by rfl) ⟨c1, c2⟩ ?_
      apply Exists.intro
      refine ⟨fun wx hx => ?_, ?_⟩
      · obtain ⟨x1, x2⟩ := hx
        repeat (refine seI_step rfl (fun K hK => ?_); go_simp; refine hK _ ?_; clear hK K)
        exact seI_nil rfl
      refine wpTA_nil .nil ?_
      go_wp2
      refine NoPanic.normal ?_
      have f1 : wr.frozen? ⟨w.heap.size, i, none⟩ = false := HA.out.frozen i
      go_wp2
      go_roundw
      case rel =>
        refine ⟨i + 1, by omega, by go_num, by rw [← S1.out]; rfl, ?_, HBb.out.other (by omega), HC.out.other (by omega), (HW.out.setCell (p := ⟨w.heap.size, i, none⟩) (Nat.le_refl _) _).drew⟩
        have h1 := HA.out.setCell i (.int .u64 (((x + y + o) % 4294967296 : Nat) : Int))
        rw [arr_set _ _ _ i hlt, S2.out] at h1
        rw [arr_congr (g := fun k => if k = i then limb (n + m) i else mix n m i k) na (fun k _ => by
          unfold mix
          by_cases hk : k = i
          · subst hk; simp
          · by_cases hk2 : k < i
            · simp [hk, hk2, show k < i + 1 by omega]
            · simp [hk, hk2, show ¬ k < i + 1 by omega])]
        have q4 : ((x : Int) + (y : Int) + (o : Int)) % 4294967296 = ((limb (n + m) i : Nat) : Int) := by rw [← S2.out]; omega
        rw [q4]
        exact h1
      case measure => simp [intOf]; omega
    · obtain rfl : i = 10 := by omega
      have hA : Blk wr w.heap.size (arr (limb (n + m)) na) 123 := by
        have := HA.out
        rw [arr_congr (g := limb (n + m)) na (fun k hk => by unfold mix; rw [if_pos hk])] at this
        exact this
      have HA := hid hA
      clear hA
      go_wp2_with (first | (refine wpList_load_row rfl 123 (.tmp 2) rfl w.heap.size rfl 123 (arr (limb (n + m)) na) (0, 0) _ HA.out Try.underlying123 rfl (by kernel_rfl) ?_) | (refine wpList_store_row rfl 123 (.tmp 4) (.tmp 30) rfl (w.heap.size + 1 + 1) (arr (limb (n + m)) na) rfl rfl 123 (arr (fun _ => 0) false) HC.out (by kernel_rfl) rfl (arr_one _ _) ?_))
      refine bodyPost_ret (results_cell_row rfl _ _ (w.heap.size + 1 + 1) 123 (arr (limb (n + m)) na) (0, 0) _ rfl (HC.out.setRow _) Try.underlying123 rfl (by kernel_rfl)) rfl ⟨rfl, ?_⟩
      exact HW.out.trans (Below_setRow (Below.refl _ _) (by omega) _)
end Go.Proofs.Ytecmpjccdhmeeaa
end
section
/- '==' of two arrays of integers. No program in sight. -/
namespace Go.Proofs.Ytecmpjccdhmeeaa
open Go.RowKit
variable {P : Program}
theorem run_part1 {e : TypeId} {k : IntKind} (he : P.underlying e = some (.int k)) (w : World) (cs : Array Value) (i : Nat) (v : Value) (h : cs[i]? = some v) : (part e cs i).run P w = .ok v w := by
  simp [part, isAgg, run_underlying he, h]
theorem run_eqRange {e : TypeId} {k : IntKind} (he : P.underlying e = some (.int k)) (w : World) (xs ys : Array Value) (d : Nat) (f g : Nat → Int) : ∀ (l : List Nat), (∀ i ∈ l, xs[i]? = some (.int k (f i)) ∧ ys[i]? = some (.int k (g i))) →
    (forIn (m := Sem) l ((none, ()) : Option Bool × Unit) fun i (_ : Option Bool × Unit) => do
      let a ← part e xs (i * 1)
      let b ← part e ys (i * 1)
      let r ← Op.equalIn (d + 1) e a b
      if (!r) = true then pure (ForInStep.done (some false, ())) else pure (ForInStep.yield (none, ()))).run P w =
      .ok (if l.all (fun i => f i == g i) then (none, ()) else (some false, ())) w := by
  intro l
  induction l with
  | nil => intro _; rfl
  | cons i l ih =>
    intro h
    obtain ⟨h1, h2⟩ := h i (by simp)
    have e1 := run_part1 he w xs (i * 1) _ (by rw [Nat.mul_one]; exact h1)
    have e2 := run_part1 he w ys (i * 1) _ (by rw [Nat.mul_one]; exact h2)
    have e3 := run_equalIn_int (P := P) w d e k k (f i) (g i) he
    simp only [List.forIn_cons, Sem.run_bind, e1, e2, e3, Result.andThen_ok]
    cases hq : (f i == g i)
    · simp [hq]
    · simp only [Bool.not_true, Bool.false_eq_true, if_false, Sem.run_pure, Result.andThen_ok, List.all_cons, hq, Bool.true_and]
      exact ih fun j hj => h j (by simp [hj])
theorem run_equalIn_arr {t e : TypeId} {k : IntKind} {n : Nat} (d : Nat) (ht : P.underlying t = some (.array n e)) (he : P.underlying e = some (.int k)) (hs : ∀ w, (sizeOf e).run P w = .ok 1 w) (xs ys : Array Value) (f g : Nat → Int)
    (h : ∀ i, i < n → xs[i]? = some (.int k (f i)) ∧ ys[i]? = some (.int k (g i))) (w : World) : (Op.equalIn (d + 2) t (.agg xs) (.agg ys)).run P w = .ok ((List.range n).all fun i => f i == g i) w := by
  unfold Op.equalIn
  simp only [Sem.run_bind, run_underlying ht, Result.andThen_ok, hs]
  rw [Std.Legacy.Range.forIn_eq_forIn_range']
  have hr := run_eqRange (P := P) he w xs ys d f g (List.range n) (fun i hi => h i (List.mem_range.1 hi))
  simp only [Std.Legacy.Range.size, Nat.sub_zero, Nat.add_sub_cancel, Nat.div_one, ← List.range_eq_range']
  rw [hr]
  split
  · rename_i hq
    simp [hq]
  · rename_i hq
    simp [hq]
end Go.Proofs.Ytecmpjccdhmeeaa
end
section
/- 'sub', 'less', 'zero' of the reference, walked. -/
namespace Go.Proofs.Ytecmpjccdhmeeaa
open Go.RowKit
def mixS (n m i k : Nat) : Nat := if k < i then limb (n - m) k else limb n k
set_option maxRecDepth 100000 in
set_option maxHeartbeats 1000000 in
theorem rsub_any (n m : Nat) (na nb : Bool) (hmn : m ≤ n) (w : World) :
    Calls Try.prog 95 #[bigM n na, bigM m nb] w fun e w' => e = .returned (bigM (n - m) na) ∧ Below w.heap.size w w' := by
  unfold bigM
  have HMN := hid hmn; clear hmn
  go_enter Try.func95, Try.ntmps95
  go_wp2
  rw [← arr_zero]
  obtain ⟨h1, h2, h3, hb⟩ := al3 w (.cells (arr (limb n) na) 123) (.cells (arr (limb m) nb) 123) (.cells (arr (fun _ => 0) false) 123)
  generalize ((w.alloc (.cells (arr (limb n) na) 123)).alloc (.cells (arr (limb m) nb) 123)).alloc (.cells (arr (fun _ => 0) false) 123) = W at *
  have H1 := hid h1; have H2 := hid h2; have H3 := hid h3; have HB := hid hb
  clear h1 h2 h3 hb
  go_loopw [5,6,7,8,9,10,11,12,13,14,15,16,17,18,19,20,21,22,23,24,25,26,27,28,29,30,31] (fun t5 t6 _ _ _ _ _ _ _ _ _ _ _ _ _ _ _ _ _ _ _ _ _ _ _ _ _ wr => ∃ i : Nat, i ≤ 10 ∧ t6 = .int .i64 i ∧ t5 = uV (borrow n m i) ∧ Blk wr w.heap.size (arr (mixS n m i) na) 123 ∧ Blk wr (w.heap.size + 1) (arr (limb m) nb) 123 ∧ Blk wr (w.heap.size + 1 + 1) (arr (fun _ => 0) false) 123 ∧ Below w.heap.size w wr) (fun t5 t6 _ _ _ _ _ _ _ _ _ _ _ _ _ _ _ _ _ _ _ _ _ _ _ _ _ wr => 10 - (intOf t6).toNat)
  case atStart => exact ⟨0, by omega, rfl, by rw [borrow_zero]; rfl, by rw [arr_congr (g := limb n) na (fun i _ => by unfold mixS; rw [if_neg (by omega)])]; exact H1.out, H2.out, H3.out, HB.out⟩
  case round =>
    obtain ⟨i, hi, rfl, rfl, hA, hB, hC, hW⟩ := hrel
    have HA := hid hA; have HBb := hid hB; have HC := hid hC; have HW := hid hW
    clear hA hB hC hW
    by_cases hlt : i < 10
    · have c1 : wr.cell? ⟨w.heap.size, i, none⟩ = some (.int .u64 (limb n i : Nat)) := by rw [HA.out.cell, arr_get _ _ i hlt]; unfold mixS; rw [if_neg (by omega)]
      have c2 : wr.cell? ⟨w.heap.size + 1, i, none⟩ = some (.int .u64 (limb m i : Nat)) := by rw [HBb.out.cell, arr_get _ _ i hlt]
      have hst := sub_step n m i HMN.out
      have l1 := limb_lt n i
      have l2 := limb_lt m i
      have l3 := borrow_le n m i
      generalize limb n i = x at *
      generalize limb m i = y at *
      generalize borrow n m i = o at *
      obtain ⟨s1, s2⟩ := hst
      have S1 := hid s1; have S2 := hid s2
      clear s1 s2
      have q0 : IntKind.u64.wrap ((x : Int) + 4294967296) = (x : Int) + 4294967296 := by rw [IntKind.wrap_u64]; omega
      have q1 : IntKind.u64.wrap ((x : Int) + 4294967296 - (y : Int)) = (x : Int) + 4294967296 - (y : Int) := by rw [IntKind.wrap_u64]; omega
      have q2 : IntKind.u64.wrap ((x : Int) + 4294967296 - (y : Int) - (o : Int)) = (x : Int) + 4294967296 - (y : Int) - (o : Int) := by rw [IntKind.wrap_u64]; omega
      have i0 : (0 : Int) ≤ (i : Int) := by omega
      have i1 : (i : Int) < 10 := by omega
      unfold uV
      go_wp2
      refine wp_region_early [0, 1, 2, 3, 4, 5, 6, 7, 8, 9, 10, 11, 12] [] [] (fun wx => wx.cell? ⟨w.heap.size, i, none⟩ = some (.int .u64 (x : Int)) ∧ wx.cell? ⟨w.heap.size + 1, i, none⟩ = some (.int .u64 (y : Int))) (by kernel_rfl) (by kernel_rfl) (by kernel_rfl) (by rfl) ⟨c1, c2⟩ ?_
      apply Exists.intro
      refine ⟨fun wx hx => ?_, ?_⟩
      · obtain ⟨x1, x2⟩ := hx
        repeat (refine seI_step rfl (fun K hK => ?_); go_simp; refine hK _ ?_; clear hK K)
        exact seI_nil rfl
      refine wpTA_nil .nil ?_
      go_wp2
      refine NoPanic.normal ?_
      have f1 : wr.frozen? ⟨w.heap.size, i, none⟩ = false := HA.out.frozen i
      clear q0 q1 q2
      go_wp2
      go_roundw
      case rel =>
        refine ⟨i + 1, by omega, by go_num, by rw [← S1.out]; congr 1; omega, ?_, HBb.out.other (by omega), HC.out.other (by omega), (HW.out.setCell (p := ⟨w.heap.size, i, none⟩) (Nat.le_refl _) _).drew⟩
        have h1 := HA.out.setCell i (.int .u64 (((x + 4294967296 - y - o) % 4294967296 : Nat) : Int))
        rw [arr_set _ _ _ i hlt, S2.out] at h1
        rw [arr_congr (g := fun k => if k = i then limb (n - m) i else mixS n m i k) na (fun k _ => by
          unfold mixS
          by_cases hk : k = i
          · subst hk; simp
          · by_cases hk2 : k < i
            · simp [hk, hk2, show k < i + 1 by omega]
            · simp [hk, hk2, show ¬ k < i + 1 by omega])]
        have q4 : bits BinOp.and IntKind.u64 ((x : Int) + 4294967296 - (y : Int) - (o : Int)) 4294967295 = ((limb (n - m) i : Nat) : Int) := by rw [show (x : Int) + 4294967296 - (y : Int) - (o : Int) = ((x + 4294967296 - y - o : Nat) : Int) by omega, u64_mask _ (by omega), S2.out]
        rw [q4]
        exact h1
      case measure => simp [intOf]; omega
    · obtain rfl : i = 10 := by omega
      have hA : Blk wr w.heap.size (arr (limb (n - m)) na) 123 := by
        have := HA.out
        rw [arr_congr (g := limb (n - m)) na (fun k hk => by unfold mixS; rw [if_pos hk])] at this
        exact this
      have HA := hid hA
      clear hA
      go_wp2_with (first | (refine wpList_load_row rfl 123 (.tmp 2) rfl w.heap.size rfl 123 (arr (limb (n - m)) na) (0, 0) _ HA.out Try.underlying123 rfl (by kernel_rfl) ?_) | (refine wpList_store_row rfl 123 (.tmp 4) (.tmp 32) rfl (w.heap.size + 1 + 1) (arr (limb (n - m)) na) rfl rfl 123 (arr (fun _ => 0) false) HC.out (by kernel_rfl) rfl (arr_one _ _) ?_))
      refine bodyPost_ret (results_cell_row rfl _ _ (w.heap.size + 1 + 1) 123 (arr (limb (n - m)) na) (0, 0) _ rfl (HC.out.setRow _) Try.underlying123 rfl (by kernel_rfl)) rfl ⟨rfl, ?_⟩
      exact HW.out.trans (Below_setRow (Below.refl _ _) (by omega) _)
theorem al2 (w : World) (A B : Obj) : ((w.alloc A).alloc B).heap[w.heap.size]? = some A ∧ ((w.alloc A).alloc B).heap[w.heap.size + 1]? = some B ∧ Below w.heap.size w ((w.alloc A).alloc B) :=
  ⟨al_old (al_new rfl), al_new (by simp), (Below_one A).alloc (by simp) B⟩
set_option maxRecDepth 100000 in
set_option maxHeartbeats 1000000 in
theorem rless_any (n m : Nat) (na nb : Bool) (hn : n < lim) (hm : m < lim) (w : World) :
    Calls Try.prog 94 #[bigM n na, bigM m nb] w fun e w' => e = .returned (.bool (decide (n < m))) ∧ Below w.heap.size w w' := by
  unfold bigM
  have HT := hid (show n / 2 ^ (32 * (9 + 1)) = m / 2 ^ (32 * (9 + 1)) by rw [top_zero hn, top_zero hm])
  clear hn hm
  go_enter Try.func94, Try.ntmps94
  go_wp2
  obtain ⟨h1, h2, hb⟩ := al2 w (.cells (arr (limb n) na) 123) (.cells (arr (limb m) nb) 123)
  generalize (w.alloc (.cells (arr (limb n) na) 123)).alloc (.cells (arr (limb m) nb) 123) = W at *
  have H1 := hid h1; have H2 := hid h2; have HB := hid hb
  clear h1 h2 hb
  go_loopw [5,6,7,8,9,10,11,12,13,14,15,16,17,18,19,20,21,22,23,24,25,26,27] (fun t5 _ _ _ _ _ _ _ _ _ _ _ _ _ _ _ _ _ _ _ _ _ _ wr => ∃ j : Int, -1 ≤ j ∧ j ≤ 9 ∧ t5 = .int .i64 j ∧ n / 2 ^ (32 * (j + 1).toNat) = m / 2 ^ (32 * (j + 1).toNat) ∧ Blk wr w.heap.size (arr (limb n) na) 123 ∧ Blk wr (w.heap.size + 1) (arr (limb m) nb) 123 ∧ Below w.heap.size w wr) (fun t5 _ _ _ _ _ _ _ _ _ _ _ _ _ _ _ _ _ _ _ _ _ _ wr => (intOf t5 + 1).toNat)
  case atStart => exact ⟨9, by omega, by omega, rfl, (by rw [show ((9 : Int) + 1).toNat = 9 + 1 from rfl]; exact HT.out), H1.out, H2.out, HB.out⟩
  case round =>
    obtain ⟨j, hj1, hj2, rfl, hup, hA, hB, hW⟩ := hrel
    have HU := hid hup; have HA := hid hA; have HBb := hid hB; have HW := hid hW
    clear hup hA hB hW
    by_cases hlt : 0 ≤ j
    · obtain ⟨i, rfl⟩ := Int.eq_ofNat_of_zero_le hlt
      have hU := HU.out
      rw [show ((i : Int) + 1).toNat = i + 1 by omega] at hU
      have hlt : i < 10 := by omega
      have c1 : wr.cell? ⟨w.heap.size, i, none⟩ = some (.int .u64 (limb n i : Nat)) := by rw [HA.out.cell, arr_get _ _ i hlt]
      have c2 : wr.cell? ⟨w.heap.size + 1, i, none⟩ = some (.int .u64 (limb m i : Nat)) := by rw [HBb.out.cell, arr_get _ _ i hlt]
      have i0 : (0 : Int) ≤ (i : Int) := by omega
      have i1 : (i : Int) < 10 := by omega
      have HU2 := hid hU
      clear hU HU
      by_cases hxy : limb n i = limb m i
      · have hs := hid (less_same HU2.out hxy)
        rw [hxy] at c1
        clear hxy
        generalize limb m i = y at *
        have hne : ((y : Int) != (y : Int)) = false := by simp
        go_wp2
        refine wp_region_early [0, 1, 2, 3, 4, 5, 6, 7, 8] [] [] (fun wx => wx.cell? ⟨w.heap.size, i, none⟩ = some (.int .u64 (y : Int)) ∧ wx.cell? ⟨w.heap.size + 1, i, none⟩ = some (.int .u64 (y : Int))) (by kernel_rfl) (by kernel_rfl) (by kernel_rfl) (by rfl) ⟨c1, c2⟩ ?_
        apply Exists.intro
        refine ⟨fun wx hx => ?_, ?_⟩
        · obtain ⟨x1, x2⟩ := hx
          repeat (refine seI_step rfl (fun K hK => ?_); go_simp; refine hK _ ?_; clear hK K)
          exact seI_nil rfl
        refine wpTA_nil .nil ?_
        go_wp2
        refine NoPanic.normal ?_
        go_wp2
        go_roundw
        case rel => exact ⟨(i : Int) - 1, by omega, by omega, rfl, by rw [show ((i : Int) - 1 + 1).toNat = i by omega]; exact hs.out, HA.out, HBb.out, HW.out.drew⟩
        case measure => simp [intOf]
      · have hs := hid (less_apart HU2.out hxy)
        have hne : ((limb n i : Int) != (limb m i : Int)) = true := by simp; omega
        generalize limb n i = x at *
        generalize limb m i = y at *
        clear hxy
        go_wp2
        refine wp_region_early [0, 1, 2, 3, 4, 5, 6, 7, 8] [] [] (fun wx => wx.cell? ⟨w.heap.size, i, none⟩ = some (.int .u64 (x : Int)) ∧ wx.cell? ⟨w.heap.size + 1, i, none⟩ = some (.int .u64 (y : Int))) (by kernel_rfl) (by kernel_rfl) (by kernel_rfl) (by rfl) ⟨c1, c2⟩ ?_
        apply Exists.intro
        refine ⟨fun wx hx => ?_, ?_⟩
        · obtain ⟨x1, x2⟩ := hx
          repeat (refine seI_step rfl (fun K hK => ?_); go_simp; refine hK _ ?_; clear hK K)
          exact seI_nil rfl
        refine wpTA_nil .nil ?_
        go_wp2
        refine NoPanic.normal ?_
        go_wp2
        refine wp_region_early [0, 1, 2, 3, 4, 5, 6, 7, 8, 9] [] [] (fun wx => wx.cell? ⟨w.heap.size, i, none⟩ = some (.int .u64 (x : Int)) ∧ wx.cell? ⟨w.heap.size + 1, i, none⟩ = some (.int .u64 (y : Int))) (by kernel_rfl) (by kernel_rfl) (by kernel_rfl) (by rfl) ⟨c1, c2⟩ ?_
        apply Exists.intro
        refine ⟨fun wx hx => ?_, ?_⟩
        · obtain ⟨x1, x2⟩ := hx
          repeat (refine seI_step rfl (fun K hK => ?_); go_simp; refine hK _ ?_; clear hK K)
          exact seI_nil rfl
        refine wpTA_nil .nil ?_
        go_wp2
        refine NoPanic.normal ?_
        go_wp2
        go_ret
        exact ⟨by rw [← hs.out]; simp, HW.out.drew.drew⟩
    · obtain rfl : j = -1 := by omega
      have hs := hid (show n = m from all_same HU.out)
      go_wp2
      go_ret
      exact ⟨by rw [hs.out]; simp, HW.out⟩
theorem all_limbs (n : Nat) (hn : n < lim) : ((List.range 10).all fun i => ((limb n i : Nat) : Int) == 0) = decide (n = 0) := by
  by_cases h : n = 0
  · subst h
    rw [decide_eq_true rfl, List.all_eq_true]
    intro i _
    rw [limb_zero]; rfl
  · rw [decide_eq_false h, List.all_eq_false]
    refine Classical.byContradiction fun hc => h (limb_all_zero hn fun i hi => Classical.byContradiction fun h0 => hc ⟨i, List.mem_range.2 hi, ?_⟩)
    simp; omega
set_option maxRecDepth 100000 in
set_option maxHeartbeats 1000000 in
theorem rzero_any (n : Nat) (na : Bool) (hn : n < lim) (w : World) :
    Calls Try.prog 92 #[bigM n na] w fun e w' => e = .returned (.bool (decide (n = 0))) ∧ Below w.heap.size w w' := by
  have heq : ∀ W : World, (Op.equalIn 10000 121 (.agg #[uV (limb n 0), uV (limb n 1), uV (limb n 2), uV (limb n 3), uV (limb n 4), uV (limb n 5), uV (limb n 6), uV (limb n 7), uV (limb n 8), uV (limb n 9)])
      (.agg #[.int .u64 0, .int .u64 0, .int .u64 0, .int .u64 0, .int .u64 0, .int .u64 0, .int .u64 0, .int .u64 0, .int .u64 0, .int .u64 0])).run Try.prog W = .ok (decide (n = 0)) W := fun W => by
    have h := run_equalIn_arr (P := Try.prog) 9998 Try.underlying121 Try.underlying50 (fun w => by kernel_rfl) #[uV (limb n 0), uV (limb n 1), uV (limb n 2), uV (limb n 3), uV (limb n 4), uV (limb n 5), uV (limb n 6), uV (limb n 7), uV (limb n 8), uV (limb n 9)]
      #[.int .u64 0, .int .u64 0, .int .u64 0, .int .u64 0, .int .u64 0, .int .u64 0, .int .u64 0, .int .u64 0, .int .u64 0, .int .u64 0] (fun i => ((limb n i : Nat) : Int)) (fun _ => 0) (cases10 ⟨rfl, rfl⟩ ⟨rfl, rfl⟩ ⟨rfl, rfl⟩ ⟨rfl, rfl⟩ ⟨rfl, rfl⟩ ⟨rfl, rfl⟩ ⟨rfl, rfl⟩ ⟨rfl, rfl⟩ ⟨rfl, rfl⟩ ⟨rfl, rfl⟩) W
    rw [all_limbs n hn] at h
    exact h
  unfold bigM arr
  clear hn
  generalize decide (n = 0) = r at *
  go_enter Try.func92, Try.ntmps92
  go_wp2
  go_ret
  exact ⟨by simp, Below_one _⟩
end Go.Proofs.Ytecmpjccdhmeeaa
end
section
/- 'Plus', 'Of', 'Minus', 'Int' of the reference, walked. -/
namespace Go.Proofs.Ytecmpjccdhmeeaa
open Go.RowKit
theorem loadBig {ops : Array Oper} {rest : List Oper} {o : Oper} {a : Act} {w : World} {Q : Exit → Act → World → Prop} (hgd : o.guard = none) (x : Operand) (ho : o.op = .load 123 x) (g : Nat) (hx : a.eval x = .pointer (some ⟨g, 0, none⟩))
    (f : Nat → Nat) (neg : Bool) (hg : Blk w g (arr f neg) 123) (h : wpList Try.prog ops Q rest (a.put o.dst (.agg (arr f neg))) w) : wpList Try.prog ops Q (o :: rest) a w :=
  wpList_load_row hgd 123 x ho g hx 123 (arr f neg) (0, 0) _ hg Try.underlying123 rfl (by kernel_rfl) h
theorem storeBig {ops : Array Oper} {rest : List Oper} {o : Oper} {a : Act} {w : World} {Q : Exit → Act → World → Prop} (hgd : o.guard = none) (x y : Operand) (ho : o.op = .store 123 x y) (g : Nat) (f : Nat → Nat) (neg : Bool) (hx : a.eval x = .pointer (some ⟨g, 0, none⟩)) (hy : a.eval y = .agg (arr f neg))
    (old : Array Value) (hg : Blk w g old 123) (ho2 : old.size = 11) (h : wpList Try.prog ops Q rest (a.put o.dst undef) (w.setRow g (arr f neg))) : wpList Try.prog ops Q (o :: rest) a w :=
  wpList_store_row hgd 123 x y ho g (arr f neg) hx hy 123 old hg (by kernel_rfl) ho2 (arr_one _ _) h
theorem retBig {fn : Func} {p : Tmp} (h : fn.results = #[.cell p 123]) (tmps : Array Value) (w : World) (g : Nat) (f : Nat → Nat) (neg : Bool) (hp : tmps.getD p undef = .pointer (some ⟨g, 0, none⟩)) (hg : Blk w g (arr f neg) 123) : (results fn tmps).run Try.prog w = .ok (.agg (arr f neg)) w :=
  results_cell_row h tmps w g 123 (arr f neg) (0, 0) _ hp hg Try.underlying123 rfl (by kernel_rfl)
set_option maxRecDepth 100000 in
set_option maxHeartbeats 1000000 in
theorem plus_same (n m : Nat) (na : Bool) (w : World) :
    Calls Try.prog 75 #[bigM n na, bigM m na] w fun e w' => e = .returned (bigM (n + m) na) ∧ Below w.heap.size w w' := by
  unfold bigM
  have hn := arr_neg (limb n) na
  have hm := arr_neg (limb m) na
  go_enter Try.func75, Try.ntmps75
  have hbool : ((na == na) = true) := by simp
  obtain ⟨h1, h2, h3, hb⟩ := al3 w (.cells (arr (limb n) na) 123) (.cells (arr (limb m) na) 123) (.cells (arr (fun _ => 0) false) 123)
  rw [arr_zero] at h1 h2 h3 hb
  have H1 := hid h1; have H2 := hid h2; have H3 := hid h3; have HB := hid hb
  clear h1 h2 h3 hb
  go_wp2_with (first
    | (refine loadBig rfl (.tmp 2) rfl w.heap.size rfl (limb n) na H1.out ?_)
    | (refine loadBig rfl (.tmp 3) rfl (w.heap.size + 1) rfl (limb m) na H2.out ?_))
  refine (radd_any n m na na _).mono ?_
  rintro e W1 ⟨rfl, hb1⟩
  have K3 := hid (Blk.below (show Blk _ (w.heap.size + 1 + 1) _ 123 from H3.out) hb1 (Nat.le_refl _))
  have B1 := hid (HB.out.trans (hb1.mono HB.out.size))
  clear hb1 hn hm hbool H1 H2 H3 HB
  go_wp2_with (refine storeBig rfl (.tmp 4) (.tmp 13) rfl (w.heap.size + 1 + 1) (limb (n + m)) na rfl rfl _ (K3.out) rfl ?_)
  refine bodyPost_ret (retBig rfl _ _ (w.heap.size + 1 + 1) (limb (n + m)) na rfl (K3.out.setRow _)) rfl ⟨rfl, ?_⟩
  exact B1.out.trans (Below_setRow (Below.refl _ _) (by omega) _)
/-- What is left of two numbers of unlike signs. -/
def diffM (n m : Nat) (na nb : Bool) : Value := if n < m then bigM (m - n) nb else bigM (n - m) (if n = m then false else na)
set_option maxRecDepth 100000 in
set_option maxHeartbeats 2000000 in
theorem plus_less (n m : Nat) (na nb : Bool) (hne : na ≠ nb) (hn3 : n < lim) (hm3 : m < lim) (hlt : n < m) (w : World) :
    Calls Try.prog 75 #[bigM n na, bigM m nb] w fun e w' => e = .returned (bigM (m - n) nb) ∧ Below w.heap.size w w' := by
  unfold bigM
  have hn := arr_neg (limb n) na
  have hm := arr_neg (limb m) nb
  have hbool : ((na == nb) = false) := by simpa using hne
  have HN := hid hn3; have HM := hid hm3; have HL := hid hlt
  clear hn3 hm3 hne hlt
  go_enter Try.func75, Try.ntmps75
  obtain ⟨h1, h2, h3, hb⟩ := al3 w (.cells (arr (limb n) na) 123) (.cells (arr (limb m) nb) 123) (.cells (arr (fun _ => 0) false) 123)
  rw [arr_zero] at h1 h2 h3 hb
  have H1 := hid h1; have H2 := hid h2; have H3 := hid h3; have HB := hid hb
  clear h1 h2 h3 hb
  go_wp2_with (first
    | (refine loadBig rfl (.tmp 2) rfl w.heap.size rfl (limb n) na H1.out ?_)
    | (refine loadBig rfl (.tmp 3) rfl (w.heap.size + 1) rfl (limb m) nb H2.out ?_))
  refine (rless_any n m na nb HN.out HM.out _).mono ?_
  rintro e W1 ⟨rfl, hb1⟩
  rw [decide_eq_true HL.out]
  have K1 := hid (Blk.below (show Blk _ w.heap.size _ 123 from H1.out) hb1 (Nat.le_refl _))
  have K2 := hid (Blk.below (show Blk _ (w.heap.size + 1) _ 123 from H2.out) hb1 (Nat.le_refl _))
  have K3 := hid (Blk.below (show Blk _ (w.heap.size + 1 + 1) _ 123 from H3.out) hb1 (Nat.le_refl _))
  have B1 := hid (HB.out.trans (hb1.mono HB.out.size))
  clear hb1 hn hm hbool H1 H2 H3 HB
  have L2 := hid ((K2.out.otherRow (k := w.heap.size) (arr (limb m) nb) (by omega)).setRow (arr (limb n) na))
  have L1 := hid ((K1.out.setRow (arr (limb m) nb)).otherRow (k := w.heap.size + 1) (arr (limb n) na) (by omega))
  have L3 := hid ((K3.out.otherRow (k := w.heap.size) (arr (limb m) nb) (by omega)).otherRow (k := w.heap.size + 1) (arr (limb n) na) (by omega))
  have LB := hid (Below_setRow (Below_setRow B1.out (Nat.le_refl _) (arr (limb m) nb)) (show w.heap.size ≤ w.heap.size + 1 by omega) (arr (limb n) na))
  go_wp2_with (first
    | (refine loadBig rfl (.tmp 3) rfl (w.heap.size + 1) rfl (limb m) nb K2.out ?_)
    | (refine loadBig rfl (.tmp 2) rfl w.heap.size rfl (limb n) na K1.out ?_)
    | (refine storeBig rfl (.tmp 2) (.tmp 17) rfl w.heap.size (limb m) nb rfl rfl _ (K1.out) rfl ?_)
    | (refine storeBig rfl (.tmp 3) (.tmp 18) rfl (w.heap.size + 1) (limb n) na rfl rfl _ ((K2.out.otherRow _ (by omega))) rfl ?_)
    | (refine loadBig rfl (.tmp 2) rfl w.heap.size rfl (limb m) nb L1.out ?_)
    | (refine loadBig rfl (.tmp 3) rfl (w.heap.size + 1) rfl (limb n) na L2.out ?_))
  generalize (W1.setRow w.heap.size (arr (limb m) nb)).setRow (w.heap.size + 1) (arr (limb n) na) = W2 at *
  refine (rsub_any m n nb na (Nat.le_of_lt HL.out) _).mono ?_
  rintro e W3 ⟨rfl, hb3⟩
  clear K1 K2 K3 L1 L2
  have M3 := hid (L3.out.below hb3 (Nat.le_refl _))
  have MB := hid (LB.out.trans (hb3.mono LB.out.size))
  clear hb3 L3
  have hsz : ∀ k, k < w.heap.size + 1 + 1 + 1 → k < W3.heap.size ∨ k = w.heap.size + 1 + 1 := fun k hk => by have := M3.out.lt; omega
  have HS := hid hsz; clear hsz
  go_wp2_with (first
    | (refine storeBig rfl (.tmp 5) (.tmp 21) rfl W3.heap.size (limb (m - n)) nb rfl rfl _ (.new rfl) rfl ?_)
    | (refine loadBig rfl (.tmp 5) rfl W3.heap.size rfl (limb (m - n)) nb ((Blk.new rfl).setRow _) ?_))
  refine (rzero_any (m - n) nb (by have := HM.out; omega) _).mono ?_
  rintro e W4 ⟨rfl, hb4⟩
  rw [decide_eq_false (show ¬ (m - n = 0) by have := HL.out; omega)]
  have N5 := hid (Blk.below ((Blk.new (w := W3) rfl).setRow (arr (limb (m - n)) nb)) hb4 (Nat.le_refl _))
  have N3 := hid (Blk.below ((M3.out.alloc _).otherRow (arr (limb (m - n)) nb) (by have := M3.out.lt; omega)) hb4 (Nat.le_refl _))
  have NB := hid ((Below_setRow (MB.out.alloc MB.out.size _) (g := W3.heap.size) MB.out.size (arr (limb (m - n)) nb)).trans (hb4.mono (by have := MB.out.size; simp; omega)))
  clear hb4
  go_wp2_with (first
    | (refine loadBig rfl (.tmp 5) rfl W3.heap.size rfl (limb (m - n)) nb N5.out ?_)
    | (refine storeBig rfl (.tmp 4) (.tmp 25) rfl (w.heap.size + 1 + 1) (limb (m - n)) nb rfl rfl _ N3.out rfl ?_))
  refine bodyPost_ret (retBig rfl _ _ (w.heap.size + 1 + 1) (limb (m - n)) nb rfl (N3.out.setRow _)) rfl ⟨rfl, ?_⟩
  exact NB.out.trans (Below_setRow (Below.refl _ _) (by omega) _)
set_option maxRecDepth 100000 in
set_option maxHeartbeats 2000000 in
theorem plus_ge (n m : Nat) (na nb : Bool) (hne : na ≠ nb) (hn3 : n < lim) (hm3 : m < lim) (hlt : m ≤ n) (r : Bool) (hr0 : r = if n = m then false else na) (w : World) :
    Calls Try.prog 75 #[bigM n na, bigM m nb] w fun e w' => e = .returned (bigM (n - m) r) ∧ Below w.heap.size w w' := by
  unfold bigM
  have hn := arr_neg (limb n) na
  have hm := arr_neg (limb m) nb
  have hbool : ((na == nb) = false) := by simpa using hne
  have HN := hid hn3; have HM := hid hm3; have HL := hid hlt; have HR := hid hr0
  clear hn3 hm3 hne hlt hr0
  go_enter Try.func75, Try.ntmps75
  obtain ⟨h1, h2, h3, hb⟩ := al3 w (.cells (arr (limb n) na) 123) (.cells (arr (limb m) nb) 123) (.cells (arr (fun _ => 0) false) 123)
  rw [arr_zero] at h1 h2 h3 hb
  have H1 := hid h1; have H2 := hid h2; have H3 := hid h3; have HB := hid hb
  clear h1 h2 h3 hb
  go_wp2_with (first
    | (refine loadBig rfl (.tmp 2) rfl w.heap.size rfl (limb n) na H1.out ?_)
    | (refine loadBig rfl (.tmp 3) rfl (w.heap.size + 1) rfl (limb m) nb H2.out ?_))
  refine (rless_any n m na nb HN.out HM.out _).mono ?_
  rintro e W1 ⟨rfl, hb1⟩
  rw [decide_eq_false (show ¬ n < m by have := HL.out; omega)]
  have K1 := hid (Blk.below (show Blk _ w.heap.size _ 123 from H1.out) hb1 (Nat.le_refl _))
  have K2 := hid (Blk.below (show Blk _ (w.heap.size + 1) _ 123 from H2.out) hb1 (Nat.le_refl _))
  have K3 := hid (Blk.below (show Blk _ (w.heap.size + 1 + 1) _ 123 from H3.out) hb1 (Nat.le_refl _))
  have B1 := hid (HB.out.trans (hb1.mono HB.out.size))
  clear hb1 hn hm hbool H1 H2 H3 HB
  go_wp2_with (first
    | (refine loadBig rfl (.tmp 2) rfl w.heap.size rfl (limb n) na K1.out ?_)
    | (refine loadBig rfl (.tmp 3) rfl (w.heap.size + 1) rfl (limb m) nb K2.out ?_))
  refine (rsub_any n m na nb HL.out _).mono ?_
  rintro e W3 ⟨rfl, hb3⟩
  have M3 := hid (K3.out.below hb3 (Nat.le_refl _))
  have MB := hid (B1.out.trans (hb3.mono B1.out.size))
  clear hb3 K1 K2 K3
  go_wp2_with (first
    | (refine storeBig rfl (.tmp 5) (.tmp 21) rfl W3.heap.size (limb (n - m)) na rfl rfl _ (.new rfl) rfl ?_)
    | (refine loadBig rfl (.tmp 5) rfl W3.heap.size rfl (limb (n - m)) na ((Blk.new rfl).setRow _) ?_))
  refine (rzero_any (n - m) na (by have := HN.out; omega) _).mono ?_
  rintro e W4 ⟨rfl, hb4⟩
  have N5 := hid (Blk.below ((Blk.new (w := W3) rfl).setRow (arr (limb (n - m)) na)) hb4 (Nat.le_refl _))
  have N3 := hid (Blk.below ((M3.out.alloc _).otherRow (arr (limb (n - m)) na) (by have := M3.out.lt; omega)) hb4 (Nat.le_refl _))
  have NB := hid ((Below_setRow (MB.out.alloc MB.out.size _) (g := W3.heap.size) MB.out.size (arr (limb (n - m)) na)).trans (hb4.mono (by have := MB.out.size; simp; omega)))
  have hl5 := M3.out.lt
  have HL5 := hid hl5
  clear hb4 hl5
  by_cases heq : n = m
  · have hl := HL.out
    obtain rfl : r = false := by rw [HR.out, if_pos heq]
    rw [decide_eq_true (show n - m = 0 by omega)]
    clear heq hl
    have hc : W4.cell? ⟨W3.heap.size, 10, none⟩ = some (.bool na) := N5.out.cell 10
    have hf := N5.out.frozen 10
    have P5 := hid ((N5.out.setCell 10 (.bool false)))
    have P3 := hid (N3.out.other (k := W3.heap.size) (i := 10) (v := .bool false) (by have := HL5.out; omega))
    have PB := hid (NB.out.setCell (p := ⟨W3.heap.size, 10, none⟩) MB.out.size (.bool false))
    rw [arr_setNeg] at P5
    go_wp2_with (first
      | (refine loadBig rfl (.tmp 5) rfl W3.heap.size rfl (limb (n - m)) false P5.out ?_)
      | (refine storeBig rfl (.tmp 4) (.tmp 25) rfl (w.heap.size + 1 + 1) (limb (n - m)) false rfl rfl _ P3.out rfl ?_))
    refine bodyPost_ret (retBig rfl _ _ (w.heap.size + 1 + 1) (limb (n - m)) false rfl (P3.out.setRow _)) rfl ⟨rfl, ?_⟩
    exact PB.out.trans (Below_setRow (Below.refl _ _) (by omega) _)
  · have hl := HL.out
    obtain rfl : na = r := by rw [HR.out, if_neg heq]
    rw [decide_eq_false (show ¬ n - m = 0 by omega)]
    clear heq hl
    go_wp2_with (first
      | (refine loadBig rfl (.tmp 5) rfl W3.heap.size rfl (limb (n - m)) na N5.out ?_)
      | (refine storeBig rfl (.tmp 4) (.tmp 25) rfl (w.heap.size + 1 + 1) (limb (n - m)) na rfl rfl _ N3.out rfl ?_))
    refine bodyPost_ret (retBig rfl _ _ (w.heap.size + 1 + 1) (limb (n - m)) na rfl (N3.out.setRow _)) rfl ⟨rfl, ?_⟩
    exact NB.out.trans (Below_setRow (Below.refl _ _) (by omega) _)
theorem rPlus_any (x y : Int) (hx : 2 * x.natAbs < lim) (hy : 2 * y.natAbs < lim) (w : World) :
    Calls Try.prog 75 #[bigOf x, bigOf y] w fun e w' => e = .returned (bigOf (x + y)) ∧ Below w.heap.size w w' := by
  have p1 : x.natAbs < lim := by omega
  have p2 : y.natAbs < lim := by omega
  by_cases h : decide (x < 0) = decide (y < 0)
  · refine (show Calls Try.prog 75 #[bigM x.natAbs (decide (x < 0)), bigM y.natAbs (decide (y < 0))] w _ from ?_)
    rw [← h]
    refine (plus_same x.natAbs y.natAbs (decide (x < 0)) w).mono ?_
    rintro e w' ⟨rfl, hb⟩
    refine ⟨?_, hb⟩
    unfold bigOf
    have h2 : (x < 0) ↔ (y < 0) := by simpa using h
    rw [show (x + y).natAbs = x.natAbs + y.natAbs by omega, show decide (x + y < 0) = decide (x < 0) by rw [decide_eq_decide]; omega]
  · have h2 : ¬ ((x < 0) ↔ (y < 0)) := by simpa using h
    by_cases hlt : x.natAbs < y.natAbs
    · refine (plus_less x.natAbs y.natAbs _ _ h p1 p2 hlt w).mono ?_
      rintro e w' ⟨rfl, hb⟩
      refine ⟨?_, hb⟩
      unfold bigOf
      rw [show (x + y).natAbs = y.natAbs - x.natAbs by omega, show decide (x + y < 0) = decide (y < 0) by rw [decide_eq_decide]; omega]
    · refine (plus_ge x.natAbs y.natAbs _ _ h p1 p2 (by omega) _ rfl w).mono ?_
      rintro e w' ⟨rfl, hb⟩
      refine ⟨?_, hb⟩
      unfold bigOf
      rw [show (x + y).natAbs = x.natAbs - y.natAbs by omega]
      split
      · rw [show decide (x + y < 0) = false by rw [decide_eq_false_iff_not]; omega]
      · rw [show decide (x + y < 0) = decide (x < 0) by rw [decide_eq_decide]; omega]
end Go.Proofs.Ytecmpjccdhmeeaa
end
section
/- 'Of', 'Minus', 'Int' of the reference, walked. -/
namespace Go.Proofs.Ytecmpjccdhmeeaa
open Go.RowKit
theorem ofArr (u : Nat) (h : u < 18446744073709551616) (neg : Bool) : arr (limb u) neg = #[.int .u64 ((u % 4294967296 : Nat) : Int), .int .u64 ((u / 4294967296 : Nat) : Int), .int .u64 0, .int .u64 0, .int .u64 0, .int .u64 0, .int .u64 0, .int .u64 0, .int .u64 0, .int .u64 0, .bool neg] := by
  have hz : ∀ i, 2 ≤ i → limb u i = 0 := fun i hi => limb_small (Nat.lt_of_lt_of_le h (Nat.pow_le_pow_right (n := 2) (by omega) (show 64 ≤ 32 * i by omega)))
  have h0 : limb u 0 = u % 4294967296 := by unfold limb; simp
  have h1 : limb u 1 = u / 4294967296 := by unfold limb; rw [show 2 ^ (32 * 1) = 4294967296 from rfl]; omega
  unfold arr uV
  rw [h0, h1, hz 2 (by omega), hz 3 (by omega), hz 4 (by omega), hz 5 (by omega), hz 6 (by omega), hz 7 (by omega), hz 8 (by omega), hz 9 (by omega)]
  rfl
set_option maxRecDepth 100000 in
set_option maxHeartbeats 1000000 in
theorem rOf_any (n : Int) (w : World) (h1 : -9223372036854775808 ≤ n) (h2 : n ≤ 9223372036854775807) :
    Calls Try.prog 72 #[.int .i64 n] w fun e w' => e = .returned (bigOf n) ∧ Below w.heap.size w w' := by
  by_cases hn : 0 ≤ n
  · obtain ⟨u, rfl⟩ := Int.eq_ofNat_of_zero_le hn
    have ha := hid (ofArr u (by omega) false)
    have hm := u64_mask u (by omega)
    have hf : ¬ ((u : Int) < 0) := by omega
    go_enter Try.func72, Try.ntmps72
    go_wp2
    refine bodyPost_ret (retBig rfl _ _ w.heap.size (limb u) false rfl ?_) rfl ⟨?_, (Below_one _).alloc (by simp) _⟩
    · rw [ha.out]
      exact al_old (al_new rfl)
    · unfold bigOf bigM
      rw [show ((u : Int)).natAbs = u by omega, show decide ((u : Int) < 0) = false by simp]
  · obtain ⟨u, rfl⟩ : ∃ u : Nat, n = -(u : Int) := ⟨n.natAbs, by omega⟩
    have ha := hid (ofArr u (by omega) true)
    have hm := u64_mask u (by omega)
    have hw : IntKind.u64.wrap (-(u : Int)) = 18446744073709551616 - (u : Int) := by rw [IntKind.wrap_u64]; omega
    have hw2 : IntKind.u64.wrap (-(18446744073709551616 - (u : Int))) = (u : Int) := by rw [IntKind.wrap_u64]; omega
    have hlt : (-(u : Int) < 0) = True := by simp; omega
    go_enter Try.func72, Try.ntmps72
    go_wp2
    refine bodyPost_ret (retBig rfl _ _ w.heap.size (limb u) true rfl ?_) rfl ⟨?_, (Below_one _).alloc (by simp) _⟩
    · rw [ha.out]
      exact al_old (al_new rfl)
    · unfold bigOf bigM
      rw [show (-(u : Int)).natAbs = u by omega, show decide (-(u : Int) < 0) = true by simp; omega]
def fitB (z : Int) : Bool := decide (-9223372036854775808 ≤ z ∧ z ≤ 9223372036854775807)
/-- A number and whether it is an int. -/
def fitV (z : Int) : Value := .tuple #[.int .i64 (if fitB z = true then z else 0), .bool (fitB z)]
theorem fitV_yes {z : Int} (h1 : -9223372036854775808 ≤ z) (h2 : z ≤ 9223372036854775807) : fitV z = .tuple #[.int .i64 z, .bool true] := by
  have : fitB z = true := by unfold fitB; simp [h1, h2]
  unfold fitV; rw [this]; rfl
theorem fitV_no {z : Int} (h : z < -9223372036854775808 ∨ 9223372036854775807 < z) : fitV z = .tuple #[.int .i64 0, .bool false] := by
  have : fitB z = false := by unfold fitB; simp; omega
  unfold fitV; rw [this]; rfl
theorem high_zero {n : Nat} (hn : n < lim) (h : ∀ k, 2 ≤ k → k < 10 → limb n k = 0) : n < 18446744073709551616 := by
  have e : ∀ k, k ≤ 8 → n / 2 ^ (32 * (10 - k)) = 0 := by
    intro k
    induction k with
    | zero => intro _; rw [Nat.sub_zero]; exact lim_div hn
    | succ k ih =>
      intro hk
      rw [div_limb, show 10 - (k + 1) + 1 = 10 - k by omega, ih (by omega), h _ (by omega) (by omega)]
  have := e 8 (by omega)
  have h2 : n / 18446744073709551616 = 0 := this
  omega
theorem or_limbs (n : Nat) (h : n < 18446744073709551616) : bits BinOp.or IntKind.u64 ((limb n 0 : Nat) : Int) (((limb n 1 : Nat) : Int) * 4294967296) = (n : Int) := by
  have h0 : limb n 0 = n % 4294967296 := by unfold limb; simp
  have h1 : limb n 1 = n / 4294967296 := by unfold limb; rw [show 2 ^ (32 * 1) = 4294967296 from rfl]; omega
  rw [h0, h1, show ((n / 4294967296 : Nat) : Int) * 4294967296 = ((n / 4294967296 * 4294967296 : Nat) : Int) by omega, u64_or_nat _ _ (by omega) (by omega), Nat.or_comm, nat_join 32 _ _ (by omega) (by omega)]
  omega
set_option maxRecDepth 100000 in
set_option maxHeartbeats 1000000 in
theorem rInt_any (n : Nat) (neg : Bool) (hn : n < lim) (w : World) (v : Value) (hv : v = fitV (if neg = true then -(n : Int) else n)) :
    Calls Try.prog 74 #[bigM n neg] w fun e w' => e = .returned v ∧ Below w.heap.size w w' := by
  unfold bigM
  have HV := hid hv; have HN := hid hn
  clear hv hn
  go_enter Try.func74, Try.ntmps74
  go_wp2
  have hB := hid (Blk.new (w := w) (cs := arr (limb n) neg) (t := 123) rfl)
  have hb := hid (Below_one (w := w) (.cells (arr (limb n) neg) 123))
  generalize w.alloc (.cells (arr (limb n) neg) 123) = W at *
  go_loop [4,6,7,8,9,10,11,12,13,14] (fun t4 _ _ _ _ _ _ _ _ _ => ∃ i : Nat, 2 ≤ i ∧ i ≤ 10 ∧ t4 = .int .i64 i ∧ ∀ k, 2 ≤ k → k < i → limb n k = 0) (fun t4 _ _ _ _ _ _ _ _ _ => 10 - (intOf t4).toNat)
  case atStart => exact ⟨2, by omega, by omega, rfl, fun k _ _ => by omega⟩
  case round =>
    obtain ⟨i, hi2, hi, rfl, hz⟩ := hrel
    have HZ := hid hz; clear hz
    by_cases hlt : i < 10
    · have hc : W.cell? ⟨w.heap.size, i, none⟩ = some (.int .u64 (limb n i : Nat)) := by rw [hB.out.cell, arr_get _ _ i hlt]
      by_cases h0 : limb n i = 0
      · rw [h0] at hc
        have H0 := hid h0; clear h0
        go_wp2
        go_round
        case rel => exact ⟨i + 1, by omega, by omega, by go_num, fun k hk hk2 => by
          by_cases hki : k = i
          · rw [hki]; exact H0.out
          · exact HZ.out k hk (by omega)⟩
        case measure => simp [intOf]; omega
      · have hne : (((limb n i : Nat) : Int) != 0) = true := by simp; omega
        have hbig : 18446744073709551616 ≤ n := by
          refine Classical.byContradiction fun hc => h0 (limb_small (Nat.lt_of_lt_of_le (show n < 2 ^ 64 by omega) (Nat.pow_le_pow_right (by omega) (by omega))))
        obtain rfl : v = .tuple #[.int .i64 0, .bool false] := by rw [HV.out]; split <;> exact fitV_no (by omega)
        clear HV h0 hbig
        generalize limb n i = x at *
        go_wp2
        go_ret2
        exact ⟨rfl, hb.out⟩
    · obtain rfl : i = 10 := by omega
      have hsm := high_zero HN.out HZ.out
      have c0 : W.cell? ⟨w.heap.size, 0, none⟩ = some (.int .u64 (limb n 0 : Nat)) := by rw [hB.out.cell, arr_get _ _ 0 (by omega)]
      have c1 : W.cell? ⟨w.heap.size, 1, none⟩ = some (.int .u64 (limb n 1 : Nat)) := by rw [hB.out.cell, arr_get _ _ 1 (by omega)]
      have c2 : W.cell? ⟨w.heap.size, 10, none⟩ = some (.bool neg) := by rw [hB.out.cell, arr_neg]
      have l0 := limb_lt n 0
      have l1 := limb_lt n 1
      have hor := or_limbs n hsm
      have HSM := hid hsm; clear hsm
      generalize limb n 0 = x0 at *
      generalize limb n 1 = x1 at *
      cases neg with
      | true =>
        by_cases hbig : (9223372036854775808 : Int) < (n : Int)
        · obtain rfl : v = .tuple #[.int .i64 0, .bool false] := by rw [HV.out]; simp; exact fitV_no (by omega)
          go_wp2
          go_ret2
          exact ⟨rfl, hb.out⟩
        · obtain rfl : v = .tuple #[.int .i64 (-(n : Int)), .bool true] := by rw [HV.out]; simp; exact fitV_yes (by omega) (by omega)
          have hw : wrap64 (IntKind.u64.wrap (-(n : Int))) = -(n : Int) := by rw [IntKind.wrap_u64]; unfold wrap64; omega
          go_wp2
          go_ret2
          exact ⟨rfl, hb.out⟩
      | false =>
        by_cases hbig : (9223372036854775808 : Int) ≤ (n : Int)
        · obtain rfl : v = .tuple #[.int .i64 0, .bool false] := by rw [HV.out]; simp; exact fitV_no (by omega)
          go_wp2
          go_ret2
          exact ⟨rfl, hb.out⟩
        · obtain rfl : v = .tuple #[.int .i64 (n : Int), .bool true] := by rw [HV.out]; simp; exact fitV_yes (by omega) (by omega)
          go_wp2
          go_ret2
          exact ⟨rfl, hb.out⟩
theorem rIntZ_any (z : Int) (hz : z.natAbs < lim) (w : World) : Calls Try.prog 74 #[bigOf z] w fun e w' => e = .returned (fitV z) ∧ Below w.heap.size w w' :=
  rInt_any z.natAbs (decide (z < 0)) hz w (fitV z) (by
    by_cases h : z < 0
    · rw [decide_eq_true h, if_pos rfl, show -((z.natAbs : Nat) : Int) = z by omega]
    · rw [decide_eq_false h, if_neg (by simp), show ((z.natAbs : Nat) : Int) = z by omega])
/-- The same load behind a guard that lets it run. -/
theorem loadBigG {ops : Array Oper} {rest : List Oper} {o : Oper} {a : Act} {w : World} {Q : Exit → Act → World → Prop} (hgd : Region.wanted o (yielded ops a.tmps) = true) (x : Operand) (ho : o.op = .load 123 x) (g : Nat) (hx : a.eval x = .pointer (some ⟨g, 0, none⟩))
    (f : Nat → Nat) (neg : Bool) (hg : Blk w g (arr f neg) 123) (h : wpList Try.prog ops Q rest (a.put o.dst (.agg (arr f neg))) w) : wpList Try.prog ops Q (o :: rest) a w :=
  wpList_step fun _ hK => by
    rw [if_pos hgd]
    exact wp_load_row 123 x ho g hx 123 (arr f neg) (0, 0) _ hg Try.underlying123 rfl (by kernel_rfl) (hK _ _ h)
end Go.Proofs.Ytecmpjccdhmeeaa
end
