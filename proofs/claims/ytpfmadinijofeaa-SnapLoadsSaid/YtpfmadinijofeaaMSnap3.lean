import Derived.Test.YtpfmadinijofeaaProg
import Derived.Test.YtpfmadinijofeaaMSnap2
import Derived.Test.YtpfmadinijofeaaMSnap1
import Derived.ProofKit
import Derived.Deep.Matrix
import Derived.Deep.Slices
import Derived.OpenShut
import Derived.Shelf.SlIterI.Nil
import Derived.Shelf.SortM.Plain
import Derived.Shelf.SortM.SortNone
import Derived.Ground.GgzProg
import Derived.Ground.SlgmProg
import Derived.WideShapes
import Derived.Laws.BitsAllLaws
set_option linter.unusedVariables false
section
/- Conditions of functions, printed by a program of this claim's own (vcgen.py) out of the loaded code; each is proved to be enough. -/
set_option maxRecDepth 100000
namespace Go.Proofs.Ytpfmadinijofeaa
open Go.RowKit
namespace GSn
def env : Env := ⟨[(3, ⟨.int .i64, 1, .int .i64 0, 8, [.int .i64]⟩), (4, ⟨.bool, 1, .bool false, 1, [.bool]⟩), (5, ⟨.int .u8, 1, .int .u8 0, 1, [.int .u8]⟩), (9, ⟨.str, 1, .string ByteArray.empty, 16, [.str]⟩), (22, ⟨.slice 5, 1, .slice none 0 0, 24, [.slice]⟩), (23, ⟨.arr 2 22, 2, .agg #[.slice none 0 0, .slice none 0 0], 48, [.slice, .slice]⟩), (24, ⟨.ptr, 1, .pointer none, 8, [.ptr]⟩), (30, ⟨.int .u64, 1, .int .u64 0, 8, [.int .u64]⟩), (37, ⟨.arr 2 3, 2, .agg #[.int .i64 0, .int .i64 0], 16, [.int .i64, .int .i64]⟩), (38, ⟨.arr 2 4, 2, .agg #[.bool false, .bool false], 2, [.bool, .bool]⟩), (44, ⟨.slice 22, 1, .slice none 0 0, 24, [.slice]⟩), (45, ⟨.arr 2 9, 2, .agg #[.string ByteArray.empty, .string ByteArray.empty], 32, [.str, .str]⟩), (47, ⟨.arr 3 3, 3, .agg #[.int .i64 0, .int .i64 0, .int .i64 0], 24, [.int .i64, .int .i64, .int .i64]⟩), (60, ⟨.slice 3, 1, .slice none 0 0, 24, [.slice]⟩), (63, ⟨.slice 66, 1, .slice none 0 0, 24, [.slice]⟩), (64, ⟨.slice 4, 1, .slice none 0 0, 24, [.slice]⟩), (66, ⟨.struct [(0, 44), (1, 3), (2, 64)], 3, .agg #[.slice none 0 0, .int .i64 0, .slice none 0 0], 56, [.slice, .int .i64, .slice]⟩), (99, ⟨.struct [(0, 24), (1, 3), (2, 3), (3, 3)], 4, .agg #[.pointer none, .int .i64 0, .int .i64 0, .int .i64 0], 32, [.ptr, .int .i64, .int .i64, .int .i64]⟩), (122, ⟨.int .u32, 1, .int .u32 0, 4, [.int .u32]⟩)], [(13, [.lf (.ptr), .lf (.int .i64)]), (14, [.lf (.bool)]), (15, [.lf (.int .i64)]), (16, [.lf (.slice)]), (17, [.lf (.int .i64)]), (18, [.lf (.slice), .lf (.int .i64)]), (19, [.lf (.int .i64), .lf (.slice), .lf (.int .i64)]), (20, [.agg [.int .i64, .int .i64], .agg [.bool, .bool], .lf (.int .i64)]), (21, [.lf (.int .i64), .lf (.str), .lf (.bool)]), (32, [.lf (.int .i64)]), (33, [.lf (.int .i64)]), (34, [.lf (.str)]), (35, [.lf (.str)]), (36, [.lf (.slice)]), (37, []), (38, [.lf (.bool)]), (39, []), (49, [.agg [.ptr, .int .i64, .int .i64, .int .i64], .lf (.int .i64)]), (50, [.lf (.int .i64)]), (51, [.lf (.slice)]), (52, [.lf (.slice)]), (57, [.lf (.int .i64), .lf (.slice), .lf (.int .i64)]), (58, [.lf (.int .i64)]), (65, [.lf (.int .i64)]), (66, [.lf (.str)]), (67, [.lf (.int .u32)]), (73, [.lf (.int .u32)]), (74, [.lf (.slice)]), (83, [.lf (.str)])], [37, 38]⟩
theorem ty3 : TyOk Try.prog 3 ⟨.int .i64, 1, .int .i64 0, 8, [.int .i64]⟩ := tyok (by kernel_rfl) (by kernel_rfl)
theorem ty4 : TyOk Try.prog 4 ⟨.bool, 1, .bool false, 1, [.bool]⟩ := tyok (by kernel_rfl) (by kernel_rfl)
theorem ty5 : TyOk Try.prog 5 ⟨.int .u8, 1, .int .u8 0, 1, [.int .u8]⟩ := tyok (by kernel_rfl) (by kernel_rfl)
theorem ty9 : TyOk Try.prog 9 ⟨.str, 1, .string ByteArray.empty, 16, [.str]⟩ := tyok (by kernel_rfl) (by kernel_rfl)
theorem ty22 : TyOk Try.prog 22 ⟨.slice 5, 1, .slice none 0 0, 24, [.slice]⟩ := tyok (by kernel_rfl) (by kernel_rfl)
theorem ty23 : TyOk Try.prog 23 ⟨.arr 2 22, 2, .agg #[.slice none 0 0, .slice none 0 0], 48, [.slice, .slice]⟩ := tyok (by kernel_rfl) (by kernel_rfl)
theorem ty24 : TyOk Try.prog 24 ⟨.ptr, 1, .pointer none, 8, [.ptr]⟩ := tyok (by kernel_rfl) (by kernel_rfl)
theorem ty30 : TyOk Try.prog 30 ⟨.int .u64, 1, .int .u64 0, 8, [.int .u64]⟩ := tyok (by kernel_rfl) (by kernel_rfl)
theorem ty37 : TyOk Try.prog 37 ⟨.arr 2 3, 2, .agg #[.int .i64 0, .int .i64 0], 16, [.int .i64, .int .i64]⟩ := tyok (by kernel_rfl) (by kernel_rfl)
theorem ty38 : TyOk Try.prog 38 ⟨.arr 2 4, 2, .agg #[.bool false, .bool false], 2, [.bool, .bool]⟩ := tyok (by kernel_rfl) (by kernel_rfl)
theorem ty44 : TyOk Try.prog 44 ⟨.slice 22, 1, .slice none 0 0, 24, [.slice]⟩ := tyok (by kernel_rfl) (by kernel_rfl)
theorem ty45 : TyOk Try.prog 45 ⟨.arr 2 9, 2, .agg #[.string ByteArray.empty, .string ByteArray.empty], 32, [.str, .str]⟩ := tyok (by kernel_rfl) (by kernel_rfl)
theorem ty47 : TyOk Try.prog 47 ⟨.arr 3 3, 3, .agg #[.int .i64 0, .int .i64 0, .int .i64 0], 24, [.int .i64, .int .i64, .int .i64]⟩ := tyok (by kernel_rfl) (by kernel_rfl)
theorem ty60 : TyOk Try.prog 60 ⟨.slice 3, 1, .slice none 0 0, 24, [.slice]⟩ := tyok (by kernel_rfl) (by kernel_rfl)
theorem ty63 : TyOk Try.prog 63 ⟨.slice 66, 1, .slice none 0 0, 24, [.slice]⟩ := tyok (by kernel_rfl) (by kernel_rfl)
theorem ty64 : TyOk Try.prog 64 ⟨.slice 4, 1, .slice none 0 0, 24, [.slice]⟩ := tyok (by kernel_rfl) (by kernel_rfl)
theorem ty66 : TyOk Try.prog 66 ⟨.struct [(0, 44), (1, 3), (2, 64)], 3, .agg #[.slice none 0 0, .int .i64 0, .slice none 0 0], 56, [.slice, .int .i64, .slice]⟩ := tyok (by kernel_rfl) (by kernel_rfl)
theorem ty99 : TyOk Try.prog 99 ⟨.struct [(0, 24), (1, 3), (2, 3), (3, 3)], 4, .agg #[.pointer none, .int .i64 0, .int .i64 0, .int .i64 0], 32, [.ptr, .int .i64, .int .i64, .int .i64]⟩ := tyok (by kernel_rfl) (by kernel_rfl)
theorem ty122 : TyOk Try.prog 122 ⟨.int .u32, 1, .int .u32 0, 4, [.int .u32]⟩ := tyok (by kernel_rfl) (by kernel_rfl)
theorem fn13 : FnOk Try.prog 13 := fnok Try.func13 (by kernel_rfl) (by kernel_rfl)
theorem fn14 : FnOk Try.prog 14 := fnok Try.func14 (by kernel_rfl) (by kernel_rfl)
theorem fn15 : FnOk Try.prog 15 := fnok Try.func15 (by kernel_rfl) (by kernel_rfl)
theorem fn16 : FnOk Try.prog 16 := fnok Try.func16 (by kernel_rfl) (by kernel_rfl)
theorem fn17 : FnOk Try.prog 17 := fnok Try.func17 (by kernel_rfl) (by kernel_rfl)
theorem fn18 : FnOk Try.prog 18 := fnok Try.func18 (by kernel_rfl) (by kernel_rfl)
theorem fn19 : FnOk Try.prog 19 := fnok Try.func19 (by kernel_rfl) (by kernel_rfl)
theorem fn20 : FnOk Try.prog 20 := fnok Try.func20 (by kernel_rfl) (by kernel_rfl)
theorem fn21 : FnOk Try.prog 21 := fnok Try.func21 (by kernel_rfl) (by kernel_rfl)
theorem fn32 : FnOk Try.prog 32 := fnok Try.func32 (by kernel_rfl) (by kernel_rfl)
theorem fn33 : FnOk Try.prog 33 := fnok Try.func33 (by kernel_rfl) (by kernel_rfl)
theorem fn34 : FnOk Try.prog 34 := fnok Try.func34 (by kernel_rfl) (by kernel_rfl)
theorem fn35 : FnOk Try.prog 35 := fnok Try.func35 (by kernel_rfl) (by kernel_rfl)
theorem fn36 : FnOk Try.prog 36 := fnok Try.func36 (by kernel_rfl) (by kernel_rfl)
theorem fn37 : FnOk Try.prog 37 := fnok Try.func37 (by kernel_rfl) (by kernel_rfl)
theorem fn38 : FnOk Try.prog 38 := fnok Try.func38 (by kernel_rfl) (by kernel_rfl)
theorem fn39 : FnOk Try.prog 39 := fnok Try.func39 (by kernel_rfl) (by kernel_rfl)
theorem fn49 : FnOk Try.prog 49 := fnok Try.func49 (by kernel_rfl) (by kernel_rfl)
theorem fn50 : FnOk Try.prog 50 := fnok Try.func50 (by kernel_rfl) (by kernel_rfl)
theorem fn51 : FnOk Try.prog 51 := fnok Try.func51 (by kernel_rfl) (by kernel_rfl)
theorem fn52 : FnOk Try.prog 52 := fnok Try.func52 (by kernel_rfl) (by kernel_rfl)
theorem fn57 : FnOk Try.prog 57 := fnok Try.func57 (by kernel_rfl) (by kernel_rfl)
theorem fn58 : FnOk Try.prog 58 := fnok Try.func58 (by kernel_rfl) (by kernel_rfl)
theorem fn65 : FnOk Try.prog 65 := fnok Try.func65 (by kernel_rfl) (by kernel_rfl)
theorem fn66 : FnOk Try.prog 66 := fnok Try.func66 (by kernel_rfl) (by kernel_rfl)
theorem fn67 : FnOk Try.prog 67 := fnok Try.func67 (by kernel_rfl) (by kernel_rfl)
theorem fn73 : FnOk Try.prog 73 := fnok Try.func73 (by kernel_rfl) (by kernel_rfl)
theorem fn74 : FnOk Try.prog 74 := fnok Try.func74 (by kernel_rfl) (by kernel_rfl)
theorem fn83 : FnOk Try.prog 83 := fnok Try.func83 (by kernel_rfl) (by kernel_rfl)
theorem eqt37 : EqTy Try.prog 37 := ⟨by kernel_rfl, by kernel_rfl, by kernel_rfl⟩
theorem eqt38 : EqTy Try.prog 38 := ⟨by kernel_rfl, by kernel_rfl, by kernel_rfl⟩
theorem envOk : EOk Try.prog env := ⟨(by simp only [env, List.forall_mem_cons, List.not_mem_nil, false_implies, implies_true, and_true]; exact ⟨ty3, ty4, ty5, ty9, ty22, ty23, ty24, ty30, ty37, ty38, ty44, ty45, ty47, ty60, ty63, ty64, ty66, ty99, ty122⟩), (by simp only [env, List.forall_mem_cons, List.not_mem_nil, false_implies, implies_true, and_true]; exact ⟨fn13, fn14, fn15, fn16, fn17, fn18, fn19, fn20, fn21, fn32, fn33, fn34, fn35, fn36, fn37, fn38, fn39, fn49, fn50, fn51, fn52, fn57, fn58, fn65, fn66, fn67, fn73, fn74, fn83⟩), by kernel_rfl, (by simp only [env, List.forall_mem_cons, List.not_mem_nil, false_implies, implies_true, and_true]; exact ⟨eqt37, eqt38⟩)⟩
/-- purser/snap.at -/
def at_vc (p0 : Option Addr) (x1 : Int) (x2 : Int) (x3 : Int) (w : World) (K : Value → World → Prop) : Prop :=
  newO w (.cells #[.pointer none, .int .i64 0, .int .i64 0, .int .i64 0] 99) fun g w_2 =>
  br (Option.isNone p0) (
    ∀ w_3 : World, BoxSt g w_2 w_3 →
    K (.tuple #[.agg #[.pointer none, .int .i64 0, .int .i64 0, .int .i64 0], .int .i64 1]) w_3
  ) (
    br (decide (x1 < 0)) (
      ∀ w_4 : World, BoxSt g w_2 w_4 →
      K (.tuple #[.agg #[.pointer none, .int .i64 0, .int .i64 0, .int .i64 0], .int .i64 1]) w_4
    ) (
      br (decide (x2 < 1)) (
        ∀ w_5 : World, BoxSt g w_2 w_5 →
        K (.tuple #[.agg #[.pointer none, .int .i64 0, .int .i64 0, .int .i64 0], .int .i64 1]) w_5
      ) (
        Calls Try.prog 58 #[.pointer p0] w_2 fun e w_6 => KeepG [g] w_2 w_6 ∧
        ∃ (x23 : Int),
        e = .returned (.int .i64 x23) ∧
        (2 : Int) ≠ 0 ∧
        br (decide (x2 > (IntKind.i64.wrap (Int.tdiv x23 2)))) (
          ∀ w_7 : World, BoxSt g w_6 w_7 →
          K (.tuple #[.agg #[.pointer none, .int .i64 0, .int .i64 0, .int .i64 0], .int .i64 1]) w_7
        ) (
          Calls Try.prog 58 #[.pointer p0] w_6 fun e_2 w_8 => KeepG [g] w_6 w_8 ∧
          ∃ (x30 : Int),
          e_2 = .returned (.int .i64 x30) ∧
          br (decide (x1 > (IntKind.i64.wrap (x30 - (IntKind.i64.wrap (2 * x2)))))) (
            ∀ w_9 : World, BoxSt g w_8 w_9 →
            K (.tuple #[.agg #[.pointer none, .int .i64 0, .int .i64 0, .int .i64 0], .int .i64 1]) w_9
          ) (
            ∀ w_10 : World, BoxSt g w_8 w_10 →
            K (.tuple #[.agg #[.pointer p0, .int .i64 (IntKind.i64.wrap (x1 + (IntKind.i64.wrap (x3 * x2)))), .int .i64 x2, .int .i64 x3], .int .i64 0]) w_10
          )
        )
      )
    )
  )
def at_notes : Notes := ⟨[], [], []⟩
theorem at_calls (p0 : Option Addr) (x1 : Int) (x2 : Int) (x3 : Int) (w : World) (K : Value → World → Prop) (h : at_vc p0 x1 x2 x3 w K) : Calls Try.prog 49 #[.pointer p0, .int .i64 x1, .int .i64 x2, .int .i64 x3] w fun e w' => ∃ v, e = .returned v ∧ K v w' :=
  calls_of_fvc envOk Try.func49 at_notes [8] [.pointer p0, .int .i64 x1, .int .i64 x2, .int .i64 x3] w K (use_vc h (by as_aux_lemma => kernel_rfl))
/-- purser/snap.Room -/
def room_vc (x0 : Int) (w : World) (K : Value → World → Prop) : Prop :=
  br (decide (x0 < 1)) (
    K (.int .i64 0) w
  ) (
    br (decide (x0 > 8192)) (
      K (.int .i64 0) w
    ) (
      K (.int .i64 (IntKind.i64.wrap (64 * (IntKind.i64.wrap (x0 - 1))))) w
    )
  )
def room_notes : Notes := ⟨[], [], []⟩
theorem room_calls (x0 : Int) (w : World) (K : Value → World → Prop) (h : room_vc x0 w K) : Calls Try.prog 32 #[.int .i64 x0] w fun e w' => ∃ v, e = .returned v ∧ K v w' :=
  calls_of_fvc envOk Try.func32 room_notes [] [.int .i64 x0] w K (use_vc h (by as_aux_lemma => kernel_rfl))
/-- purser/snap.number -/
def number_vc (a0 : Option Addr) (n0 : Nat) (c0 : Nat) (x1 : Int) (x2 : Int) (w : World) (K : Value → World → Prop) : Prop :=
  ∃ (I : Option Addr → Nat → Nat → Int → World → Prop) (μ : Option Addr → Nat → Nat → Int → World → Nat),
  I a0 n0 c0 (IntKind.i64.wrap (x2 - 1)) w ∧
  ∀ (a0_2 : Option Addr) (n0_2 : Nat) (c0_2 : Nat) (x7 : Int) (w_2 : World), I a0_2 n0_2 c0_2 x7 w_2 →
  br (decide (x7 ≥ 0)) (
    (0 : Int) ≤ (IntKind.i64.wrap (8 * x7)) ∧
    newO w_2 (.cells #[.int .u8 (IntKind.u8.wrap (Int.fdiv x1 (2 ^ (min (IntKind.i64.wrap (8 * x7)).toNat (IntKind.bits .u64)))))] 5) fun g w_3 =>
    appO Try.prog [] w_3 5 1 1 22 a0_2 n0_2 c0_2 (.slice (some ⟨g, 0, none⟩) 1 1) fun m21 a21 c21 w_4 =>
    I a21 (n0_2 + m21) c21 (IntKind.i64.wrap (x7 - 1)) w_4 ∧ μ a21 (n0_2 + m21) c21 (IntKind.i64.wrap (x7 - 1)) w_4 < μ a0_2 n0_2 c0_2 x7 w_2
  ) (
    K (.slice a0_2 n0_2 c0_2) w_2
  )
def number_notes : Notes := ⟨[], [(2, ⟨[(0, .lf (.slice)), (7, .lf (.int .i64))], [], [10, 11, 14, 15, 16, 17, 18, 19, 20, 21, 0, 12, 13, 7], []⟩)], []⟩
theorem number_calls (a0 : Option Addr) (n0 : Nat) (c0 : Nat) (x1 : Int) (x2 : Int) (w : World) (K : Value → World → Prop) (h : number_vc a0 n0 c0 x1 x2 w K) : Calls Try.prog 74 #[.slice a0 n0 c0, .int .u64 x1, .int .i64 x2] w fun e w' => ∃ v, e = .returned v ∧ K v w' :=
  calls_of_fvc envOk Try.func74 number_notes [] [.slice a0 n0 c0, .int .u64 x1, .int .i64 x2] w K (use_vc h (by as_aux_lemma => kernel_rfl))
/-- purser/snap.head -/
def head_vc (x0 : Int) (a1 : Option Addr) (n1 : Nat) (c1 : Nat) (w : World) (K : Value → World → Prop) : Prop :=
  Calls Try.prog 74 #[.slice none 0 0, .int .u64 (IntKind.u64.wrap x0), .int .i64 8] w fun e w_2 => KeepG [] w w_2 ∧
  ∃ (a10 : Option Addr) (n10 : Nat) (c10 : Nat),
  e = .returned (.slice a10 n10 c10) ∧
  Calls Try.prog 74 #[.slice a10 n10 c10, .int .u64 (IntKind.u64.wrap ((n1 : Nat) : Int)), .int .i64 8] w_2 fun e_2 w_3 => KeepG [] w_2 w_3 ∧
  ∃ (a14 : Option Addr) (n14 : Nat) (c14 : Nat),
  e_2 = .returned (.slice a14 n14 c14) ∧
  newO w_3 (.cells #[.slice a14 n14 c14, .slice a1 n1 c1] 22) fun g w_4 =>
  Calls Try.prog 73 #[.slice (some ⟨g, 0, none⟩) 2 2] w_4 fun e_3 w_5 => KeepG [] w_4 w_5 ∧
  ∃ (x18 : Int),
  e_3 = .returned (.int .u32 x18) ∧
  newO w_5 (.cells #[.int .u8 3] 5) fun g_2 w_6 =>
  appO Try.prog [] w_6 5 1 1 22 (some ⟨g_2, 0, none⟩) 1 1 (.slice a14 n14 c14) fun m21 a21 c21 w_7 =>
  Calls Try.prog 74 #[.slice a21 (1 + m21) c21, .int .u64 (IntKind.u64.wrap x18), .int .i64 4] w_7 fun e_4 w_8 => KeepG [] w_7 w_8 ∧
  ∃ (a24 : Option Addr) (n24 : Nat) (c24 : Nat),
  e_4 = .returned (.slice a24 n24 c24) ∧
  appZ [] w_8 5 1 1 [.int .u8 0] a24 n24 c24 (IntKind.i64.wrap (64 - ((n24 : Nat) : Int))) fun m29 a29 c29 w_9 =>
  K (.slice a29 (n24 + m29) c29) w_9
def head_notes : Notes := ⟨[], [], []⟩
theorem head_calls (x0 : Int) (a1 : Option Addr) (n1 : Nat) (c1 : Nat) (w : World) (K : Value → World → Prop) (h : head_vc x0 a1 n1 c1 w K) : Calls Try.prog 52 #[.int .i64 x0, .slice a1 n1 c1] w fun e w' => ∃ v, e = .returned v ∧ K v w' :=
  calls_of_fvc envOk Try.func52 head_notes [] [.int .i64 x0, .slice a1 n1 c1] w K (use_vc h (by as_aux_lemma => kernel_rfl))
/-- purser/snap.whole -/
def whole_vc (a0 : Option Addr) (n0 : Nat) (c0 : Nat) (w : World) (K : Value → World → Prop) : Prop :=
  newO w (.cells #[] 5) fun g w_2 =>
  appO Try.prog [] w_2 5 1 1 22 (some ⟨g, 0, none⟩) 0 0 (.slice a0 n0 c0) fun m6 a6 c6 w_3 =>
  ∃ (I : Option Addr → Nat → Nat → World → Prop) (μ : Option Addr → Nat → Nat → World → Nat),
  I a6 (0 + m6) c6 w_3 ∧
  ∀ (a3 : Option Addr) (n3 : Nat) (c3 : Nat) (w_4 : World), I a3 n3 c3 w_4 →
  (64 : Int) ≠ 0 ∧
  br (decide ((Int.tmod ((n3 : Nat) : Int) 64) ≠ 0)) (
    newO w_4 (.cells #[.int .u8 0] 5) fun g_2 w_5 =>
    appO Try.prog [] w_5 5 1 1 22 a3 n3 c3 (.slice (some ⟨g_2, 0, none⟩) 1 1) fun m13 a13 c13 w_6 =>
    I a13 (n3 + m13) c13 w_6 ∧ μ a13 (n3 + m13) c13 w_6 < μ a3 n3 c3 w_4
  ) (
    K (.slice a3 n3 c3) w_4
  )
def whole_notes : Notes := ⟨[], [(2, ⟨[(3, .lf (.slice))], [], [7, 8, 9, 10, 11, 12, 13, 3], []⟩)], []⟩
theorem whole_calls (a0 : Option Addr) (n0 : Nat) (c0 : Nat) (w : World) (K : Value → World → Prop) (h : whole_vc a0 n0 c0 w K) : Calls Try.prog 51 #[.slice a0 n0 c0] w fun e w' => ∃ v, e = .returned v ∧ K v w' :=
  calls_of_fvc envOk Try.func51 whole_notes [] [.slice a0 n0 c0] w K (use_vc h (by as_aux_lemma => kernel_rfl))
/-- (purser/snap.place).write -/
def pwrite_vc (p0_0 : Option Addr) (x0_1 : Int) (x0_2 : Int) (x0_3 : Int) (x1 : Int) (a2 : Option Addr) (n2 : Nat) (c2 : Nat) (w : World) (K : Value → World → Prop) : Prop :=
  newO w (.cells #[.pointer p0_0, .int .i64 x0_1, .int .i64 x0_2, .int .i64 x0_3] 99) fun g w_2 =>
  br (decide (((n2 : Nat) : Int) = 0)) (
    K (.int .i64 0) w_2
  ) (
    Calls Try.prog 17 #[.pointer p0_0, .int .i64 (IntKind.i64.wrap (x0_1 + x1)), .slice a2 n2 c2] w_2 fun e w_3 => KeepG [g] w_2 w_3 ∧
    ∃ (x18 : Int),
    e = .returned (.int .i64 x18) ∧
    br (decide (x18 ≠ 0)) (
      K (.int .i64 x18) w_3
    ) (
      Calls Try.prog 65 #[.pointer p0_0] w_3 fun e_2 w_4 => KeepG [g] w_3 w_4 ∧
      ∃ (x24 : Int),
      e_2 = .returned (.int .i64 x24) ∧
      K (.int .i64 x24) w_4
    )
  )
def pwrite_notes : Notes := ⟨[], [], []⟩
theorem pwrite_calls (p0_0 : Option Addr) (x0_1 : Int) (x0_2 : Int) (x0_3 : Int) (x1 : Int) (a2 : Option Addr) (n2 : Nat) (c2 : Nat) (w : World) (K : Value → World → Prop) (h : pwrite_vc p0_0 x0_1 x0_2 x0_3 x1 a2 n2 c2 w K) : Calls Try.prog 50 #[.agg #[.pointer p0_0, .int .i64 x0_1, .int .i64 x0_2, .int .i64 x0_3], .int .i64 x1, .slice a2 n2 c2] w fun e w' => ∃ v, e = .returned v ∧ K v w' :=
  calls_of_fvc envOk Try.func50 pwrite_notes [3] [.agg #[.pointer p0_0, .int .i64 x0_1, .int .i64 x0_2, .int .i64 x0_3], .int .i64 x1, .slice a2 n2 c2] w K (use_vc h (by as_aux_lemma => kernel_rfl))
/-- purser/snap.Save -/
def save_vc (p0 : Option Addr) (x1 : Int) (x2 : Int) (x3 : Int) (a4 : Option Addr) (n4 : Nat) (c4 : Nat) (w : World) (K : Value → World → Prop) : Prop :=
  Calls Try.prog 49 #[.pointer p0, .int .i64 x1, .int .i64 x2, .int .i64 (bitsV .and .i64 x3 1)] w fun e w_2 => KeepG [] w w_2 ∧
  ∃ (p20_0_0 : Option Addr) (x20_0_1 : Int) (x20_0_2 : Int) (x20_0_3 : Int) (x20_1 : Int),
  e = .returned (.tuple #[.agg #[.pointer p20_0_0, .int .i64 x20_0_1, .int .i64 x20_0_2, .int .i64 x20_0_3], .int .i64 x20_1]) ∧
  newO w_2 (.cells #[.pointer none, .int .i64 0, .int .i64 0, .int .i64 0] 99) fun g w_3 =>
  ∀ w_4 : World, BoxSt g w_3 w_4 →
  br (decide (x20_1 ≠ 0)) (
    K (.int .i64 x20_1) w_4
  ) (
    br (decide (x3 < 1)) (
      K (.int .i64 1) w_4
    ) (
      Calls Try.prog 32 #[.int .i64 x2] w_4 fun e_2 w_5 => KeepG [g] w_4 w_5 ∧
      ∃ (x34 : Int),
      e_2 = .returned (.int .i64 x34) ∧
      br (decide (((n4 : Nat) : Int) > x34)) (
        K (.int .i64 5) w_5
      ) (
        drewO w_5 fun w_6 =>
        Calls Try.prog 51 #[.slice a4 n4 c4] w_6 fun e_3 w_7 => KeepG [g] w_6 w_7 ∧
        ∃ (a38 : Option Addr) (n38 : Nat) (c38 : Nat),
        e_3 = .returned (.slice a38 n38 c38) ∧
        Calls Try.prog 50 #[.agg #[.pointer p20_0_0, .int .i64 x20_0_1, .int .i64 x20_0_2, .int .i64 x20_0_3], .int .i64 1, .slice a38 n38 c38] w_7 fun e_4 w_8 => KeepG [g] w_7 w_8 ∧
        ∃ (x39 : Int),
        e_4 = .returned (.int .i64 x39) ∧
        br (decide (x39 ≠ 0)) (
          K (.int .i64 x39) w_8
        ) (
          drewO w_8 fun w_9 =>
          Calls Try.prog 52 #[.int .i64 x3, .slice a4 n4 c4] w_9 fun e_5 w_10 => KeepG [g] w_9 w_10 ∧
          ∃ (a46 : Option Addr) (n46 : Nat) (c46 : Nat),
          e_5 = .returned (.slice a46 n46 c46) ∧
          Calls Try.prog 50 #[.agg #[.pointer p20_0_0, .int .i64 x20_0_1, .int .i64 x20_0_2, .int .i64 x20_0_3], .int .i64 0, .slice a46 n46 c46] w_10 fun e_6 w_11 => KeepG [g] w_10 w_11 ∧
          ∃ (x47 : Int),
          e_6 = .returned (.int .i64 x47) ∧
          K (.int .i64 x47) w_11
        )
      )
    )
  )
def save_notes : Notes := ⟨[(8, ⟨[0, 0, 2, 7, 15], [2, 3], [0, 1, 4]⟩), (11, ⟨[0, 0, 0, 6, 15, 31], [3, 4], [0, 1, 2, 5]⟩)], [], []⟩
theorem save_calls (p0 : Option Addr) (x1 : Int) (x2 : Int) (x3 : Int) (a4 : Option Addr) (n4 : Nat) (c4 : Nat) (w : World) (K : Value → World → Prop) (h : save_vc p0 x1 x2 x3 a4 n4 c4 w K) : Calls Try.prog 15 #[.pointer p0, .int .i64 x1, .int .i64 x2, .int .i64 x3, .slice a4 n4 c4] w fun e w' => ∃ v, e = .returned v ∧ K v w' :=
  calls_of_fvc envOk Try.func15 save_notes [11] [.pointer p0, .int .i64 x1, .int .i64 x2, .int .i64 x3, .slice a4 n4 c4] w K (use_vc h (by as_aux_lemma => kernel_rfl))
/-- (purser/snap.place).read -/
def pread_vc (p0_0 : Option Addr) (x0_1 : Int) (x0_2 : Int) (x0_3 : Int) (w : World) (K : Value → World → Prop) : Prop :=
  newO w (.cells #[.pointer p0_0, .int .i64 x0_1, .int .i64 x0_2, .int .i64 x0_3] 99) fun g w_2 =>
  Calls Try.prog 18 #[.pointer p0_0, .int .i64 x0_1, .int .i64 x0_2] w_2 fun e w_3 => KeepG [g] w_2 w_3 ∧
  ∃ (a16_0 : Option Addr) (n16_0 : Nat) (c16_0 : Nat) (x16_1 : Int),
  e = .returned (.tuple #[.slice a16_0 n16_0 c16_0, .int .i64 x16_1]) ∧
  br (decide (x16_1 ≠ 0)) (
    K (.tuple #[.int .i64 0, .slice none 0 0, .int .i64 x16_1]) w_3
  ) (
    newO w_3 (.cells #[.int .i64 0, .int .i64 0] 37) fun g_2 w_4 =>
    (0 : Int) ≤ (1 : Int) ∧ (1 : Int) ≤ (17 : Int) ∧ (17 : Int) ≤ (((c16_0 : Nat) : Int) : Int) ∧
    ∃ (I : Int → World → Prop) (μ : Int → World → Nat),
    I 0 w_4 ∧
    ∀ (x25 : Int) (w_5 : World), I x25 w_5 →
    br (decide (x25 < (((17 : Int).toNat - (1 : Int).toNat : Nat) : Int))) (
      withP (sliceBase a16_0 c16_0 ((1 : Int).toNat) 1) fun g28 o28 =>
      (0 : Int) ≤ x25 ∧ x25 < ((((17 : Int).toNat - (1 : Int).toNat : Nat) : Int) : Int) ∧
      ∃ (x29 : Int), w_5.cell? ⟨g28, o28 + x25.toNat * 1, none⟩ = some (.int .u8 x29) ∧
      (8 : Int) ≠ 0 ∧
      (8 : Int) ≠ 0 ∧
      (0 : Int) ≤ IntKind.i64.wrap (Int.tdiv x25 8) ∧ IntKind.i64.wrap (Int.tdiv x25 8) < ((2 : Nat) : Int) ∧
      ∃ (x35 : Int), w_5.cell? ⟨g_2, 0 + (IntKind.i64.wrap (Int.tdiv x25 8)).toNat * 1, none⟩ = some (.int .i64 x35) ∧
      (0 : Int) ≤ 8 ∧
      (0 : Int) ≤ IntKind.i64.wrap (Int.tdiv x25 8) ∧ IntKind.i64.wrap (Int.tdiv x25 8) < ((2 : Nat) : Int) ∧
      stO [g] w_5 g_2 (0 + (IntKind.i64.wrap (Int.tdiv x25 8)).toNat * 1) [.int .i64 (bitsV .or .i64 (IntKind.i64.wrap (x35 * 2 ^ (min (8 : Int).toNat (IntKind.bits .i64)))) (IntKind.i64.wrap x29))] fun w_6 =>
      I (IntKind.i64.wrap (x25 + 1)) w_6 ∧ μ (IntKind.i64.wrap (x25 + 1)) w_6 < μ x25 w_5
    ) (
      drewO w_5 fun w_7 =>
      (0 : Int) ≤ 0 ∧ 0 < ((2 : Nat) : Int) ∧
      ∃ (x43 : Int), w_7.cell? ⟨g_2, 0 + (0 : Int).toNat * 1, none⟩ = some (.int .i64 x43) ∧
      br (decide (x43 < 1)) (
        K (.tuple #[.int .i64 0, .slice none 0 0, .int .i64 0]) w_7
      ) (
        (0 : Int) ≤ 0 ∧ 0 < ((2 : Nat) : Int) ∧
        ∃ (x47 : Int), w_7.cell? ⟨g_2, 0 + (0 : Int).toNat * 1, none⟩ = some (.int .i64 x47) ∧
        br (decide ((bitsV .and .i64 x47 1) ≠ x0_3)) (
          K (.tuple #[.int .i64 0, .slice none 0 0, .int .i64 0]) w_7
        ) (
          (0 : Int) ≤ 1 ∧ 1 < ((2 : Nat) : Int) ∧
          ∃ (x55 : Int), w_7.cell? ⟨g_2, 0 + (1 : Int).toNat * 1, none⟩ = some (.int .i64 x55) ∧
          br (decide (x55 < 0)) (
            K (.tuple #[.int .i64 0, .slice none 0 0, .int .i64 0]) w_7
          ) (
            (0 : Int) ≤ 1 ∧ 1 < ((2 : Nat) : Int) ∧
            ∃ (x60 : Int), w_7.cell? ⟨g_2, 0 + (1 : Int).toNat * 1, none⟩ = some (.int .i64 x60) ∧
            Calls Try.prog 32 #[.int .i64 x0_2] w_7 fun e_2 w_9 => KeepG [g] w_7 w_9 ∧
            ∃ (x63 : Int),
            e_2 = .returned (.int .i64 x63) ∧
            w_9.cell? ⟨g_2, 0 + (1 : Int).toNat * 1, none⟩ = some (.int .i64 x60) ∧
            br (decide (x60 > x63)) (
              K (.tuple #[.int .i64 0, .slice none 0 0, .int .i64 0]) w_9
            ) (
              newO w_9 (.cells #[] 5) fun g_3 w_10 =>
              (0 : Int) ≤ 1 ∧ 1 < ((2 : Nat) : Int) ∧
              ∃ (x69 : Int), w_10.cell? ⟨g_2, 0 + (1 : Int).toNat * 1, none⟩ = some (.int .i64 x69) ∧
              (0 : Int) ≤ (64 : Int) ∧ (64 : Int) ≤ IntKind.i64.wrap (64 + x69) ∧ IntKind.i64.wrap (64 + x69) ≤ (((c16_0 : Nat) : Int) : Int) ∧
              appO Try.prog [g] w_10 5 1 1 22 (some ⟨g_3, 0, none⟩) 0 0 (.slice (sliceBase a16_0 c16_0 ((64 : Int).toNat) 1) ((IntKind.i64.wrap (64 + x69)).toNat - (64 : Int).toNat) (c16_0 - (64 : Int).toNat)) fun m72 a72 c72 w_11 =>
              drewO w_11 fun w_12 =>
              (0 : Int) ≤ (64 : Int) ∧ (64 : Int) ≤ (((c16_0 : Nat) : Int) : Int) ∧
              ∃ bs75 : List UInt8, bs75.length = (64 : Int).toNat ∧ RowAt w_12 a16_0 (bs75.map bV) ∧
              (0 : Int) ≤ 0 ∧ 0 < ((2 : Nat) : Int) ∧
              ∃ (x77 : Int), w_12.cell? ⟨g_2, 0 + (0 : Int).toNat * 1, none⟩ = some (.int .i64 x77) ∧
              Calls Try.prog 52 #[.int .i64 x77, .slice a72 (0 + m72) c72] w_12 fun e_3 w_13 => KeepG [g] w_12 w_13 ∧
              ∃ (a79 : Option Addr) (n79 : Nat) (c79 : Nat),
              e_3 = .returned (.slice a79 n79 c79) ∧
              RowAt w_13 a16_0 (bs75.map bV) ∧
              ∃ bs80 : List UInt8, bs80.length = n79 ∧ RowAt w_13 a79 (bs80.map bV) ∧
              br (decide ((strOf bs75) ≠ (strOf bs80))) (
                K (.tuple #[.int .i64 0, .slice none 0 0, .int .i64 0]) w_13
              ) (
                (0 : Int) ≤ 0 ∧ 0 < ((2 : Nat) : Int) ∧
                ∃ (x83 : Int), w_13.cell? ⟨g_2, 0 + (0 : Int).toNat * 1, none⟩ = some (.int .i64 x83) ∧
                K (.tuple #[.int .i64 x83, .slice a72 (0 + m72) c72, .int .i64 0]) w_13
              )
            )
          )
        )
      )
    )
  )
def pread_notes : Notes := ⟨[(10, ⟨[0, 1, 3, 7, 15, 31, 63, 15, 143, 511, 1023, 2047, 4095, 8191, 16383, 32767, 65535, 131071, 262143, 131071, 655359, 1703935, 4194303, 8388607], [21], [0, 1, 2, 3, 4, 5, 6, 7, 8, 9, 10, 11, 12, 13, 14, 15, 16, 17, 18, 19, 20, 22, 23]⟩), (13, ⟨[0, 1, 3, 0, 8, 0, 56, 120, 255], [6], [0, 1, 2, 3, 4, 5, 7, 8]⟩)], [(6, ⟨[(25, .lf (.int .i64))], [], [26, 27, 28, 29, 7, 8, 30, 31, 32, 33, 34, 35, 36, 37, 38, 39, 40, 41, 25], []⟩)], []⟩
theorem pread_calls (p0_0 : Option Addr) (x0_1 : Int) (x0_2 : Int) (x0_3 : Int) (w : World) (K : Value → World → Prop) (h : pread_vc p0_0 x0_1 x0_2 x0_3 w K) : Calls Try.prog 57 #[.agg #[.pointer p0_0, .int .i64 x0_1, .int .i64 x0_2, .int .i64 x0_3]] w fun e w' => ∃ v, e = .returned v ∧ K v w' :=
  calls_of_fvc envOk Try.func57 pread_notes [1] [.agg #[.pointer p0_0, .int .i64 x0_1, .int .i64 x0_2, .int .i64 x0_3]] w K (use_vc h (by as_aux_lemma => kernel_rfl))
/-- purser/snap.Load -/
def load_vc (p0 : Option Addr) (x1 : Int) (x2 : Int) (w : World) (K : Value → World → Prop) : Prop :=
  ∃ (I : Int → Option Addr → Nat → Nat → Int → World → Prop) (μ : Int → Option Addr → Nat → Nat → Int → World → Nat),
  I 0 none 0 0 0 w ∧
  ∀ (x9 : Int) (a10 : Option Addr) (n10 : Nat) (c10 : Nat) (x16 : Int) (w_2 : World), I x9 a10 n10 c10 x16 w_2 →
  br (decide (x16 < 2)) (
    Calls Try.prog 49 #[.pointer p0, .int .i64 x1, .int .i64 x2, .int .i64 x16] w_2 fun e w_3 => KeepG [] w_2 w_3 ∧
    ∃ (p24_0_0 : Option Addr) (x24_0_1 : Int) (x24_0_2 : Int) (x24_0_3 : Int) (x24_1 : Int),
    e = .returned (.tuple #[.agg #[.pointer p24_0_0, .int .i64 x24_0_1, .int .i64 x24_0_2, .int .i64 x24_0_3], .int .i64 x24_1]) ∧
    newO w_3 (.cells #[.pointer none, .int .i64 0, .int .i64 0, .int .i64 0] 99) fun g w_4 =>
    ∀ w_5 : World, BoxSt g w_4 w_5 →
    br (decide (x24_1 ≠ 0)) (
      K (.tuple #[.int .i64 0, .slice none 0 0, .int .i64 x24_1]) w_5
    ) (
      Calls Try.prog 57 #[.agg #[.pointer p24_0_0, .int .i64 x24_0_1, .int .i64 x24_0_2, .int .i64 x24_0_3]] w_5 fun e_2 w_6 => KeepG [g] w_5 w_6 ∧
      ∃ (x32_0 : Int) (a32_1 : Option Addr) (n32_1 : Nat) (c32_1 : Nat) (x32_2 : Int),
      e_2 = .returned (.tuple #[.int .i64 x32_0, .slice a32_1 n32_1 c32_1, .int .i64 x32_2]) ∧
      br (decide (x32_2 ≠ 0)) (
        K (.tuple #[.int .i64 0, .slice none 0 0, .int .i64 x32_2]) w_6
      ) (
        br (decide (x32_0 > x9)) (
          I x32_0 a32_1 n32_1 c32_1 (IntKind.i64.wrap (x16 + 1)) w_6 ∧ μ x32_0 a32_1 n32_1 c32_1 (IntKind.i64.wrap (x16 + 1)) w_6 < μ x9 a10 n10 c10 x16 w_2
        ) (
          I x9 a10 n10 c10 (IntKind.i64.wrap (x16 + 1)) w_6 ∧ μ x9 a10 n10 c10 (IntKind.i64.wrap (x16 + 1)) w_6 < μ x9 a10 n10 c10 x16 w_2
        )
      )
    )
  ) (
    br (decide (x9 = 0)) (
      K (.tuple #[.int .i64 0, .slice none 0 0, .int .i64 7]) w_2
    ) (
      K (.tuple #[.int .i64 x9, .slice a10 n10 c10, .int .i64 0]) w_2
    )
  )
def load_notes : Notes := ⟨[], [(3, ⟨[(9, .lf (.int .i64)), (10, .lf (.slice)), (16, .lf (.int .i64))], [], [17, 18, 11, 20, 21, 22, 23, 24, 19, 25, 26, 12, 13, 27, 28, 29, 6, 7, 8, 31, 32, 30, 33, 34, 35, 14, 15, 36, 37, 38, 39, 40, 41, 42, 43, 9, 10, 44, 16], [12]⟩)], []⟩
theorem load_calls (p0 : Option Addr) (x1 : Int) (x2 : Int) (w : World) (K : Value → World → Prop) (h : load_vc p0 x1 x2 w K) : Calls Try.prog 19 #[.pointer p0, .int .i64 x1, .int .i64 x2] w fun e w' => ∃ v, e = .returned v ∧ K v w' :=
  calls_of_fvc envOk Try.func19 load_notes [12] [.pointer p0, .int .i64 x1, .int .i64 x2] w K (use_vc h (by as_aux_lemma => kernel_rfl))
/-- purser/snap.Gens -/
def gens_vc (p0 : Option Addr) (x1 : Int) (x2 : Int) (w : World) (K : Value → World → Prop) : Prop :=
  newO w (.cells #[.int .i64 0, .int .i64 0] 37) fun g w_2 =>
  newO w_2 (.cells #[.bool false, .bool false] 38) fun g_2 w_3 =>
  newO w_3 (.cells #[.int .i64 0, .int .i64 0] 37) fun g_3 w_4 =>
  newO w_4 (.cells #[.bool false, .bool false] 38) fun g_4 w_5 =>
  ∃ (I : Int → Bool → Bool → Int → Int → World → Prop) (μ : Int → Bool → Bool → Int → Int → World → Nat),
  I 0 false false 0 0 w_5 ∧
  ∀ (x16 : Int) (b7_0 : Bool) (b7_1 : Bool) (x6_0 : Int) (x6_1 : Int) (w_6 : World), I x16 b7_0 b7_1 x6_0 x6_1 w_6 →
  br (decide (x16 < 2)) (
    Calls Try.prog 49 #[.pointer p0, .int .i64 x1, .int .i64 x2, .int .i64 x16] w_6 fun e w_7 => KeepG [g_2, g] w_6 w_7 ∧
    ∃ (p24_0_0 : Option Addr) (x24_0_1 : Int) (x24_0_2 : Int) (x24_0_3 : Int) (x24_1 : Int),
    e = .returned (.tuple #[.agg #[.pointer p24_0_0, .int .i64 x24_0_1, .int .i64 x24_0_2, .int .i64 x24_0_3], .int .i64 x24_1]) ∧
    newO w_7 (.cells #[.pointer none, .int .i64 0, .int .i64 0, .int .i64 0] 99) fun g_5 w_8 =>
    ∀ w_9 : World, BoxSt g_5 w_8 w_9 →
    br (decide (x24_1 ≠ 0)) (
      ∀ w_10 : World, BoxSt g w_9 w_10 →
      ∀ w_11 : World, BoxSt g_2 w_10 w_11 →
      K (.tuple #[.agg #[.int .i64 0, .int .i64 0], .agg #[.bool false, .bool false], .int .i64 x24_1]) w_11
    ) (
      Calls Try.prog 57 #[.agg #[.pointer p24_0_0, .int .i64 x24_0_1, .int .i64 x24_0_2, .int .i64 x24_0_3]] w_9 fun e_2 w_12 => KeepG [g_5, g_2, g] w_9 w_12 ∧
      ∃ (x34_0 : Int) (a34_1 : Option Addr) (n34_1 : Nat) (c34_1 : Nat) (x34_2 : Int),
      e_2 = .returned (.tuple #[.int .i64 x34_0, .slice a34_1 n34_1 c34_1, .int .i64 x34_2]) ∧
      br (decide (x34_2 ≠ 0)) (
        ∀ w_13 : World, BoxSt g w_12 w_13 →
        ∀ w_14 : World, BoxSt g_2 w_13 w_14 →
        K (.tuple #[.agg #[.int .i64 0, .int .i64 0], .agg #[.bool false, .bool false], .int .i64 x34_2]) w_14
      ) (
        (0 : Int) ≤ x16 ∧ x16 < ((2 : Nat) : Int) ∧
        stO [g_5, g_2, g] w_12 g_3 (0 + x16.toNat * 1) [.int .i64 x34_0] fun w_15 =>
        (0 : Int) ≤ x16 ∧ x16 < ((2 : Nat) : Int) ∧
        stO [g_5, g_2, g] w_15 g_4 (0 + x16.toNat * 1) [.bool (decide (x34_0 > 0))] fun w_16 =>
        I (IntKind.i64.wrap (x16 + 1)) b7_0 b7_1 x6_0 x6_1 w_16 ∧ μ (IntKind.i64.wrap (x16 + 1)) b7_0 b7_1 x6_0 x6_1 w_16 < μ x16 b7_0 b7_1 x6_0 x6_1 w_6
      )
    )
  ) (
    drewO w_6 fun w_17 =>
    ∃ (x51_0 : Int) (x51_1 : Int),
    cellsAt w_17 g_3 0 [.int .i64 x51_0, .int .i64 x51_1] ∧
    ∃ (b52_0 : Bool) (b52_1 : Bool),
    cellsAt w_17 g_4 0 [.bool b52_0, .bool b52_1] ∧
    ∀ w_18 : World, BoxSt g w_17 w_18 →
    cellsAt w_18 g_4 0 [.bool b52_0, .bool b52_1] ∧
    ∀ w_19 : World, BoxSt g_2 w_18 w_19 →
    K (.tuple #[.agg #[.int .i64 x51_0, .int .i64 x51_1], .agg #[.bool b52_0, .bool b52_1], .int .i64 0]) w_19
  )
def gens_notes : Notes := ⟨[(14, ⟨[0, 0, 1, 7, 15], [2, 3], [0, 1, 4]⟩)], [(4, ⟨[(16, .lf (.int .i64))], [(7, [.bool, .bool]), (6, [.int .i64, .int .i64])], [17, 18, 11, 20, 21, 22, 23, 24, 19, 25, 26, 12, 13, 27, 28, 29, 30, 31, 8, 33, 34, 32, 35, 36, 37, 14, 15, 38, 39, 40, 41, 42, 43, 44, 45, 46, 47, 48, 49, 50, 16], [12, 7, 6]⟩)], []⟩
theorem gens_calls (p0 : Option Addr) (x1 : Int) (x2 : Int) (w : World) (K : Value → World → Prop) (h : gens_vc p0 x1 x2 w K) : Calls Try.prog 20 #[.pointer p0, .int .i64 x1, .int .i64 x2] w fun e w' => ∃ v, e = .returned v ∧ K v w' :=
  calls_of_fvc envOk Try.func20 gens_notes [6, 7, 12] [.pointer p0, .int .i64 x1, .int .i64 x2] w K (use_vc h (by as_aux_lemma => kernel_rfl))
/-- purser/purserref06.number -/
def rnumber_vc (x0 : Int) (x1 : Int) (w : World) (K : Value → World → Prop) : Prop :=
  ∃ (I : ByteArray → Int → World → Prop) (μ : ByteArray → Int → World → Nat),
  I (⟨#[]⟩ : ByteArray) (IntKind.i64.wrap (x1 - 1)) w ∧
  ∀ (s5 : ByteArray) (x6 : Int) (w_2 : World), I s5 x6 w_2 →
  br (decide (x6 ≥ 0)) (
    (0 : Int) ≤ (IntKind.i64.wrap (8 * x6)) ∧
    Calls Try.prog 83 #[.int .i64 (IntKind.i64.wrap (bitsV .and .u64 (Int.fdiv (IntKind.u64.wrap x0) (2 ^ (min (IntKind.i64.wrap (8 * x6)).toNat (IntKind.bits .u64)))) 255))] w_2 fun e w_3 => KeepG [] w_2 w_3 ∧
    ∃ (s21 : ByteArray),
    e = .returned (.string s21) ∧
    s5.size + s21.size ≤ 9223372036854775807 ∧
    I (s5 ++ s21) (IntKind.i64.wrap (x6 - 1)) w_3 ∧ μ (s5 ++ s21) (IntKind.i64.wrap (x6 - 1)) w_3 < μ s5 x6 w_2
  ) (
    K (.string s5) w_2
  )
def rnumber_notes : Notes := ⟨[], [(3, ⟨[(5, .lf (.str)), (6, .lf (.int .i64))], [], [9, 10, 13, 14, 15, 16, 17, 18, 19, 20, 21, 22, 5, 11, 12, 6], []⟩)], []⟩
theorem rnumber_calls (x0 : Int) (x1 : Int) (w : World) (K : Value → World → Prop) (h : rnumber_vc x0 x1 w K) : Calls Try.prog 66 #[.int .i64 x0, .int .i64 x1] w fun e w' => ∃ v, e = .returned v ∧ K v w' :=
  calls_of_fvc envOk Try.func66 rnumber_notes [] [.int .i64 x0, .int .i64 x1] w K (use_vc h (by as_aux_lemma => kernel_rfl))
/-- purser/purserref06.Head -/
def rhead_vc (x0 : Int) (s1 : ByteArray) (w : World) (K : Value → World → Prop) : Prop :=
  Calls Try.prog 66 #[.int .i64 x0, .int .i64 8] w fun e w_2 => KeepG [] w w_2 ∧
  ∃ (s8 : ByteArray),
  e = .returned (.string s8) ∧
  Calls Try.prog 66 #[.int .i64 ((s1.size : Nat) : Int), .int .i64 8] w_2 fun e_2 w_3 => KeepG [] w_2 w_3 ∧
  ∃ (s11 : ByteArray),
  e_2 = .returned (.string s11) ∧
  s8.size + s11.size ≤ 9223372036854775807 ∧
  (⟨#[3]⟩ : ByteArray).size + (s8 ++ s11).size ≤ 9223372036854775807 ∧
  (s8 ++ s11).size + s1.size ≤ 9223372036854775807 ∧
  Calls Try.prog 67 #[.string ((s8 ++ s11) ++ s1)] w_3 fun e_3 w_4 => KeepG [] w_3 w_4 ∧
  ∃ (x18 : Int),
  e_3 = .returned (.int .u32 x18) ∧
  Calls Try.prog 66 #[.int .i64 (IntKind.i64.wrap x18), .int .i64 4] w_4 fun e_4 w_5 => KeepG [] w_4 w_5 ∧
  ∃ (s20 : ByteArray),
  e_4 = .returned (.string s20) ∧
  ((⟨#[3]⟩ : ByteArray) ++ (s8 ++ s11)).size + s20.size ≤ 9223372036854775807 ∧
  (0 : Int) ≤ IntKind.i64.wrap (64 - (((((⟨#[3]⟩ : ByteArray) ++ (s8 ++ s11)) ++ s20).size : Nat) : Int)) ∧ IntKind.i64.wrap (64 - (((((⟨#[3]⟩ : ByteArray) ++ (s8 ++ s11)) ++ s20).size : Nat) : Int)) ≤ IntKind.i64.wrap (64 - (((((⟨#[3]⟩ : ByteArray) ++ (s8 ++ s11)) ++ s20).size : Nat) : Int)) ∧ ((1 : Nat) : Int) * (IntKind.i64.wrap (64 - (((((⟨#[3]⟩ : ByteArray) ++ (s8 ++ s11)) ++ s20).size : Nat) : Int))) ≤ 281474976710656 ∧ IntKind.i64.wrap (64 - (((((⟨#[3]⟩ : ByteArray) ++ (s8 ++ s11)) ++ s20).size : Nat) : Int)) ≤ 9223372036854775807 ∧
  newO w_5 (.cells (madeCells (Value.cells (.int .u8 0)) ((IntKind.i64.wrap (64 - (((((⟨#[3]⟩ : ByteArray) ++ (s8 ++ s11)) ++ s20).size : Nat) : Int))).toNat * 1)) 5) fun g w_6 =>
  ∃ bs27 : List UInt8, bs27.length = (IntKind.i64.wrap (64 - (((((⟨#[3]⟩ : ByteArray) ++ (s8 ++ s11)) ++ s20).size : Nat) : Int))).toNat ∧ RowAt w_6 (some ⟨g, 0, none⟩) (bs27.map bV) ∧
  (((⟨#[3]⟩ : ByteArray) ++ (s8 ++ s11)) ++ s20).size + (strOf bs27).size ≤ 9223372036854775807 ∧
  K (.string ((((⟨#[3]⟩ : ByteArray) ++ (s8 ++ s11)) ++ s20) ++ (strOf bs27))) w_6
def rhead_notes : Notes := ⟨[], [], []⟩
theorem rhead_calls (x0 : Int) (s1 : ByteArray) (w : World) (K : Value → World → Prop) (h : rhead_vc x0 s1 w K) : Calls Try.prog 35 #[.int .i64 x0, .string s1] w fun e w' => ∃ v, e = .returned v ∧ K v w' :=
  calls_of_fvc envOk Try.func35 rhead_notes [] [.int .i64 x0, .string s1] w K (use_vc h (by as_aux_lemma => kernel_rfl))
/-- purser/purserref06.Body -/
def rbody_vc (s0 : ByteArray) (w : World) (K : Value → World → Prop) : Prop :=
  ∃ (I : ByteArray → World → Prop) (μ : ByteArray → World → Nat),
  I s0 w ∧
  ∀ (s0_2 : ByteArray) (w_2 : World), I s0_2 w_2 →
  (64 : Int) ≠ 0 ∧
  br (decide ((Int.tmod ((s0_2.size : Nat) : Int) 64) ≠ 0)) (
    s0_2.size + (⟨#[0]⟩ : ByteArray).size ≤ 9223372036854775807 ∧
    I (s0_2 ++ (⟨#[0]⟩ : ByteArray)) w_2 ∧ μ (s0_2 ++ (⟨#[0]⟩ : ByteArray)) w_2 < μ s0_2 w_2
  ) (
    K (.string s0_2) w_2
  )
def rbody_notes : Notes := ⟨[], [(1, ⟨[(0, .lf (.str))], [], [3, 4, 5, 6, 7, 8, 0], []⟩)], []⟩
theorem rbody_calls (s0 : ByteArray) (w : World) (K : Value → World → Prop) (h : rbody_vc s0 w K) : Calls Try.prog 34 #[.string s0] w fun e w' => ∃ v, e = .returned v ∧ K v w' :=
  calls_of_fvc envOk Try.func34 rbody_notes [] [.string s0] w K (use_vc h (by as_aux_lemma => kernel_rfl))
/-- purser/purserref06.Room -/
def rroom_vc (x0 : Int) (w : World) (K : Value → World → Prop) : Prop :=
  br (decide (x0 < 1)) (
    K (.int .i64 0) w
  ) (
    br (decide (x0 > 8192)) (
      K (.int .i64 0) w
    ) (
      K (.int .i64 (IntKind.i64.wrap (64 * (IntKind.i64.wrap (x0 - 1))))) w
    )
  )
def rroom_notes : Notes := ⟨[], [], []⟩
theorem rroom_calls (x0 : Int) (w : World) (K : Value → World → Prop) (h : rroom_vc x0 w K) : Calls Try.prog 33 #[.int .i64 x0] w fun e w' => ∃ v, e = .returned v ∧ K v w' :=
  calls_of_fvc envOk Try.func33 rroom_notes [] [.int .i64 x0] w K (use_vc h (by as_aux_lemma => kernel_rfl))
/-- purser/purserref06.Has -/
def rhas_vc (s0 : ByteArray) (x1 : Int) (w : World) (K : Value → World → Prop) : Prop :=
  ∃ (I : Int → Int → World → Prop) (μ : Int → Int → World → Nat),
  I 0 1 w ∧
  ∀ (x7 : Int) (x9 : Int) (w_2 : World), I x7 x9 w_2 →
  br (decide (x9 < 9)) (
    (0 : Int) ≤ 8 ∧
    (0 : Int) ≤ x9 ∧ x9 < (((s0.size : Nat) : Int) : Int) ∧
    I (bitsV .or .i64 (IntKind.i64.wrap (x7 * 2 ^ (min (8 : Int).toNat (IntKind.bits .i64)))) (IntKind.i64.wrap (byteAt s0 x9))) (IntKind.i64.wrap (x9 + 1)) w_2 ∧ μ (bitsV .or .i64 (IntKind.i64.wrap (x7 * 2 ^ (min (8 : Int).toNat (IntKind.bits .i64)))) (IntKind.i64.wrap (byteAt s0 x9))) (IntKind.i64.wrap (x9 + 1)) w_2 < μ x7 x9 w_2
  ) (
    ∃ (I_2 : Int → Int → World → Prop) (μ_2 : Int → Int → World → Nat),
    I_2 0 9 w_2 ∧
    ∀ (x8 : Int) (x10 : Int) (w_3 : World), I_2 x8 x10 w_3 →
    br (decide (x10 < 17)) (
      (0 : Int) ≤ 8 ∧
      (0 : Int) ≤ x10 ∧ x10 < (((s0.size : Nat) : Int) : Int) ∧
      I_2 (bitsV .or .i64 (IntKind.i64.wrap (x8 * 2 ^ (min (8 : Int).toNat (IntKind.bits .i64)))) (IntKind.i64.wrap (byteAt s0 x10))) (IntKind.i64.wrap (x10 + 1)) w_3 ∧ μ_2 (bitsV .or .i64 (IntKind.i64.wrap (x8 * 2 ^ (min (8 : Int).toNat (IntKind.bits .i64)))) (IntKind.i64.wrap (byteAt s0 x10))) (IntKind.i64.wrap (x10 + 1)) w_3 < μ_2 x8 x10 w_3
    ) (
      br (decide (x7 < 1)) (
        K (.tuple #[.int .i64 0, .string (⟨#[]⟩ : ByteArray), .bool false]) w_3
      ) (
        (2 : Int) ≠ 0 ∧
        br (decide ((Int.tmod x7 2) ≠ x1)) (
          K (.tuple #[.int .i64 0, .string (⟨#[]⟩ : ByteArray), .bool false]) w_3
        ) (
          br (decide (x8 < 0)) (
            K (.tuple #[.int .i64 0, .string (⟨#[]⟩ : ByteArray), .bool false]) w_3
          ) (
            br (decide (x8 > (IntKind.i64.wrap (((s0.size : Nat) : Int) - 64)))) (
              K (.tuple #[.int .i64 0, .string (⟨#[]⟩ : ByteArray), .bool false]) w_3
            ) (
              (0 : Int) ≤ (64 : Int) ∧ (64 : Int) ≤ IntKind.i64.wrap (64 + x8) ∧ IntKind.i64.wrap (64 + x8) ≤ (((s0.size : Nat) : Int) : Int) ∧
              drewO w_3 fun w_4 =>
              (0 : Int) ≤ (64 : Int) ∧ (64 : Int) ≤ (((s0.size : Nat) : Int) : Int) ∧
              Calls Try.prog 35 #[.int .i64 x7, .string (s0.extract ((64 : Int).toNat) ((IntKind.i64.wrap (64 + x8)).toNat))] w_4 fun e w_5 => KeepG [] w_4 w_5 ∧
              ∃ (s63 : ByteArray),
              e = .returned (.string s63) ∧
              K (.tuple #[.int .i64 x7, .string (s0.extract ((64 : Int).toNat) ((IntKind.i64.wrap (64 + x8)).toNat)), .bool (decide ((s0.extract 0 ((64 : Int).toNat)) = s63))]) w_5
            )
          )
        )
      )
    )
  )
def rhas_notes : Notes := ⟨[(13, ⟨[0, 0, 0, 4, 0, 0, 48, 124, 113, 371, 1023], [6], [0, 1, 2, 3, 4, 5, 7, 8, 9, 10]⟩)], [(3, ⟨[(7, .lf (.int .i64)), (9, .lf (.int .i64))], [], [12, 13, 16, 17, 18, 19, 20, 21, 22, 7, 14, 15, 9], []⟩), (7, ⟨[(8, .lf (.int .i64)), (10, .lf (.int .i64))], [], [23, 24, 27, 28, 29, 30, 31, 32, 33, 8, 25, 26, 10], []⟩)], []⟩
theorem rhas_calls (s0 : ByteArray) (x1 : Int) (w : World) (K : Value → World → Prop) (h : rhas_vc s0 x1 w K) : Calls Try.prog 21 #[.string s0, .int .i64 x1] w fun e w' => ∃ v, e = .returned v ∧ K v w' :=
  calls_of_fvc envOk Try.func21 rhas_notes [] [.string s0, .int .i64 x1] w K (use_vc h (by as_aux_lemma => kernel_rfl))
/-- purser/purserlaw06.snaps -/
def snaps_vc  (w : World) (K : Value → World → Prop) : Prop :=
  Calls Try.prog 13 #[.int .i64 8] w fun e w_2 => KeepG [] w w_2 ∧
  ∃ (p8_0 : Option Addr) (x8_1 : Int),
  e = .returned (.tuple #[.pointer p8_0, .int .i64 x8_1]) ∧
  newO w_2 (.cells #[.int .u8 97, .int .u8 98, .int .u8 99] 5) fun g w_3 =>
  frzO [] w_3 g fun w_4 =>
  Calls Try.prog 15 #[.pointer p8_0, .int .i64 1, .int .i64 3, .int .i64 1, .slice (some ⟨g, 0, none⟩) 3 3] w_4 fun e_2 w_5 => KeepG [] w_4 w_5 ∧
  ∃ (x14 : Int),
  e_2 = .returned (.int .i64 x14) ∧
  Calls Try.prog 19 #[.pointer p8_0, .int .i64 1, .int .i64 3] w_5 fun e_3 w_6 => KeepG [] w_5 w_6 ∧
  ∃ (x17_0 : Int) (a17_1 : Option Addr) (n17_1 : Nat) (c17_1 : Nat) (x17_2 : Int),
  e_3 = .returned (.tuple #[.int .i64 x17_0, .slice a17_1 n17_1 c17_1, .int .i64 x17_2]) ∧
  br (decide (x8_1 = 0)) (
    br (decide (x14 = 0)) (
      br (decide (x17_2 = 0)) (
        br (decide (x17_0 = 1)) (
          ∃ bs37 : List UInt8, bs37.length = n17_1 ∧ RowAt w_6 a17_1 (bs37.map bV) ∧
          br (decide ((strOf bs37) = (⟨#[97, 98, 99]⟩ : ByteArray))) (
            Calls Try.prog 32 #[.int .i64 3] w_6 fun e_4 w_7 => KeepG [] w_6 w_7 ∧
            ∃ (x41 : Int),
            e_4 = .returned (.int .i64 x41) ∧
            K (.bool (decide (x41 = 128))) w_7
          ) (
            K (.bool false) w_6
          )
        ) (
          K (.bool false) w_6
        )
      ) (
        K (.bool false) w_6
      )
    ) (
      K (.bool false) w_6
    )
  ) (
    K (.bool false) w_6
  )
def snaps_notes : Notes := ⟨[], [], []⟩
theorem snaps_calls  (w : World) (K : Value → World → Prop) (h : snaps_vc  w K) : Calls Try.prog 14 #[] w fun e w' => ∃ v, e = .returned v ∧ K v w' :=
  calls_of_fvc envOk Try.func14 snaps_notes [] [] w K (use_vc h (by as_aux_lemma => kernel_rfl))
/-- purser/purserlaw06.tame -/
def tame_vc (a0 : Option Addr) (n0 : Nat) (c0 : Nat) (w : World) (K : Value → World → Prop) : Prop :=
  newO w (.cells #[] 5) fun g w_2 =>
  (0 : Int) ≤ min ((n0 : Nat) : Int) 500 ∧ min ((n0 : Nat) : Int) 500 ≤ (((c0 : Nat) : Int) : Int) ∧
  appO Try.prog [] w_2 5 1 1 22 (some ⟨g, 0, none⟩) 0 0 (.slice a0 ((min ((n0 : Nat) : Int) 500).toNat) c0) fun m9 a9 c9 w_3 =>
  K (.slice a9 (0 + m9) c9) w_3
def tame_notes : Notes := ⟨[], [], []⟩
theorem tame_calls (a0 : Option Addr) (n0 : Nat) (c0 : Nat) (w : World) (K : Value → World → Prop) (h : tame_vc a0 n0 c0 w K) : Calls Try.prog 16 #[.slice a0 n0 c0] w fun e w' => ∃ v, e = .returned v ∧ K v w' :=
  calls_of_fvc envOk Try.func16 tame_notes [] [.slice a0 n0 c0] w K (use_vc h (by as_aux_lemma => kernel_rfl))
/-- purser/purserlaw06.SnapLoads -/
def lloads_k1 (K : Value → World → Prop) (x93_0 : Int) (n93_1 : Nat) (x93_2 : Int) (w_26 : World) : Prop :=
  br (decide (x93_2 = 7)) (
    br (decide (x93_0 = 0)) (
      K (.bool (decide (((n93_1 : Nat) : Int) = 0))) w_26
    ) (
      K (.bool false) w_26
    )
  ) (
    K (.bool false) w_26
  )
def lloads_k2 (K : Value → World → Prop) (x93_0 : Int) (a93_1 : Option Addr) (n93_1 : Nat) (x93_2 : Int) (x106_0 : Int) (s106_1 : ByteArray) (b106_2 : Bool) (x113_0 : Int) (s113_1 : ByteArray) (b113_2 : Bool) (w_25 : World) : Prop :=
  br b106_2 (
    br (!b113_2) (
      br (decide (x93_2 = 0)) (
        br (decide (x93_0 = x106_0)) (
          ∃ bs190 : List UInt8, bs190.length = n93_1 ∧ RowAt w_25 a93_1 (bs190.map bV) ∧
          K (.bool (decide ((strOf bs190) = s106_1))) w_25
        ) (
          K (.bool false) w_25
        )
      ) (
        K (.bool false) w_25
      )
    ) (
      br (decide (x106_0 > x113_0)) (
        br (decide (x93_2 = 0)) (
          br (decide (x93_0 = x106_0)) (
            ∃ bs190_2 : List UInt8, bs190_2.length = n93_1 ∧ RowAt w_25 a93_1 (bs190_2.map bV) ∧
            K (.bool (decide ((strOf bs190_2) = s106_1))) w_25
          ) (
            K (.bool false) w_25
          )
        ) (
          K (.bool false) w_25
        )
      ) (
        br b113_2 (
          br (decide (x93_2 = 0)) (
            br (decide (x93_0 = x113_0)) (
              ∃ bs205 : List UInt8, bs205.length = n93_1 ∧ RowAt w_25 a93_1 (bs205.map bV) ∧
              K (.bool (decide ((strOf bs205) = s113_1))) w_25
            ) (
              K (.bool false) w_25
            )
          ) (
            K (.bool false) w_25
          )
        ) (
          lloads_k1 K x93_0 n93_1 x93_2 w_25
        )
      )
    )
  ) (
    br b113_2 (
      br (decide (x93_2 = 0)) (
        br (decide (x93_0 = x113_0)) (
          ∃ bs205_2 : List UInt8, bs205_2.length = n93_1 ∧ RowAt w_25 a93_1 (bs205_2.map bV) ∧
          K (.bool (decide ((strOf bs205_2) = s113_1))) w_25
        ) (
          K (.bool false) w_25
        )
      ) (
        K (.bool false) w_25
      )
    ) (
      lloads_k1 K x93_0 n93_1 x93_2 w_25
    )
  )
def lloads_k3 (K : Value → World → Prop) (g : Nat) (p27_0 : Option Addr) (w_14 : World) : Prop :=
  Calls Try.prog 18 #[.pointer p27_0, .int .i64 0, .int .i64 6] w_14 fun e_8 w_15 => KeepG [g] w_14 w_15 ∧
  ∃ (a83_0 : Option Addr) (n83_0 : Nat) (c83_0 : Nat) (x83_1 : Int),
  e_8 = .returned (.tuple #[.slice a83_0 n83_0 c83_0, .int .i64 x83_1]) ∧
  Calls Try.prog 18 #[.pointer p27_0, .int .i64 6, .int .i64 6] w_15 fun e_9 w_16 => KeepG [g] w_15 w_16 ∧
  ∃ (a88_0 : Option Addr) (n88_0 : Nat) (c88_0 : Nat) (x88_1 : Int),
  e_9 = .returned (.tuple #[.slice a88_0 n88_0 c88_0, .int .i64 x88_1]) ∧
  Calls Try.prog 19 #[.pointer p27_0, .int .i64 0, .int .i64 6] w_16 fun e_10 w_17 => KeepG [g] w_16 w_17 ∧
  ∃ (x93_0 : Int) (a93_1 : Option Addr) (n93_1 : Nat) (c93_1 : Nat) (x93_2 : Int),
  e_10 = .returned (.tuple #[.int .i64 x93_0, .slice a93_1 n93_1 c93_1, .int .i64 x93_2]) ∧
  Calls Try.prog 20 #[.pointer p27_0, .int .i64 0, .int .i64 6] w_17 fun e_11 w_18 => KeepG [g] w_17 w_18 ∧
  ∃ (x99_0_0 : Int) (x99_0_1 : Int) (b99_1_0 : Bool) (b99_1_1 : Bool) (x99_2 : Int),
  e_11 = .returned (.tuple #[.agg #[.int .i64 x99_0_0, .int .i64 x99_0_1], .agg #[.bool b99_1_0, .bool b99_1_1], .int .i64 x99_2]) ∧
  newO w_18 (.cells #[.int .i64 0, .int .i64 0] 37) fun g_3 w_19 =>
  newO w_19 (.cells #[.bool false, .bool false] 38) fun g_4 w_20 =>
  ∀ w_21 : World, BoxSt g_3 w_20 w_21 →
  ∀ w_22 : World, BoxSt g_4 w_21 w_22 →
  ∃ bs105 : List UInt8, bs105.length = n83_0 ∧ RowAt w_22 a83_0 (bs105.map bV) ∧
  Calls Try.prog 21 #[.string (strOf bs105), .int .i64 0] w_22 fun e_12 w_23 => KeepG [g_4, g_3, g] w_22 w_23 ∧
  ∃ (x106_0 : Int) (s106_1 : ByteArray) (b106_2 : Bool),
  e_12 = .returned (.tuple #[.int .i64 x106_0, .string s106_1, .bool b106_2]) ∧
  ∃ bs112 : List UInt8, bs112.length = n88_0 ∧ RowAt w_23 a88_0 (bs112.map bV) ∧
  Calls Try.prog 21 #[.string (strOf bs112), .int .i64 1] w_23 fun e_13 w_24 => KeepG [g_4, g_3, g] w_23 w_24 ∧
  ∃ (x113_0 : Int) (s113_1 : ByteArray) (b113_2 : Bool),
  e_13 = .returned (.tuple #[.int .i64 x113_0, .string s113_1, .bool b113_2]) ∧
  br (decide (x83_1 ≠ 0)) (
    K (.bool false) w_24
  ) (
    br (decide (x88_1 ≠ 0)) (
      K (.bool false) w_24
    ) (
      br (decide (x99_2 ≠ 0)) (
        K (.bool false) w_24
      ) (
        br (!((decide (b99_1_0 = b106_2)) && ((decide (b99_1_1 = b113_2)) && true))) (
          K (.bool false) w_24
        ) (
          br b106_2 (
            br (decide (x99_0_0 ≠ x106_0)) (
              K (.bool false) w_24
            ) (
              br b113_2 (
                br (decide (x99_0_1 ≠ x113_0)) (
                  K (.bool false) w_24
                ) (
                  br (!b106_2) (
                    br (decide (x99_0_0 ≠ 0)) (
                      K (.bool false) w_24
                    ) (
                      br (!b113_2) (
                        br (decide (x99_0_1 ≠ 0)) (
                          K (.bool false) w_24
                        ) (
                          lloads_k2 K x93_0 a93_1 n93_1 x93_2 x106_0 s106_1 b106_2 x113_0 s113_1 b113_2 w_24
                        )
                      ) (
                        lloads_k2 K x93_0 a93_1 n93_1 x93_2 x106_0 s106_1 b106_2 x113_0 s113_1 b113_2 w_24
                      )
                    )
                  ) (
                    br (!b113_2) (
                      br (decide (x99_0_1 ≠ 0)) (
                        K (.bool false) w_24
                      ) (
                        lloads_k2 K x93_0 a93_1 n93_1 x93_2 x106_0 s106_1 b106_2 x113_0 s113_1 b113_2 w_24
                      )
                    ) (
                      lloads_k2 K x93_0 a93_1 n93_1 x93_2 x106_0 s106_1 b106_2 x113_0 s113_1 b113_2 w_24
                    )
                  )
                )
              ) (
                br (!b106_2) (
                  br (decide (x99_0_0 ≠ 0)) (
                    K (.bool false) w_24
                  ) (
                    br (!b113_2) (
                      br (decide (x99_0_1 ≠ 0)) (
                        K (.bool false) w_24
                      ) (
                        lloads_k2 K x93_0 a93_1 n93_1 x93_2 x106_0 s106_1 b106_2 x113_0 s113_1 b113_2 w_24
                      )
                    ) (
                      lloads_k2 K x93_0 a93_1 n93_1 x93_2 x106_0 s106_1 b106_2 x113_0 s113_1 b113_2 w_24
                    )
                  )
                ) (
                  br (!b113_2) (
                    br (decide (x99_0_1 ≠ 0)) (
                      K (.bool false) w_24
                    ) (
                      lloads_k2 K x93_0 a93_1 n93_1 x93_2 x106_0 s106_1 b106_2 x113_0 s113_1 b113_2 w_24
                    )
                  ) (
                    lloads_k2 K x93_0 a93_1 n93_1 x93_2 x106_0 s106_1 b106_2 x113_0 s113_1 b113_2 w_24
                  )
                )
              )
            )
          ) (
            br b113_2 (
              br (decide (x99_0_1 ≠ x113_0)) (
                K (.bool false) w_24
              ) (
                br (!b106_2) (
                  br (decide (x99_0_0 ≠ 0)) (
                    K (.bool false) w_24
                  ) (
                    br (!b113_2) (
                      br (decide (x99_0_1 ≠ 0)) (
                        K (.bool false) w_24
                      ) (
                        lloads_k2 K x93_0 a93_1 n93_1 x93_2 x106_0 s106_1 b106_2 x113_0 s113_1 b113_2 w_24
                      )
                    ) (
                      lloads_k2 K x93_0 a93_1 n93_1 x93_2 x106_0 s106_1 b106_2 x113_0 s113_1 b113_2 w_24
                    )
                  )
                ) (
                  br (!b113_2) (
                    br (decide (x99_0_1 ≠ 0)) (
                      K (.bool false) w_24
                    ) (
                      lloads_k2 K x93_0 a93_1 n93_1 x93_2 x106_0 s106_1 b106_2 x113_0 s113_1 b113_2 w_24
                    )
                  ) (
                    lloads_k2 K x93_0 a93_1 n93_1 x93_2 x106_0 s106_1 b106_2 x113_0 s113_1 b113_2 w_24
                  )
                )
              )
            ) (
              br (!b106_2) (
                br (decide (x99_0_0 ≠ 0)) (
                  K (.bool false) w_24
                ) (
                  br (!b113_2) (
                    br (decide (x99_0_1 ≠ 0)) (
                      K (.bool false) w_24
                    ) (
                      lloads_k2 K x93_0 a93_1 n93_1 x93_2 x106_0 s106_1 b106_2 x113_0 s113_1 b113_2 w_24
                    )
                  ) (
                    lloads_k2 K x93_0 a93_1 n93_1 x93_2 x106_0 s106_1 b106_2 x113_0 s113_1 b113_2 w_24
                  )
                )
              ) (
                br (!b113_2) (
                  br (decide (x99_0_1 ≠ 0)) (
                    K (.bool false) w_24
                  ) (
                    lloads_k2 K x93_0 a93_1 n93_1 x93_2 x106_0 s106_1 b106_2 x113_0 s113_1 b113_2 w_24
                  )
                ) (
                  lloads_k2 K x93_0 a93_1 n93_1 x93_2 x106_0 s106_1 b106_2 x113_0 s113_1 b113_2 w_24
                )
              )
            )
          )
        )
      )
    )
  )
def lloads_vc (a0 : Option Addr) (n0 : Nat) (c0 : Nat) (a1_0 : Option Addr) (n1_0 : Nat) (c1_0 : Nat) (a1_1 : Option Addr) (n1_1 : Nat) (c1_1 : Nat) (x2 : Int) (w : World) (K : Value → World → Prop) : Prop :=
  newO w (.cells #[.slice a1_0 n1_0 c1_0, .slice a1_1 n1_1 c1_1] 23) fun g w_2 =>
  Calls Try.prog 13 #[.int .i64 12] w_2 fun e w_3 => KeepG [g] w_2 w_3 ∧
  ∃ (p27_0 : Option Addr) (x27_1 : Int),
  e = .returned (.tuple #[.pointer p27_0, .int .i64 x27_1]) ∧
  Calls Try.prog 14 #[] w_3 fun e_2 w_4 => KeepG [g] w_3 w_4 ∧
  ∃ (b30 : Bool),
  e_2 = .returned (.bool b30) ∧
  br (!b30) (
    K (.bool false) w_4
  ) (
    br (decide (x27_1 ≠ 0)) (
      K (.bool false) w_4
    ) (
      drewO w_4 fun w_5 =>
      (3 : Int) ≠ 0 ∧
      Calls Try.prog 16 #[.slice a1_0 n1_0 c1_0] w_5 fun e_3 w_6 => KeepG [g] w_5 w_6 ∧
      ∃ (a44 : Option Addr) (n44 : Nat) (c44 : Nat),
      e_3 = .returned (.slice a44 n44 c44) ∧
      (0 : Int) ≤ min ((n1_0 : Nat) : Int) 300 ∧ min ((n1_0 : Nat) : Int) 300 ≤ (((c44 : Nat) : Int) : Int) ∧
      Calls Try.prog 15 #[.pointer p27_0, .int .i64 0, .int .i64 6, .int .i64 (IntKind.i64.wrap (1 + (IntKind.i64.wrap (Int.tmod (IntKind.u64.wrap x2) 3)))), .slice a44 ((min ((n1_0 : Nat) : Int) 300).toNat) c44] w_6 fun e_4 w_7 => KeepG [g] w_6 w_7 ∧
      ∃ (x50 : Int),
      e_4 = .returned (.int .i64 x50) ∧
      drewO w_7 fun w_8 =>
      (2 : Int) ≠ 0 ∧
      Calls Try.prog 16 #[.slice a1_1 n1_1 c1_1] w_8 fun e_5 w_9 => KeepG [g] w_8 w_9 ∧
      ∃ (a59 : Option Addr) (n59 : Nat) (c59 : Nat),
      e_5 = .returned (.slice a59 n59 c59) ∧
      (0 : Int) ≤ min ((n1_1 : Nat) : Int) 300 ∧ min ((n1_1 : Nat) : Int) 300 ≤ (((c59 : Nat) : Int) : Int) ∧
      Calls Try.prog 15 #[.pointer p27_0, .int .i64 0, .int .i64 6, .int .i64 (IntKind.i64.wrap (2 + (IntKind.i64.wrap (Int.tmod (IntKind.u64.wrap x2) 2)))), .slice a59 ((min ((n1_1 : Nat) : Int) 300).toNat) c59] w_9 fun e_6 w_10 => KeepG [g] w_9 w_10 ∧
      ∃ (x65 : Int),
      e_6 = .returned (.int .i64 x65) ∧
      (0 : Int) ≤ (64 : Int) ∧ (64 : Int) ≤ (64 : Int) ∧ ((1 : Nat) : Int) * (64 : Int) ≤ 281474976710656 ∧ (64 : Int) ≤ 9223372036854775807 ∧
      newO w_10 (.cells (madeCells (Value.cells (.int .u8 0)) ((64 : Int).toNat * 1)) 5) fun g_2 w_11 =>
      cpyO [g] w_11 1 (some ⟨g_2, 0, none⟩) ((64 : Int).toNat) a0 n0 fun w_12 =>
      (3 : Int) ≠ 0 ∧
      br (decide ((Int.tmod x2 3) = 0)) (
        (4 : Int) ≠ 0 ∧
        (12 : Int) ≠ 0 ∧
        Calls Try.prog 17 #[.pointer p27_0, .int .i64 (IntKind.i64.wrap (Int.tmod (IntKind.u64.wrap (Int.tdiv (IntKind.u64.wrap x2) 4)) 12)), .slice (some ⟨g_2, 0, none⟩) ((64 : Int).toNat) ((64 : Int).toNat)] w_12 fun e_7 w_13 => KeepG [g] w_12 w_13 ∧
        ∃ (x80 : Int),
        e_7 = .returned (.int .i64 x80) ∧
        lloads_k3 K g p27_0 w_13
      ) (
        lloads_k3 K g p27_0 w_12
      )
    )
  )
def lloads_notes : Notes := ⟨[(4, ⟨[0, 0, 2, 6, 14, 30, 0, 64, 192, 0, 512, 1536, 3584, 8128, 16383], [8, 14], [0, 1, 2, 3, 4, 5, 6, 7, 9, 10, 11, 12, 13]⟩), (5, ⟨[0, 0, 2, 6, 14, 30, 0, 64, 192, 0, 512, 1536, 3584, 8128, 16383], [8, 14], [0, 1, 2, 3, 4, 5, 6, 7, 9, 10, 11, 12, 13]⟩)], [], []⟩
theorem lloads_calls (a0 : Option Addr) (n0 : Nat) (c0 : Nat) (a1_0 : Option Addr) (n1_0 : Nat) (c1_0 : Nat) (a1_1 : Option Addr) (n1_1 : Nat) (c1_1 : Nat) (x2 : Int) (w : World) (K : Value → World → Prop) (h : lloads_vc a0 n0 c0 a1_0 n1_0 c1_0 a1_1 n1_1 c1_1 x2 w K) : Calls Try.prog 3 #[.slice a0 n0 c0, .agg #[.slice a1_0 n1_0 c1_0, .slice a1_1 n1_1 c1_1], .int .i64 x2] w fun e w' => ∃ v, e = .returned v ∧ K v w' :=
  calls_of_fvc envOk Try.func3 lloads_notes [4, 17, 18] [.slice a0 n0 c0, .agg #[.slice a1_0 n1_0 c1_0, .slice a1_1 n1_1 c1_1], .int .i64 x2] w K (use_vc h (by as_aux_lemma => kernel_rfl))
/-- purser/purserlaw06.SnapTurns -/
def lturns_k1 (K : Value → World → Prop) (p16_0 : Option Addr) (g : Nat) (x6_2 : Int) (w_9 : World) : Prop :=
  Calls Try.prog 20 #[.pointer p16_0, .int .i64 2, .int .i64 9] w_9 fun e_5 w_10 => KeepG [] w_9 w_10 ∧
  ∃ (x54_0_0 : Int) (x54_0_1 : Int) (b54_1_0 : Bool) (b54_1_1 : Bool) (x54_2 : Int),
  e_5 = .returned (.tuple #[.agg #[.int .i64 x54_0_0, .int .i64 x54_0_1], .agg #[.bool b54_1_0, .bool b54_1_1], .int .i64 x54_2]) ∧
  newO w_10 (.cells #[.int .i64 0, .int .i64 0] 37) fun g_2 w_11 =>
  newO w_11 (.cells #[.bool false, .bool false] 38) fun g_3 w_12 =>
  stO [g_3] w_12 g_2 0 [.int .i64 x54_0_0, .int .i64 x54_0_1] fun w_13 =>
  ∀ w_14 : World, BoxSt g_3 w_13 w_14 →
  br (decide (x54_2 ≠ 0)) (
    K (.bool false) w_14
  ) (
    br (decide (b54_1_1 ≠ (decide (x6_2 ≥ 1)))) (
      K (.bool false) w_14
    ) (
      br (decide (b54_1_0 ≠ (decide (x6_2 ≥ 2)))) (
        K (.bool false) w_14
      ) (
        br (decide (x6_2 = 0)) (
          ∃ (x76_0 : Int) (x76_1 : Int),
          cellsAt w_14 g_2 0 [.int .i64 x76_0, .int .i64 x76_1] ∧
          K (.bool ((decide (x76_0 = 0)) && ((decide (x76_1 = 0)) && true))) w_14
        ) (
          Calls Try.prog 19 #[.pointer p16_0, .int .i64 2, .int .i64 9] w_14 fun e_6 w_15 => KeepG [g_3] w_14 w_15 ∧
          ∃ (x81_0 : Int) (a81_1 : Option Addr) (n81_1 : Nat) (c81_1 : Nat) (x81_2 : Int),
          e_6 = .returned (.tuple #[.int .i64 x81_0, .slice a81_1 n81_1 c81_1, .int .i64 x81_2]) ∧
          drewO w_15 fun w_16 =>
          br (decide (x81_2 = 0)) (
            br (decide (x81_0 = x6_2)) (
              ∃ bs94 : List UInt8, bs94.length = n81_1 ∧ RowAt w_16 a81_1 (bs94.map bV) ∧
              (2 : Int) ≠ 0 ∧
              (0 : Int) ≤ Int.tmod x6_2 2 ∧ Int.tmod x6_2 2 < ((2 : Nat) : Int) ∧
              ∃ (s98 : ByteArray), w_16.cell? ⟨g, 0 + (Int.tmod x6_2 2).toNat * 1, none⟩ = some (.string s98) ∧
              br (decide ((strOf bs94) = s98)) (
                (2 : Int) ≠ 0 ∧
                (0 : Int) ≤ Int.tmod x6_2 2 ∧ Int.tmod x6_2 2 < ((2 : Nat) : Int) ∧
                ∃ (x105 : Int), w_16.cell? ⟨g_2, 0 + (Int.tmod x6_2 2).toNat * 1, none⟩ = some (.int .i64 x105) ∧
                br (decide (x105 = x6_2)) (
                  br (decide (x6_2 < 2)) (
                    K (.bool true) w_16
                  ) (
                    (2 : Int) ≠ 0 ∧
                    (0 : Int) ≤ Int.tmod (IntKind.i64.wrap (x6_2 + 1)) 2 ∧ Int.tmod (IntKind.i64.wrap (x6_2 + 1)) 2 < ((2 : Nat) : Int) ∧
                    ∃ (x117 : Int), w_16.cell? ⟨g_2, 0 + (Int.tmod (IntKind.i64.wrap (x6_2 + 1)) 2).toNat * 1, none⟩ = some (.int .i64 x117) ∧
                    K (.bool (decide (x117 = (IntKind.i64.wrap (x6_2 - 1))))) w_16
                  )
                ) (
                  K (.bool false) w_16
                )
              ) (
                K (.bool false) w_16
              )
            ) (
              K (.bool false) w_16
            )
          ) (
            K (.bool false) w_16
          )
        )
      )
    )
  )
def lturns_vc (a0 : Option Addr) (n0 : Nat) (c0 : Nat) (w : World) (K : Value → World → Prop) : Prop :=
  Calls Try.prog 13 #[.int .i64 20] w fun e w_2 => KeepG [] w w_2 ∧
  ∃ (p16_0 : Option Addr) (x16_1 : Int),
  e = .returned (.tuple #[.pointer p16_0, .int .i64 x16_1]) ∧
  Calls Try.prog 14 #[] w_2 fun e_2 w_3 => KeepG [] w_2 w_3 ∧
  ∃ (b19 : Bool),
  e_2 = .returned (.bool b19) ∧
  br (!b19) (
    K (.bool false) w_3
  ) (
    br (decide (x16_1 ≠ 0)) (
      K (.bool false) w_3
    ) (
      newO w_3 (.cells #[.string ByteArray.empty, .string ByteArray.empty] 45) fun g w_4 =>
      ∃ (I : Int → Int → World → Prop) (μ : Int → Int → World → Nat),
      I 0 0 w_4 ∧
      ∀ (x6 : Int) (x7 : Int) (w_5 : World), I x6 x7 w_5 →
      br (decide (x7 < ((n0 : Nat) : Int))) (
        br (decide (x7 < 8)) (
          withP a0 fun g37 o37 =>
          (0 : Int) ≤ x7 ∧ x7 < (((n0 : Nat) : Int) : Int) ∧
          ∃ (a38 : Option Addr) (n38 : Nat) (c38 : Nat), w_5.cell? ⟨g37, o37 + x7.toNat * 1, none⟩ = some (.slice a38 n38 c38) ∧
          Calls Try.prog 16 #[.slice a38 n38 c38] w_5 fun e_3 w_6 => KeepG [] w_5 w_6 ∧
          ∃ (a39 : Option Addr) (n39 : Nat) (c39 : Nat),
          e_3 = .returned (.slice a39 n39 c39) ∧
          Calls Try.prog 15 #[.pointer p16_0, .int .i64 2, .int .i64 9, .int .i64 (IntKind.i64.wrap (x6 + 1)), .slice a39 n39 c39] w_6 fun e_4 w_7 => KeepG [] w_6 w_7 ∧
          ∃ (x45 : Int),
          e_4 = .returned (.int .i64 x45) ∧
          br (decide (x45 ≠ 0)) (
            K (.bool false) w_7
          ) (
            (2 : Int) ≠ 0 ∧
            ∃ bs50 : List UInt8, bs50.length = n39 ∧ RowAt w_7 a39 (bs50.map bV) ∧
            (0 : Int) ≤ Int.tmod (IntKind.i64.wrap (x6 + 1)) 2 ∧ Int.tmod (IntKind.i64.wrap (x6 + 1)) 2 < ((2 : Nat) : Int) ∧
            stO [] w_7 g (0 + (Int.tmod (IntKind.i64.wrap (x6 + 1)) 2).toNat * 1) [.string (strOf bs50)] fun w_8 =>
            I (IntKind.i64.wrap (x6 + 1)) (IntKind.i64.wrap (x7 + 1)) w_8 ∧ μ (IntKind.i64.wrap (x6 + 1)) (IntKind.i64.wrap (x7 + 1)) w_8 < μ x6 x7 w_5
          )
        ) (
          lturns_k1 K p16_0 g x6 w_5
        )
      ) (
        lturns_k1 K p16_0 g x6 w_5
      )
    )
  )
def lturns_notes : Notes := ⟨[(20, ⟨[0, 1, 3, 7, 7, 31, 63, 127, 255, 511, 255, 1279, 3327, 7423, 16383, 32767, 65535, 131071, 262143, 524287, 1048575, 131071, 4194303, 8388607, 16777215, 33554431, 67108863, 134217727, 268435455, 536870911, 1073741823, 2147483647, 4294967295, 268435455, 8858370047, 34359738367, 68719476735, 137438953471, 274877906943], [], [0, 1, 2, 3, 4, 5, 6, 7, 8, 9, 10, 11, 12, 13, 14, 15, 16, 17, 18, 19, 20, 21, 22, 23, 24, 25, 26, 27, 28, 29, 30, 31, 32, 33, 34, 35, 36, 37, 38]⟩)], [(7, ⟨[(6, .lf (.int .i64)), (7, .lf (.int .i64))], [], [25, 26, 27, 28, 29, 30, 31, 32, 35, 36, 37, 38, 39, 8, 40, 41, 6, 42, 43, 44, 45, 46, 2, 47, 48, 49, 50, 51, 33, 34, 7], []⟩)], []⟩
theorem lturns_calls (a0 : Option Addr) (n0 : Nat) (c0 : Nat) (w : World) (K : Value → World → Prop) (h : lturns_vc a0 n0 c0 w K) : Calls Try.prog 4 #[.slice a0 n0 c0] w fun e w' => ∃ v, e = .returned v ∧ K v w' :=
  calls_of_fvc envOk Try.func4 lturns_notes [10] [.slice a0 n0 c0] w K (use_vc h (by as_aux_lemma => kernel_rfl))
/-- purser/purserlaw06.SnapSaves -/
def lsaves_vc (x0 : Int) (x1_0 : Int) (x1_1 : Int) (x1_2 : Int) (a2 : Option Addr) (n2 : Nat) (c2 : Nat) (w : World) (K : Value → World → Prop) : Prop :=
  newO w (.cells #[.int .i64 x1_0, .int .i64 x1_1, .int .i64 x1_2] 47) fun g w_2 =>
  (24 : Int) ≠ 0 ∧
  Calls Try.prog 13 #[.int .i64 (IntKind.i64.wrap (1 + (IntKind.i64.wrap (Int.tmod (IntKind.u64.wrap x0) 24))))] w_2 fun e w_3 => KeepG [g] w_2 w_3 ∧
  ∃ (p39_0 : Option Addr) (x39_1 : Int),
  e = .returned (.tuple #[.pointer p39_0, .int .i64 x39_1]) ∧
  Calls Try.prog 16 #[.slice a2 n2 c2] w_3 fun e_2 w_4 => KeepG [g] w_3 w_4 ∧
  ∃ (a43 : Option Addr) (n43 : Nat) (c43 : Nat),
  e_2 = .returned (.slice a43 n43 c43) ∧
  ∃ bs45 : List UInt8, bs45.length = n43 ∧ RowAt w_4 a43 (bs45.map bV) ∧
  drewO w_4 fun w_5 =>
  Calls Try.prog 15 #[.pointer p39_0, .int .i64 x1_0, .int .i64 x1_1, .int .i64 x1_2, .slice a43 n43 c43] w_5 fun e_3 w_6 => KeepG [g] w_5 w_6 ∧
  ∃ (x57 : Int),
  e_3 = .returned (.int .i64 x57) ∧
  Calls Try.prog 19 #[.pointer p39_0, .int .i64 x1_0, .int .i64 x1_1] w_6 fun e_4 w_7 => KeepG [g] w_6 w_7 ∧
  ∃ (x62_0 : Int) (a62_1 : Option Addr) (n62_1 : Nat) (c62_1 : Nat) (x62_2 : Int),
  e_4 = .returned (.tuple #[.int .i64 x62_0, .slice a62_1 n62_1 c62_1, .int .i64 x62_2]) ∧
  Calls Try.prog 20 #[.pointer p39_0, .int .i64 x1_0, .int .i64 x1_1] w_7 fun e_5 w_8 => KeepG [g] w_7 w_8 ∧
  ∃ (x70_0_0 : Int) (x70_0_1 : Int) (b70_1_0 : Bool) (b70_1_1 : Bool) (x70_2 : Int),
  e_5 = .returned (.tuple #[.agg #[.int .i64 x70_0_0, .int .i64 x70_0_1], .agg #[.bool b70_1_0, .bool b70_1_1], .int .i64 x70_2]) ∧
  newO w_8 (.cells #[.int .i64 0, .int .i64 0] 37) fun g_2 w_9 =>
  newO w_9 (.cells #[.bool false, .bool false] 38) fun g_3 w_10 =>
  ∀ w_11 : World, BoxSt g_2 w_10 w_11 →
  ∀ w_12 : World, BoxSt g_3 w_11 w_12 →
  Calls Try.prog 19 #[.pointer none, .int .i64 0, .int .i64 1] w_12 fun e_6 w_13 => KeepG [g_3, g_2, g] w_12 w_13 ∧
  ∃ (x75_0 : Int) (a75_1 : Option Addr) (n75_1 : Nat) (c75_1 : Nat) (x75_2 : Int),
  e_6 = .returned (.tuple #[.int .i64 x75_0, .slice a75_1 n75_1 c75_1, .int .i64 x75_2]) ∧
  Calls Try.prog 20 #[.pointer none, .int .i64 0, .int .i64 1] w_13 fun e_7 w_14 => KeepG [g_3, g_2, g] w_13 w_14 ∧
  ∃ (x80_0_0 : Int) (x80_0_1 : Int) (b80_1_0 : Bool) (b80_1_1 : Bool) (x80_2 : Int),
  e_7 = .returned (.tuple #[.agg #[.int .i64 x80_0_0, .int .i64 x80_0_1], .agg #[.bool b80_1_0, .bool b80_1_1], .int .i64 x80_2]) ∧
  newO w_14 (.cells #[.int .i64 0, .int .i64 0] 37) fun g_4 w_15 =>
  newO w_15 (.cells #[.bool false, .bool false] 38) fun g_5 w_16 =>
  ∀ w_17 : World, BoxSt g_4 w_16 w_17 →
  ∀ w_18 : World, BoxSt g_5 w_17 w_18 →
  Calls Try.prog 14 #[] w_18 fun e_8 w_19 => KeepG [g_5, g_4, g_3, g_2, g] w_18 w_19 ∧
  ∃ (b84 : Bool),
  e_8 = .returned (.bool b84) ∧
  br (!b84) (
    K (.bool false) w_19
  ) (
    br (decide (x39_1 ≠ 0)) (
      K (.bool false) w_19
    ) (
      ∃ bs92 : List UInt8, bs92.length = n43 ∧ RowAt w_19 a43 (bs92.map bV) ∧
      br (decide ((strOf bs92) ≠ (strOf bs45))) (
        K (.bool false) w_19
      ) (
        br (decide (x75_2 ≠ 1)) (
          K (.bool false) w_19
        ) (
          br (decide (x80_2 ≠ 1)) (
            K (.bool false) w_19
          ) (
            Calls Try.prog 15 #[.pointer none, .int .i64 0, .int .i64 1, .int .i64 1, .slice none 0 0] w_19 fun e_9 w_20 => KeepG [g_5, g_4, g_3, g_2, g] w_19 w_20 ∧
            ∃ (x105 : Int),
            e_9 = .returned (.int .i64 x105) ∧
            br (decide (x105 ≠ 1)) (
              K (.bool false) w_20
            ) (
              Calls Try.prog 32 #[.int .i64 x1_1] w_20 fun e_10 w_21 => KeepG [g_5, g_4, g_3, g_2, g] w_20 w_21 ∧
              ∃ (x110 : Int),
              e_10 = .returned (.int .i64 x110) ∧
              Calls Try.prog 33 #[.int .i64 x1_1] w_21 fun e_11 w_22 => KeepG [g_5, g_4, g_3, g_2, g] w_21 w_22 ∧
              ∃ (x112 : Int),
              e_11 = .returned (.int .i64 x112) ∧
              br (decide (x110 ≠ x112)) (
                K (.bool false) w_22
              ) (
                br (decide (x1_0 < 0)) (
                  br (decide (x57 = 1)) (
                    br (decide (x62_2 = 1)) (
                      K (.bool (decide (x70_2 = 1))) w_22
                    ) (
                      K (.bool false) w_22
                    )
                  ) (
                    K (.bool false) w_22
                  )
                ) (
                  br (decide (x1_1 < 1)) (
                    br (decide (x57 = 1)) (
                      br (decide (x62_2 = 1)) (
                        K (.bool (decide (x70_2 = 1))) w_22
                      ) (
                        K (.bool false) w_22
                      )
                    ) (
                      K (.bool false) w_22
                    )
                  ) (
                    (2 : Int) ≠ 0 ∧
                    br (decide (x1_1 > (IntKind.i64.wrap (Int.tdiv (IntKind.i64.wrap (1 + (IntKind.i64.wrap (Int.tmod (IntKind.u64.wrap x0) 24)))) 2)))) (
                      br (decide (x57 = 1)) (
                        br (decide (x62_2 = 1)) (
                          K (.bool (decide (x70_2 = 1))) w_22
                        ) (
                          K (.bool false) w_22
                        )
                      ) (
                        K (.bool false) w_22
                      )
                    ) (
                      br (decide (x1_0 > (IntKind.i64.wrap ((IntKind.i64.wrap (1 + (IntKind.i64.wrap (Int.tmod (IntKind.u64.wrap x0) 24)))) - (IntKind.i64.wrap (2 * x1_1)))))) (
                        br (decide (x57 = 1)) (
                          br (decide (x62_2 = 1)) (
                            K (.bool (decide (x70_2 = 1))) w_22
                          ) (
                            K (.bool false) w_22
                          )
                        ) (
                          K (.bool false) w_22
                        )
                      ) (
                        br (decide (x1_2 < 1)) (
                          br (decide (x57 = 1)) (
                            br (decide (x62_2 = 7)) (
                              K (.bool (decide (x70_2 = 0))) w_22
                            ) (
                              K (.bool false) w_22
                            )
                          ) (
                            K (.bool false) w_22
                          )
                        ) (
                          Calls Try.prog 33 #[.int .i64 x1_1] w_22 fun e_12 w_23 => KeepG [g_5, g_4, g_3, g_2, g] w_22 w_23 ∧
                          ∃ (x160 : Int),
                          e_12 = .returned (.int .i64 x160) ∧
                          br (decide ((((strOf bs45).size : Nat) : Int) > x160)) (
                            br (decide (x57 = 5)) (
                              br (decide (x62_2 = 7)) (
                                K (.bool (decide (x70_2 = 0))) w_23
                              ) (
                                K (.bool false) w_23
                              )
                            ) (
                              K (.bool false) w_23
                            )
                          ) (
                            (2 : Int) ≠ 0 ∧
                            Calls Try.prog 18 #[.pointer p39_0, .int .i64 (IntKind.i64.wrap (x1_0 + (IntKind.i64.wrap ((Int.tmod x1_2 2) * x1_1)))), .int .i64 1] w_23 fun e_13 w_24 => KeepG [g_5, g_4, g_3, g_2, g] w_23 w_24 ∧
                            ∃ (a181_0 : Option Addr) (n181_0 : Nat) (c181_0 : Nat) (x181_1 : Int),
                            e_13 = .returned (.tuple #[.slice a181_0 n181_0 c181_0, .int .i64 x181_1]) ∧
                            Calls Try.prog 34 #[.string (strOf bs45)] w_24 fun e_14 w_25 => KeepG [g_5, g_4, g_3, g_2, g] w_24 w_25 ∧
                            ∃ (s189 : ByteArray),
                            e_14 = .returned (.string s189) ∧
                            (64 : Int) ≠ 0 ∧
                            Calls Try.prog 18 #[.pointer p39_0, .int .i64 (IntKind.i64.wrap ((IntKind.i64.wrap (x1_0 + (IntKind.i64.wrap ((Int.tmod x1_2 2) * x1_1)))) + 1)), .int .i64 (IntKind.i64.wrap (Int.tdiv ((s189.size : Nat) : Int) 64))] w_25 fun e_15 w_26 => KeepG [g_5, g_4, g_3, g_2, g] w_25 w_26 ∧
                            ∃ (a192_0 : Option Addr) (n192_0 : Nat) (c192_0 : Nat) (x192_1 : Int),
                            e_15 = .returned (.tuple #[.slice a192_0 n192_0 c192_0, .int .i64 x192_1]) ∧
                            drewO w_26 fun w_27 =>
                            br (decide (x57 = 0)) (
                              br (decide (x62_2 = 0)) (
                                br (decide (x70_2 = 0)) (
                                  br (decide (x181_1 = 0)) (
                                    br (decide (x192_1 = 0)) (
                                      ∃ bs215 : List UInt8, bs215.length = n181_0 ∧ RowAt w_27 a181_0 (bs215.map bV) ∧
                                      Calls Try.prog 35 #[.int .i64 x1_2, .string (strOf bs45)] w_27 fun e_16 w_28 => KeepG [g_5, g_4, g_3, g_2, g] w_27 w_28 ∧
                                      ∃ (s218 : ByteArray),
                                      e_16 = .returned (.string s218) ∧
                                      RowAt w_28 a181_0 (bs215.map bV) ∧
                                      br (decide ((strOf bs215) = s218)) (
                                        ∃ bs223 : List UInt8, bs223.length = n192_0 ∧ RowAt w_28 a192_0 (bs223.map bV) ∧
                                        Calls Try.prog 34 #[.string (strOf bs45)] w_28 fun e_17 w_29 => KeepG [g_5, g_4, g_3, g_2, g] w_28 w_29 ∧
                                        ∃ (s225 : ByteArray),
                                        e_17 = .returned (.string s225) ∧
                                        RowAt w_29 a192_0 (bs223.map bV) ∧
                                        br (decide ((strOf bs223) = s225)) (
                                          Calls Try.prog 36 #[.pointer p39_0] w_29 fun e_18 w_30 => KeepG [g_5, g_4, g_3, g_2, g] w_29 w_30 ∧
                                          ∃ (a230 : Option Addr) (n230 : Nat) (c230 : Nat),
                                          e_18 = .returned (.slice a230 n230 c230) ∧
                                          K (.bool (decide (((n230 : Nat) : Int) = 0))) w_30
                                        ) (
                                          K (.bool false) w_29
                                        )
                                      ) (
                                        K (.bool false) w_28
                                      )
                                    ) (
                                      K (.bool false) w_27
                                    )
                                  ) (
                                    K (.bool false) w_27
                                  )
                                ) (
                                  K (.bool false) w_27
                                )
                              ) (
                                K (.bool false) w_27
                              )
                            ) (
                              K (.bool false) w_27
                            )
                          )
                        )
                      )
                    )
                  )
                )
              )
            )
          )
        )
      )
    )
  )
def lsaves_notes : Notes := ⟨[(5, ⟨[0, 1, 0, 4, 0, 16, 3, 79, 255], [], [0, 1, 2, 3, 4, 5, 6, 7, 8]⟩), (22, ⟨[0, 1, 3, 7, 15, 31, 63, 127, 255, 511, 1023, 2047, 4095, 8191, 16383, 32767, 65535, 131071, 262143, 524287, 1048575, 524287, 524287, 6815743, 16777215, 33554431, 67108863, 134217727, 268435455, 134217727, 671088639, 2147483647, 4294967295, 8589934591, 17179869183, 34359738367, 68719476735, 137438953471, 274877906943, 549755813887], [23, 30, 35], [0, 1, 2, 3, 4, 5, 6, 7, 8, 9, 10, 11, 12, 13, 14, 15, 16, 17, 18, 19, 20, 21, 22, 24, 25, 26, 27, 28, 29, 31, 32, 33, 34, 36, 37, 38, 39]⟩)], [], []⟩
theorem lsaves_calls (x0 : Int) (x1_0 : Int) (x1_1 : Int) (x1_2 : Int) (a2 : Option Addr) (n2 : Nat) (c2 : Nat) (w : World) (K : Value → World → Prop) (h : lsaves_vc x0 x1_0 x1_1 x1_2 a2 n2 c2 w K) : Calls Try.prog 6 #[.int .i64 x0, .agg #[.int .i64 x1_0, .int .i64 x1_1, .int .i64 x1_2], .slice a2 n2 c2] w fun e w' => ∃ v, e = .returned v ∧ K v w' :=
  calls_of_fvc envOk Try.func6 lsaves_notes [4, 18, 19, 24, 25] [.int .i64 x0, .agg #[.int .i64 x1_0, .int .i64 x1_1, .int .i64 x1_2], .slice a2 n2 c2] w K (use_vc h (by as_aux_lemma => kernel_rfl))
/-- purser/purserlaw06.SnapFalls -/
def lfalls_k1 (K : Value → World → Prop) (I : Int → ByteArray → Int → World → Prop) (μ : Int → ByteArray → Int → World → Nat) (x5 : Int) (s6 : ByteArray) (x7 : Int) (w_4 : World) (x5_3 : Int) (s9_2 : ByteArray) (b10_2 : Bool) (x90_0 : Int) (a90_1 : Option Addr) (n90_1 : Nat) (w_18 : World) : Prop :=
  br (!b10_2) (
    K (.bool false) w_18
  ) (
    br (decide (x90_0 ≠ (IntKind.i64.wrap (x5_3 + 1)))) (
      K (.bool false) w_18
    ) (
      ∃ bs130 : List UInt8, bs130.length = n90_1 ∧ RowAt w_18 a90_1 (bs130.map bV) ∧
      br (decide ((strOf bs130) ≠ s9_2)) (
        K (.bool false) w_18
      ) (
        I x90_0 s9_2 (IntKind.i64.wrap (x7 + 1)) w_18 ∧ μ x90_0 s9_2 (IntKind.i64.wrap (x7 + 1)) w_18 < μ x5 s6 x7 w_4
      )
    )
  )
def lfalls_k2 (K : Value → World → Prop) (I : Int → ByteArray → Int → World → Prop) (μ : Int → ByteArray → Int → World → Nat) (x5 : Int) (s6 : ByteArray) (x7 : Int) (w_4 : World) (x5_3 : Int) (s6_3 : ByteArray) (s9_2 : ByteArray) (b10_2 : Bool) (x90_0 : Int) (a90_1 : Option Addr) (n90_1 : Nat) (x90_2 : Int) (w_17 : World) : Prop :=
  br (decide (x90_2 ≠ 0)) (
    K (.bool false) w_17
  ) (
    br (decide (x90_0 = x5_3)) (
      ∃ bs116 : List UInt8, bs116.length = n90_1 ∧ RowAt w_17 a90_1 (bs116.map bV) ∧
      br (decide ((strOf bs116) = s6_3)) (
        I x5_3 s6_3 (IntKind.i64.wrap (x7 + 1)) w_17 ∧ μ x5_3 s6_3 (IntKind.i64.wrap (x7 + 1)) w_17 < μ x5 s6 x7 w_4
      ) (
        lfalls_k1 K I μ x5 s6 x7 w_4 x5_3 s9_2 b10_2 x90_0 a90_1 n90_1 w_17
      )
    ) (
      lfalls_k1 K I μ x5 s6 x7 w_4 x5_3 s9_2 b10_2 x90_0 a90_1 n90_1 w_17
    )
  )
def lfalls_k3 (K : Value → World → Prop) (I : Int → ByteArray → Int → World → Prop) (μ : Int → ByteArray → Int → World → Nat) (p18_0 : Option Addr) (x5 : Int) (s6 : ByteArray) (x7 : Int) (w_4 : World) (a40_2 : Option Addr) (n40_2 : Nat) (c40_2 : Nat) (g : Nat) (x5_3 : Int) (s6_3 : ByteArray) (s9_2 : ByteArray) (b10_2 : Bool) (w_13 : World) : Prop :=
  Calls Try.prog 39 #[.pointer p18_0, .slice a40_2 n40_2 c40_2] w_13 fun e_7 w_14 => KeepG [g] w_13 w_14 ∧
  e_7 = .returned (.tuple #[]) ∧
  Calls Try.prog 19 #[.pointer p18_0, .int .i64 2, .int .i64 9] w_14 fun e_8 w_15 => KeepG [g] w_14 w_15 ∧
  ∃ (x90_0 : Int) (a90_1 : Option Addr) (n90_1 : Nat) (c90_1 : Nat) (x90_2 : Int),
  e_8 = .returned (.tuple #[.int .i64 x90_0, .slice a90_1 n90_1 c90_1, .int .i64 x90_2]) ∧
  br (decide (x5_3 = 0)) (
    br (decide (x90_2 = 7)) (
      br (decide (x90_0 = 0)) (
        br (decide (((n90_1 : Nat) : Int) = 0)) (
          I x5_3 s6_3 (IntKind.i64.wrap (x7 + 1)) w_15 ∧ μ x5_3 s6_3 (IntKind.i64.wrap (x7 + 1)) w_15 < μ x5 s6 x7 w_4
        ) (
          lfalls_k2 K I μ x5 s6 x7 w_4 x5_3 s6_3 s9_2 b10_2 x90_0 a90_1 n90_1 x90_2 w_15
        )
      ) (
        lfalls_k2 K I μ x5 s6 x7 w_4 x5_3 s6_3 s9_2 b10_2 x90_0 a90_1 n90_1 x90_2 w_15
      )
    ) (
      lfalls_k2 K I μ x5 s6 x7 w_4 x5_3 s6_3 s9_2 b10_2 x90_0 a90_1 n90_1 x90_2 w_15
    )
  ) (
    lfalls_k2 K I μ x5 s6 x7 w_4 x5_3 s6_3 s9_2 b10_2 x90_0 a90_1 n90_1 x90_2 w_15
  )
def lfalls_vc (a0 : Option Addr) (n0 : Nat) (c0 : Nat) (w : World) (K : Value → World → Prop) : Prop :=
  Calls Try.prog 13 #[.int .i64 20] w fun e w_2 => KeepG [] w w_2 ∧
  ∃ (p18_0 : Option Addr) (x18_1 : Int),
  e = .returned (.tuple #[.pointer p18_0, .int .i64 x18_1]) ∧
  Calls Try.prog 14 #[] w_2 fun e_2 w_3 => KeepG [] w_2 w_3 ∧
  ∃ (b21 : Bool),
  e_2 = .returned (.bool b21) ∧
  br (!b21) (
    K (.bool false) w_3
  ) (
    br (decide (x18_1 ≠ 0)) (
      K (.bool false) w_3
    ) (
      ∃ (I : Int → ByteArray → Int → World → Prop) (μ : Int → ByteArray → Int → World → Nat),
      I 0 (⟨#[]⟩ : ByteArray) 0 w_3 ∧
      ∀ (x5 : Int) (s6 : ByteArray) (x7 : Int) (w_4 : World), I x5 s6 x7 w_4 →
      br (decide (x7 < ((n0 : Nat) : Int))) (
        br (decide (x7 < 4)) (
          withP a0 fun g39 o39 =>
          (0 : Int) ≤ x7 ∧ x7 < (((n0 : Nat) : Int) : Int) ∧
          ∃ (a40_0 : Option Addr) (n40_0 : Nat) (c40_0 : Nat) (x40_1 : Int) (a40_2 : Option Addr) (n40_2 : Nat) (c40_2 : Nat),
          cellsAt w_4 g39 (o39 + x7.toNat * 3) [.slice a40_0 n40_0 c40_0, .int .i64 x40_1, .slice a40_2 n40_2 c40_2] ∧
          newO w_4 (.cells #[.slice none 0 0, .int .i64 0, .slice none 0 0] 66) fun g w_5 =>
          ∀ w_6 : World, BoxSt g w_5 w_6 →
          (14 : Int) ≠ 0 ∧
          Calls Try.prog 37 #[.pointer p18_0, .int .i64 (IntKind.i64.wrap (Int.tmod (IntKind.u64.wrap x40_1) 14))] w_6 fun e_3 w_7 => KeepG [g] w_6 w_7 ∧
          e_3 = .returned (.tuple #[]) ∧
          ∃ (I_2 : Int → ByteArray → ByteArray → Bool → Int → World → Prop) (μ_2 : Int → ByteArray → ByteArray → Bool → Int → World → Nat),
          I_2 x5 s6 (⟨#[]⟩ : ByteArray) false 0 w_7 ∧
          ∀ (x5_2 : Int) (s6_2 : ByteArray) (s9 : ByteArray) (b10 : Bool) (x11 : Int) (w_8 : World), I_2 x5_2 s6_2 s9 b10 x11 w_8 →
          br (decide (x11 < ((n40_0 : Nat) : Int))) (
            br (decide (x11 < 4)) (
              br (!b10) (
                withP a40_0 fun g66 o66 =>
                (0 : Int) ≤ x11 ∧ x11 < (((n40_0 : Nat) : Int) : Int) ∧
                ∃ (a67 : Option Addr) (n67 : Nat) (c67 : Nat), w_8.cell? ⟨g66, o66 + x11.toNat * 1, none⟩ = some (.slice a67 n67 c67) ∧
                Calls Try.prog 16 #[.slice a67 n67 c67] w_8 fun e_4 w_9 => KeepG [g] w_8 w_9 ∧
                ∃ (a68 : Option Addr) (n68 : Nat) (c68 : Nat),
                e_4 = .returned (.slice a68 n68 c68) ∧
                Calls Try.prog 15 #[.pointer p18_0, .int .i64 2, .int .i64 9, .int .i64 (IntKind.i64.wrap (x5_2 + 1)), .slice a68 n68 c68] w_9 fun e_5 w_10 => KeepG [g] w_9 w_10 ∧
                ∃ (x73 : Int),
                e_5 = .returned (.int .i64 x73) ∧
                Calls Try.prog 38 #[.pointer p18_0] w_10 fun e_6 w_11 => KeepG [g] w_10 w_11 ∧
                ∃ (b75 : Bool),
                e_6 = .returned (.bool b75) ∧
                br b75 (
                  ∃ bs77 : List UInt8, bs77.length = n68 ∧ RowAt w_11 a68 (bs77.map bV) ∧
                  I_2 x5_2 s6_2 (strOf bs77) true (IntKind.i64.wrap (x11 + 1)) w_11 ∧ μ_2 x5_2 s6_2 (strOf bs77) true (IntKind.i64.wrap (x11 + 1)) w_11 < μ_2 x5_2 s6_2 s9 b10 x11 w_8
                ) (
                  br (decide (x73 = 0)) (
                    drewO w_11 fun w_12 =>
                    ∃ bs83 : List UInt8, bs83.length = n68 ∧ RowAt w_12 a68 (bs83.map bV) ∧
                    I_2 (IntKind.i64.wrap (x5_2 + 1)) (strOf bs83) s9 b10 (IntKind.i64.wrap (x11 + 1)) w_12 ∧ μ_2 (IntKind.i64.wrap (x5_2 + 1)) (strOf bs83) s9 b10 (IntKind.i64.wrap (x11 + 1)) w_12 < μ_2 x5_2 s6_2 s9 b10 x11 w_8
                  ) (
                    K (.bool false) w_11
                  )
                )
              ) (
                lfalls_k3 K I μ p18_0 x5 s6 x7 w_4 a40_2 n40_2 c40_2 g x5_2 s6_2 s9 b10 w_8
              )
            ) (
              lfalls_k3 K I μ p18_0 x5 s6 x7 w_4 a40_2 n40_2 c40_2 g x5_2 s6_2 s9 b10 w_8
            )
          ) (
            lfalls_k3 K I μ p18_0 x5 s6 x7 w_4 a40_2 n40_2 c40_2 g x5_2 s6_2 s9 b10 w_8
          )
        ) (
          K (.bool true) w_4
        )
      ) (
        K (.bool true) w_4
      )
    )
  )
def lfalls_notes : Notes := ⟨[(19, ⟨[0, 1, 0, 4, 3, 31], [], [0, 1, 2, 3, 4, 5]⟩)], [(6, ⟨[(5, .lf (.int .i64)), (6, .lf (.str)), (7, .lf (.int .i64))], [], [27, 28, 29, 30, 31, 32, 33, 34, 37, 38, 39, 40, 8, 41, 42, 43, 44, 45, 46, 47, 9, 10, 11, 48, 49, 50, 51, 52, 53, 54, 55, 56, 57, 58, 59, 60, 63, 64, 65, 66, 67, 68, 12, 69, 70, 71, 72, 73, 13, 74, 75, 76, 77, 78, 79, 80, 81, 82, 83, 5, 6, 2, 61, 62, 84, 85, 86, 87, 89, 90, 88, 91, 92, 93, 14, 15, 16, 94, 95, 96, 97, 98, 99, 100, 101, 102, 103, 104, 105, 106, 107, 108, 109, 110, 111, 112, 113, 114, 115, 116, 117, 118, 119, 120, 121, 122, 123, 124, 125, 126, 127, 128, 129, 130, 131, 132, 133, 134, 135, 35, 36, 7], [8]⟩), (12, ⟨[(5, .lf (.int .i64)), (6, .lf (.str)), (9, .lf (.str)), (10, .lf (.bool)), (11, .lf (.int .i64))], [], [48, 49, 50, 51, 52, 53, 54, 55, 56, 57, 58, 59, 60, 63, 64, 65, 66, 67, 68, 12, 69, 70, 71, 72, 73, 13, 74, 75, 76, 77, 9, 10, 78, 79, 80, 81, 82, 83, 5, 6, 2, 61, 62, 11], []⟩)], []⟩
theorem lfalls_calls (a0 : Option Addr) (n0 : Nat) (c0 : Nat) (w : World) (K : Value → World → Prop) (h : lfalls_vc a0 n0 c0 w K) : Calls Try.prog 7 #[.slice a0 n0 c0] w fun e w' => ∃ v, e = .returned v ∧ K v w' :=
  calls_of_fvc envOk Try.func7 lfalls_notes [8] [.slice a0 n0 c0] w K (use_vc h (by as_aux_lemma => kernel_rfl))
end GSn
end Go.Proofs.Ytpfmadinijofeaa
end
section
/- Arguments as the walks want them: bytes, rows of bytes. No program in sight. -/
namespace Go.Proofs.Ytpfmadinijofeaa
open Go.RowKit Go.ChangeShapes
variable {H : Type} {enc : TypeId × Value → H} {P : Program} {W : World}
theorem addr_plain {w : World} {a : Addr} {v : Value} (h : w.cell? (a.add 0) = some v) : a = ⟨a.block, a.off, none⟩ := by
  have h0 : a.add 0 = a := by unfold Addr.add; rfl
  rw [h0] at h
  unfold World.cell? at h
  split at h
  · split at h
    · cases h
    · rename_i hs
      obtain ⟨b, o, s⟩ := a
      cases s with
      | none => rfl
      | some x => simp at hs
  · cases h
def ofI (zs : List Int) : List UInt8 := zs.map fun z => UInt8.ofNat z.toNat
theorem bV_ofI {z : Int} (h : (Lit.int .u8 z).wf = true) : bV (UInt8.ofNat z.toNat) = .int .u8 z := by
  have hz : 0 ≤ z ∧ z < 256 := by
    have e1 : IntKind.u8.min = 0 := rfl
    have e2 : IntKind.u8.max = 255 := rfl
    simp [Lit.wf] at h
    omega
  unfold bV
  rw [UInt8.toNat_ofNat', Nat.mod_eq_of_lt (by omega)]
  congr 1
  omega
theorem row_of_cells {a : Addr} {zs : List Int} {len : Nat} (hl : len ≤ zs.length) (hc : ∀ i, i < zs.length → W.cell? (a.add i) = some (.int .u8 (zs.getD i 0))) (hw : ∀ n ∈ zs, (Lit.int .u8 n).wf = true) : (ofI (zs.take len)).length = len ∧ RowAt W (some a) ((ofI (zs.take len)).map bV) := by
  refine ⟨by simp [ofI]; omega, ?_⟩
  cases hz : zs with
  | nil => exact .inl (by simp [ofI])
  | cons z0 r =>
    rw [← hz]
    have h0 := hc 0 (by rw [hz]; simp)
    have ha := addr_plain h0
    refine .inr ⟨a.block, a.off, by rw [← ha], fun i v hv => ?_⟩
    rw [List.getElem?_map, ofI, List.getElem?_map, List.getElem?_take] at hv
    split at hv
    · rcases hq : zs[i]? with _ | z
      · rw [hq] at hv; cases hv
      · rw [hq] at hv
        simp only [Option.map_some, Option.some.injEq] at hv
        have hi : i < zs.length := (List.getElem?_eq_some_iff.1 hq).1
        have h1 := hc i hi
        rw [ha, Addr.add_lit, List.getD_eq_getElem?_getD, hq] at h1
        rw [← hv, bV_ofI (hw z (List.mem_of_getElem? hq))]
        exact h1
    · cases hv
theorem open_bytes {t e : TypeId} {v : Value} {d : DataW H} {p : List MemPlace} (ht : P.underlying t = some (.slice e)) (he : P.underlying e = some (.int .u8)) (hc : P.cellsOf e = 1)
    (hv : ∃ a l c, v = .slice a l c) (h : DataW.Trod enc P W 0 (fun _ => true) true t v d p) : ∃ (bs : List UInt8) (a : Option Addr) (c : Nat), v = .slice a bs.length c ∧ bs.length ≤ c ∧ c ≤ maxLen ∧ RowAt W a (bs.map bV) := by
  obtain ⟨a, l, c, rfl⟩ := hv
  obtain ⟨fuel, hf⟩ := h
  rcases open_ints ht he hc hf with ⟨hcs, _⟩ | ⟨x, l', c', zs, hcs, _, hl, hm, hz, _, hcell, hwz⟩
  · simp [Value.cells] at hcs
    obtain ⟨rfl, rfl, rfl⟩ := hcs
    exact ⟨[], none, 0, rfl, Nat.le_refl _, by decide, .inl rfl⟩
  · simp [Value.cells] at hcs
    obtain ⟨rfl, rfl, rfl⟩ := hcs
    simp only [if_true] at hz
    obtain ⟨h1, h2⟩ := row_of_cells (len := l) (by omega) hcell hwz
    exact ⟨ofI (zs.take l), some x, c, by rw [h1], by rw [h1]; exact hl, hm, h2⟩
theorem open_parts {t e q : TypeId} {v : Value} {d : DataW H} {p : List MemPlace} (ht : P.underlying t = some (.slice e)) (he : P.underlying e = some (.slice q)) (hq : P.underlying q = some (.int .u8)) (ce : P.cellsOf e = 1) (cq : P.cellsOf q = 1)
    (hv : ∃ a l c, v = .slice a l c) (h : DataW.Trod enc P W 0 (fun _ => true) true t v d p) : ∃ (ps : List (List UInt8)) (a : Option Addr) (c : Nat), v = .slice a ps.length c ∧ ps.length ≤ c ∧ c ≤ maxLen ∧ PartsAt W a ps := by
  obtain ⟨a, l, c, rfl⟩ := hv
  obtain ⟨fuel, hf⟩ := h
  rcases Deep.open_int_rows ht he hq ce cq hf with ⟨hcs, _⟩ | ⟨x, l', c', A, L, C, Z, hcs, _, hl, hm, _, hrow⟩
  · simp [Value.cells] at hcs
    obtain ⟨rfl, rfl, rfl⟩ := hcs
    exact ⟨[], none, 0, rfl, Nat.le_refl _, by decide, .nil⟩
  · simp [Value.cells] at hcs
    obtain ⟨rfl, rfl, rfl⟩ := hcs
    have each : ∀ r, r < c → (ofI ((Z r).take (L r))).length = L r ∧ RowAt W (A r) ((ofI ((Z r).take (L r))).map bV) := fun r hr => by
      obtain ⟨_, h2, _, h4, h5, h6, h7⟩ := hrow r hr
      cases hA : A r with
      | none =>
        have hC := h6 hA
        have hL : L r = 0 := by omega
        rw [hL]
        exact ⟨by simp [ofI], .inl (by simp [ofI])⟩
      | some a' => exact row_of_cells (by omega) (fun i hi => (h7 a' hA).2 i (by omega)) h5
    let ps : List (List UInt8) := (List.range l).map fun r => ofI ((Z r).take (L r))
    let vs : List (Option Addr × Nat) := (List.range l).map fun r => (A r, C r)
    have hps : ps.length = l := by simp [ps]
    refine ⟨ps, some x, c, by rw [hps], by rw [hps]; exact hl, hm, vs, ?_, by simp [ps, vs], ?_⟩
    · by_cases h0 : l = 0
      · exact .inl (by rw [List.map_eq_nil_iff]; simp [ps, vs, h0])
      · have ha := addr_plain (hrow 0 (by omega)).1
        refine .inr ⟨x.block, x.off, by rw [← ha], fun i v hv => ?_⟩
        rw [List.getElem?_map] at hv
        rcases hz : (vs.zip ps)[i]? with _ | ⟨v1, p1⟩
        · rw [hz] at hv; cases hv
        · rw [hz] at hv
          simp only [Option.map_some, Option.some.injEq] at hv
          rw [List.getElem?_zip_eq_some] at hz
          obtain ⟨z1, z2⟩ := hz
          have hi : i < l := by
            have := (List.getElem?_eq_some_iff.1 z2).1
            omega
          simp only [vs, ps, List.getElem?_map, List.getElem?_range hi, Option.map_some, Option.some.injEq] at z1 z2
          rw [← hv, ← z1, ← z2, (each i (by omega)).1]
          have h1 := (hrow i (by omega)).1
          rw [ha, Addr.add_lit] at h1
          exact h1
    · intro v1 p1 hm1
      obtain ⟨i, hi⟩ := List.getElem?_of_mem hm1
      rw [List.getElem?_zip_eq_some] at hi
      obtain ⟨z1, z2⟩ := hi
      have hi : i < l := by
        have := (List.getElem?_eq_some_iff.1 z2).1
        omega
      simp only [vs, ps, List.getElem?_map, List.getElem?_range hi, Option.map_some, Option.some.injEq] at z1 z2
      obtain ⟨_, h2, h3, _⟩ := hrow i (by omega)
      rw [← z1, ← z2, (each i (by omega)).1]
      exact ⟨(each i (by omega)).2, h2, Nat.le_trans h2 h3⟩
theorem int_nat {z : Int} (h : 0 ≤ z) : ∃ n : Nat, z = (n : Int) := ⟨z.toNat, by omega⟩
theorem u32_nat {z : Int} (h : (Lit.int .u32 z).wf = true) : ∃ n : Nat, z = (n : Int) ∧ n < 4294967296 := by
  have hz : 0 ≤ z ∧ z < 4294967296 := by
    have e1 : IntKind.u32.min = 0 := rfl
    have e2 : IntKind.u32.max = 4294967295 := rfl
    simp [Lit.wf] at h
    omega
  exact ⟨z.toNat, by omega, by omega⟩
theorem i64_range {z : Int} (h : (Lit.int .i64 z).wf = true) : -9223372036854775808 ≤ z ∧ z ≤ 9223372036854775807 := by
  have e1 : IntKind.i64.min = -9223372036854775808 := rfl
  have e2 : IntKind.i64.max = 9223372036854775807 := rfl
  simp [Lit.wf] at h
  omega
end Go.Proofs.Ytpfmadinijofeaa
end
section
/- Data that came in, opened by their shape. No program in sight. -/
namespace Go.Proofs.Ytpfmadinijofeaa
open Go.RowKit Go.WideShapes Go.ChangeShapes
/-- What a type looks like; a struct's fields one behind the other: offset, cells, shape. -/
inductive Sh where
  | int (k : IntKind)
  | bool
  | str
  | slice (e : Sh) (n : Nat)
  | arr (len : Nat) (e : Sh) (n : Nat)
  | agg (fs : Sh)
  | fnil
  | fcons (off n : Nat) (f r : Sh)
mutual
def fitsB (P : Program) : Sh → TypeId → Bool
  | .int k, t => match P.underlying t with | some (.int k') => k == k' | _ => false
  | .bool, t => match P.underlying t with | some .bool => true | _ => false
  | .str, t => match P.underlying t with | some .string => true | _ => false
  | .slice e n, t => match P.underlying t with | some (.slice et) => P.cellsOf et == n && fitsB P e et | _ => false
  | .arr len e n, t => match P.underlying t with | some (.array l et) => l == len && P.cellsOf et == n && fitsB P e et | _ => false
  | .agg fs, t => match P.underlying t with | some (.struct fl) => fitsF P fs fl 0 | _ => false
  | .fnil, _ => false
  | .fcons _ _ _ _, _ => false
def fitsF (P : Program) : Sh → Array Field → Nat → Bool
  | .fnil, _, _ => true
  | .fcons off n f r, fl, i => (match fl[i]? with | some fd => fd.offset == off && P.cellsOf fd.type == n && fitsB P f fd.type | none => false) && fitsF P r fl (i + 1)
  | _, _, _ => false
end
/-- What the cells of a shape hold, in a world. -/
def Sh.Has (w : World) : Sh → List Value → Prop
  | .int k, cs => ∃ z, cs = [.int k z] ∧ (Lit.int k z).wf = true
  | .bool, cs => ∃ b, cs = [.bool b]
  | .str, cs => ∃ s : ByteArray, cs = [.string s] ∧ s.size ≤ maxLen
  | .slice e n, cs => cs = [.slice none 0 0] ∨ ∃ a len cap, cs = [.slice (some a) len cap] ∧ len ≤ cap ∧ cap ≤ maxLen ∧ ∀ i, i < len → ∃ cs', (cs'.length = n ∧ ∀ j, j < n → w.cell? (a.add (i * n + j)) = cs'[j]?) ∧ e.Has w cs'
  | .arr len e n, cs => ∀ i, i < len → e.Has w ((cs.drop (i * n)).take n)
  | .agg fs, cs => fs.Has w cs
  | .fnil, _ => True
  | .fcons off n f r, cs => f.Has w ((cs.drop off).take n) ∧ r.Has w cs
section
variable {H : Type} {enc : TypeId × Value → H} {P : Program} {W : World}
mutual
theorem has_of (sh : Sh) : ∀ (t : TypeId) (fuel : Nat) (cs : List Value) (x : DataW H × List MemPlace), fitsB P sh t = true → DataW.trod enc P W 0 (fun _ => true) true fuel t cs = some x → sh.Has W cs := by
  intro t fuel cs x hf h
  cases sh with
  | int k =>
    simp only [fitsB] at hf
    split at hf
    · rename_i k' hu
      have : k = k' := eq_of_beq hf
      subst this
      obtain ⟨n, h1, _, h2⟩ := DataW.trod_int hu h
      exact ⟨n, h1, h2⟩
    · cases hf
  | bool =>
    simp only [fitsB] at hf
    split at hf
    · rename_i hu
      obtain ⟨b, h1, _⟩ := DataW.trod_bool hu h
      exact ⟨b, h1⟩
    · cases hf
  | str =>
    simp only [fitsB] at hf
    split at hf
    · rename_i hu
      obtain ⟨s, h1, _, h2⟩ := DataW.trod_string hu h
      exact ⟨s, h1, h2⟩
    · cases hf
  | slice e n =>
    simp only [fitsB] at hf
    split at hf
    · rename_i et hu
      rw [Bool.and_eq_true] at hf
      have hn : P.cellsOf et = n := eq_of_beq hf.1
      rcases Deep.open_slice hu h with ⟨h1, _⟩ | ⟨a, len, cap, m, nf, D, Pl, h1, _, hl, hm, hmm, _, hall⟩
      · exact .inl h1
      · refine .inr ⟨a, len, cap, h1, hl, hm, fun i hi => ?_⟩
        simp only [if_true] at hmm
        obtain ⟨cs', hc, ht⟩ := hall i (by omega)
        rw [hn] at hc
        obtain ⟨_, c1, c2⟩ := World.cells?_some hc
        refine ⟨cs', ⟨c1, fun j hj => ?_⟩, has_of e et _ _ _ hf.2 ht⟩
        rw [← c2 j hj, Addr.add_add]
    · cases hf
  | arr len e n =>
    simp only [fitsB] at hf
    split at hf
    · rename_i l et hu
      rw [Bool.and_eq_true, Bool.and_eq_true] at hf
      have hl : l = len := eq_of_beq hf.1.1
      have hn : P.cellsOf et = n := eq_of_beq hf.1.2
      subst hl
      obtain ⟨xs, m, _, _, _, hxl, hall⟩ := DataW.trod_array hu h
      intro i hi
      have := hall i hi
      rw [hn] at this
      rw [List.getElem?_eq_getElem (by omega)] at this
      exact has_of e et _ _ _ hf.2 this
    · cases hf
  | agg fs =>
    simp only [fitsB] at hf
    split at hf
    · rename_i fl hu
      obtain ⟨xs, n, _, _, _, hxl, hall⟩ := DataW.trod_struct hu h
      exact hasF_of fs fl 0 n cs xs hf hxl hall
    · cases hf
  | fnil => simp [fitsB] at hf
  | fcons off n f r => simp [fitsB] at hf
theorem hasF_of (sh : Sh) : ∀ (fl : Array Field) (i n : Nat) (cs : List Value) (xs : List (DataW H × List MemPlace)), fitsF P sh fl i = true → xs.length = fl.size →
    (∀ (i : Nat) (f : Field), fl[i]? = some f → DataW.trod enc P W 0 (fun _ => true) true n f.type ((cs.drop f.offset).take (P.cellsOf f.type)) = xs[i]?) → sh.Has W cs := by
  intro fl i n cs xs hf hl hall
  cases sh with
  | fnil => trivial
  | fcons off m f r =>
    simp only [fitsF, Bool.and_eq_true] at hf
    obtain ⟨h1, h2⟩ := hf
    refine ⟨?_, hasF_of r fl (i + 1) n cs xs h2 hl hall⟩
    split at h1
    · rename_i fd hfd
      rw [Bool.and_eq_true, Bool.and_eq_true] at h1
      have ho : fd.offset = off := eq_of_beq h1.1.1
      have hm : P.cellsOf fd.type = m := eq_of_beq h1.1.2
      have ht := hall i fd hfd
      have hi : i < xs.length := by rw [hl]; exact (Array.getElem?_eq_some_iff.1 hfd).1
      rw [List.getElem?_eq_getElem hi, ho, hm] at ht
      exact has_of f fd.type _ _ _ h1.2 ht
    · cases h1
  | int k => simp [fitsF] at hf
  | bool => simp [fitsF] at hf
  | str => simp [fitsF] at hf
  | slice e n => simp [fitsF] at hf
  | arr l e n => simp [fitsF] at hf
  | agg fs => simp [fitsF] at hf
end
theorem open_sh {sh : Sh} {t : TypeId} {v : Value} {d : DataW H} {p : List MemPlace} (hf : fitsB P sh t = true) (h : DataW.Trod enc P W 0 (fun _ => true) true t v d p) : sh.Has W v.cells.toList := by
  obtain ⟨fuel, hf'⟩ := h
  exact has_of sh t fuel _ _ hf hf'
end
theorem exists_list {α : Type} {p : Nat → α → Prop} : ∀ (n : Nat), (∀ i, i < n → ∃ x, p i x) → ∃ l : List α, l.length = n ∧ ∀ i x, l[i]? = some x → p i x := by
  intro n
  induction n with
  | zero => intro _; exact ⟨[], rfl, fun i x h => by cases h⟩
  | succ n ih =>
    intro h
    obtain ⟨l, hl, hp⟩ := ih fun i hi => h i (by omega)
    obtain ⟨x, hx⟩ := h n (by omega)
    refine ⟨l ++ [x], by simp [hl], fun i y hy => ?_⟩
    by_cases hi : i < l.length
    · rw [List.getElem?_append_left hi] at hy; exact hp i y hy
    · rw [List.getElem?_append_right (by omega)] at hy
      have h0 : i - l.length = 0 := by
        have := (List.getElem?_eq_some_iff.1 hy).1; simp at this; omega
      rw [h0] at hy
      simp at hy
      subst hy
      rw [show i = n by omega]; exact hx
/-- Where a slice's elements lie. -/
theorem slice_addr {w : World} {a : Addr} {v : Value} (h : w.cell? (a.add 0) = some v) : a = ⟨a.block, a.off, none⟩ := addr_plain h
def shBytes : Sh := .slice (.int .u8) 1
theorem has_bytes {w : World} {cs : List Value} (h : shBytes.Has w cs) : ∃ (bs : List UInt8) (a : Option Addr) (c : Nat), cs = [.slice a bs.length c] ∧ bs.length ≤ c ∧ c ≤ maxLen ∧ RowAt w a (bs.map bV) := by
  rcases h with rfl | ⟨a, len, cap, rfl, hl, hm, hall⟩
  · exact ⟨[], none, 0, rfl, Nat.le_refl _, by decide, .inl rfl⟩
  · obtain ⟨zs, hz, hp⟩ := exists_list (p := fun i z => w.cell? (a.add i) = some (.int .u8 z) ∧ (Lit.int .u8 z).wf = true) len (fun i hi => by
      obtain ⟨cs', ⟨h1, h2⟩, z, rfl, hw⟩ := hall i hi
      have := h2 0 (by omega)
      simp at this
      exact ⟨z, this, hw⟩)
    obtain ⟨h1, h2⟩ := row_of_cells (W := w) (a := a) (zs := zs) (len := len) (by omega) (fun i hi => by
      have := (hp i zs[i] (List.getElem?_eq_getElem hi)).1
      rw [this]; congr 2; simp [List.getD, List.getElem?_eq_getElem hi]) (fun n hn => by
      obtain ⟨i, hi⟩ := List.getElem?_of_mem hn
      exact (hp i n hi).2)
    exact ⟨ofI (zs.take len), some a, cap, by rw [h1], by rw [h1]; exact hl, hm, h2⟩
theorem has_int {w : World} {k : IntKind} {cs : List Value} (h : (Sh.int k).Has w cs) : ∃ z, cs = [.int k z] ∧ (Lit.int k z).wf = true := h
end Go.Proofs.Ytpfmadinijofeaa
end
section
/- Small words for using printed conditions. No program in sight. -/
namespace Go.Proofs.Ytpfmadinijofeaa
open Go.RowKit
theorem keepG_nil (w w1 : World) : KeepG [] w w1 := fun _ g hg => by cases hg
theorem keepG_below {gs : List Nat} {w w1 : World} (h : Below w.heap.size w w1) : KeepG gs w w1 := fun hu g hg => h.block g (hu g hg)
theorem keepG_fr {gs L : List Nat} {w w1 : World} (h : Fr L w w1) (ha : ∀ g ∈ gs, g ∉ L) : KeepG gs w w1 := fun hu g hg => h.block g (hu g hg) (ha g hg)
/-- A call whose contract tells one value. -/
theorem wr64 {z : Int} (h1 : -9223372036854775808 ≤ z) (h2 : z ≤ 9223372036854775807) : IntKind.i64.wrap z = z := IntWalk.i64_in z ⟨h1, h2⟩
theorem wru64 {z : Int} (h1 : 0 ≤ z) (h2 : z ≤ 18446744073709551615) : IntKind.u64.wrap z = z := by rw [IntKind.wrap_u64]; omega
theorem wru8 {z : Int} (h1 : 0 ≤ z) (h2 : z ≤ 255) : IntKind.u8.wrap z = z := by rw [IntKind.wrap_u8]; omega
theorem u64_mod (z : Int) (k : Nat) (hk : 0 < k) : ∃ m : Nat, m < k ∧ Int.tmod (IntKind.u64.wrap z) (k : Int) = (m : Int) := by
  have h0 : 0 ≤ IntKind.u64.wrap z := by rw [IntKind.wrap_u64]; omega
  have h1 := Int.emod_nonneg (IntKind.u64.wrap z) (show (k : Int) ≠ 0 by omega)
  have h2 := Int.emod_lt_of_pos (IntKind.u64.wrap z) (show (0 : Int) < (k : Int) by omega)
  exact ⟨(IntKind.u64.wrap z % (k : Int)).toNat, by omega, by rw [Int.tmod_eq_emod_of_nonneg h0]; omega⟩
theorem br_t {b : Bool} {A B : Prop} (hb : b = true) (h : A) : br b A B := by rw [br_true hb]; exact h
theorem br_f {b : Bool} {A B : Prop} (hb : b = false) (h : B) : br b A B := by rw [br_false hb]; exact h
theorem br_y {p : Prop} [Decidable p] {A B : Prop} (hp : p) (h : A) : br (decide p) A B := br_t (decide_eq_true hp) h
theorem br_n {p : Prop} [Decidable p] {A B : Prop} (hp : ¬ p) (h : B) : br (decide p) A B := br_f (decide_eq_false hp) h
theorem br_not {b : Bool} {A B : Prop} (h : br b B A) : br (!b) A B := by cases b <;> exact h
/-- A new block. -/
theorem newO_mk {w : World} {o : Obj} {K : Nat → World → Prop} (h : K w.heap.size (w.alloc o)) : newO w o K := by rintro g w1 rfl rfl; exact h
theorem newO_in {w : World} {o : Obj} {K : Nat → World → Prop} (h : ∀ w1, w1.heap[w.heap.size]? = some o → Below w.heap.size w w1 → w1.heap.size = w.heap.size + 1 → K w.heap.size w1) : newO w o K := by
  rintro g w1 rfl rfl; exact h _ (al_new rfl) (Below_one o) (by simp)
theorem drewO_in {w : World} {K : World → Prop} (h : ∀ w1, Below w.heap.size w w1 → w1.heap = w.heap → K w1) : drewO w K := fun w1 h1 h2 => h w1 h2 h1
theorem cellsAt_row {w : World} {g : Nat} {cs : Array Value} {t : TypeId} {fr : Nat × Nat} (h : w.heap[g]? = some (.cells cs t fr)) {off : Nat} {vs : List Value} (hv : (cs.toList.drop off).take vs.length = vs) : cellsAt w g off vs :=
  cellsAt_of fun j v hj => by
    rw [cell_of_row _ _ _ _ _ _ h]
    rw [← hv, List.getElem?_take] at hj
    split at hj
    · rw [List.getElem?_drop] at hj; simpa using hj
    · cases hj
theorem row_of_block {w : World} {g : Nat} {bs : List UInt8} {t : TypeId} {fr : Nat × Nat} (h : w.heap[g]? = some (.cells (bs.map bV).toArray t fr)) : RowAt w (some ⟨g, 0, none⟩) (bs.map bV) := RowAt.ofWhole h
/-- A block's cells, as what is appended. -/
theorem src_block {P : Program} {W : World} {tx e' : TypeId} (hk : P.underlying tx = some (.slice e')) {g n c size : Nat} {cs : List Value} {t : TypeId} {fr : Nat × Nat} (h : W.heap[g]? = some (.cells cs.toArray t fr)) (hl : cs.length = n * size) (h1 : allOne cs = true) :
    Src P size tx (.slice (some ⟨g, 0, none⟩) n c) n cs W :=
  Src.ofSlice _ hk _ n c _ hl (fun j u hj => by
    rw [Addr.add_lit, Nat.zero_add, cell_of_row _ _ _ _ _ _ h]
    simpa using hj) (allOne_spec h1)
theorem own_cell {w : World} {b : Nat} {e : TypeId} {a : Option Addr} {n c : Nat} {xs : List Value} (h : Own w b e 1 (.slice a n c) n xs) {i : Nat} {v : Value} (hi : xs[i]? = some v) : ∃ g off, a = some ⟨g, off, none⟩ ∧ w.cell? ⟨g, off + i * 1, none⟩ = some v := by
  have hlt : i < xs.length := (List.getElem?_eq_some_iff.1 hi).1
  have hl := h.1
  rcases h.2 with ⟨h0, h1⟩ | ⟨g, off, cap, cur, hv, _⟩
  · omega
  · injection hv with h1 h2 h3
    subst h1
    exact ⟨g, off, rfl, by rw [Nat.mul_one]; exact h.cells g off _ rfl i v hi⟩
theorem Bk.there {w : World} {g : Nat} {cs : Array Value} {t : TypeId} (h : Bk w g cs t) {i n : Nat} (hi : i + n ≤ cs.size) : w.there g i n := fun j hj => by
  refine ⟨?_, h.frozen _⟩
  rw [h.cell]
  rw [Array.getElem?_eq_getElem (by omega)]
  rfl
theorem stO_bk {gs : List Nat} {w : World} {g i : Nat} {cs : Array Value} {t : TypeId} {v : Value} {K : World → Prop} (h : Bk w g cs t) (hi : i < cs.size) (hg : ∀ x ∈ gs, x ≠ g) (hk : ∀ w1, Bk w1 g (cs.setIfInBounds i v) t → Fr [g] w w1 → w1.heap.size = w.heap.size → K w1) : stO gs w g i [v] K :=
  ⟨hg, h.there (by simp; omega), fun w1 e => by
    subst e
    exact hk _ (h.setCell i v) ((Fr.refl [g] w).setCell (p := ⟨g, i, none⟩) (.inl (by simp)) v) (by simp [World.setCells, World.setCell])⟩
theorem stO_set {gs : List Nat} {w : World} {g i : Nat} {cs : Array Value} {t : TypeId} {v : Value} {K : World → Prop} (h : Bk w g cs t) (hi : i < cs.size) (hg : ∀ x ∈ gs, x ≠ g) (hk : K (w.setCell ⟨g, i, none⟩ v)) : stO gs w g i [v] K :=
  ⟨hg, h.there (by simp; omega), fun w1 e => by subst e; exact hk⟩
theorem sliceBase_cell {w : World} {b off c l s j : Nat} {v : Value} (hlt : l ≠ c) (h : w.cell? ⟨b, off + l * s + j, none⟩ = some v) : ∃ b' off', sliceBase (some ⟨b, off, none⟩) c l s = some ⟨b', off', none⟩ ∧ w.cell? ⟨b', off' + j, none⟩ = some v := by
  refine ⟨b, off + l * s, ?_, h⟩
  unfold sliceBase
  rw [if_neg (fun e => hlt e.symm)]
  simp [Addr.add_lit]
theorem own_empty {w : World} {g : Nat} {e : TypeId} (s : Nat) (h : w.heap[g]? = some (.cells #[] e (0, 0))) : Own w 0 e s (.slice (some ⟨g, 0, none⟩) 0 0) 0 [] :=
  ⟨by simp, .inr ⟨g, 0, 0, #[], rfl, Nat.zero_le _, h, Nat.le_refl _, Nat.zero_le _, by simp, by simp⟩⟩
theorem Own.store {w : World} {b : Nat} {e : TypeId} {a : Option Addr} {n c : Nat} {xs : List Value} (h : Own w b e 1 (.slice a n c) n xs) {i : Nat} (hi : i < n) {gs : List Nat} {v : Value} {K : World → Prop} (hgs : ∀ k, (Value.slice a n c).ownBlock = some k → ∀ x ∈ gs, x ≠ k)
    (hk : ∀ w1, Own w1 b e 1 (.slice a n c) n (xs.set i v) → Fr (Value.slice a n c).ownBlock.toList w w1 → w1.heap.size = w.heap.size → K w1) : ∃ g off, a = some ⟨g, off, none⟩ ∧ stO gs w g (off + i * 1) [v] K := by
  rcases h.2 with ⟨h0, h1⟩ | ⟨g, off, cap, cur, hv, hb, hg, hn, hm, hs, ht⟩
  · omega
  · injection hv with h1 h2 h3
    subst h1; subst h3
    have hB : Bk w g cur e := hg
    refine ⟨g, off, rfl, ?_⟩
    rw [Nat.mul_one]
    refine stO_bk hB (by omega) (fun x hx => hgs g rfl x hx) fun w1 hb1 hf hsz => ?_
    refine hk w1 ⟨by rw [List.length_set]; exact h.1, .inr ⟨g, off, c, _, rfl, hb, hb1, hn, hm, by simpa using hs, ?_⟩⟩ hf hsz
    rw [← ht, Array.toList_setIfInBounds, List.drop_set]
    rw [if_neg (by omega), show off + i - off = i by omega, List.take_set]
theorem Own.storeAt {w : World} {b : Nat} {e : TypeId} {g off n c : Nat} {xs : List Value} (h : Own w b e 1 (.slice (some ⟨g, off, none⟩) n c) n xs) {i : Nat} (hi : i < n) {gs : List Nat} {v : Value} {K : World → Prop} (hgs : ∀ x ∈ gs, x ≠ g)
    (hk : ∀ w1, Own w1 b e 1 (.slice (some ⟨g, off, none⟩) n c) n (xs.set i v) → Fr [g] w w1 → w1.heap.size = w.heap.size → K w1) : stO gs w g (off + i * 1) [v] K := by
  obtain ⟨g', off', he, hst⟩ := Own.store (K := K) (v := v) h hi (fun k hk x hx => by injection hk with hk; subst hk; exact hgs x hx) hk
  injection he with he
  injection he with e1 e2
  subst e1; subst e2
  exact hst
/-- One byte more or other. -/
theorem bits_byte (op : BinOp) (x y : Int) : ∃ b : UInt8, bitsV op .u8 x y = (b.toNat : Int) := by
  have key : ∀ z : Int, ∃ b : UInt8, IntKind.u8.wrap z = (b.toNat : Int) := fun z => by
    have h : 0 ≤ IntKind.u8.wrap z ∧ IntKind.u8.wrap z < 256 := by rw [IntKind.wrap_u8]; omega
    refine ⟨UInt8.ofNat (IntKind.u8.wrap z).toNat, ?_⟩
    rw [show (UInt8.ofNat (IntKind.u8.wrap z).toNat).toNat = (IntKind.u8.wrap z).toNat % 256 from rfl, Nat.mod_eq_of_lt (by omega)]
    omega
  unfold bitsV
  cases op <;> exact key _
theorem strOf_cat (xs ys : List UInt8) : strOf xs ++ strOf ys = strOf (xs ++ ys) := by
  apply ByteArray.ext
  simp [strOf, ByteArray.data_append]
theorem strOf_extract (xs : List UInt8) (i j : Nat) : (strOf xs).extract i j = strOf ((xs.drop i).take (j - i)) := by
  apply ByteArray.ext
  simp [strOf, ByteArray.data_extract, List.take_drop]
theorem byteAt_strOf (xs : List UInt8) (i : Nat) : byteAt (strOf xs) (i : Int) = ((xs.getD i 0).toNat : Int) := by unfold byteAt; rw [strOf_list]; rfl
end Go.Proofs.Ytpfmadinijofeaa
end
section
/- Slices of structs that came in: their elements, one behind the other. No program in sight. -/
namespace Go.Proofs.Ytpfmadinijofeaa
open Go.RowKit Go.WideShapes Go.ChangeShapes
/-- Elements of n cells each, of which R tells where they lie. -/
def RowsAt {α : Type} (R : World → Nat → Nat → α → Prop) (n : Nat) (w : World) (a : Option Addr) (xs : List α) : Prop := xs = [] ∨ ∃ b off, a = some ⟨b, off, none⟩ ∧ ∀ i x, xs[i]? = some x → R w b (off + i * n) x
theorem RowsAt.mono {α : Type} {R : World → Nat → Nat → α → Prop} {n : Nat} {w w' : World} {a : Option Addr} {xs : List α} (h : RowsAt R n w a xs) (hm : ∀ b off x, R w b off x → R w' b off x) : RowsAt R n w' a xs := by
  rcases h with h | ⟨b, off, ha, h⟩
  · exact .inl h
  · exact .inr ⟨b, off, ha, fun i x hx => hm _ _ _ (h i x hx)⟩
theorem RowsAt.get {α : Type} {R : World → Nat → Nat → α → Prop} {n : Nat} {w : World} {a : Option Addr} {xs : List α} (h : RowsAt R n w a xs) {i : Nat} (hi : i < xs.length) : ∃ b off, a = some ⟨b, off, none⟩ ∧ R w b (off + i * n) xs[i] := by
  rcases h with rfl | ⟨b, off, ha, h⟩
  · simp at hi
  · exact ⟨b, off, ha, h i _ (List.getElem?_eq_getElem hi)⟩
theorem has_rows {α : Type} {e : Sh} {n : Nat} (hn : 0 < n) {R : World → Nat → Nat → α → Prop} {w : World} (elem : ∀ (cs' : List Value) (b off : Nat), cs'.length = n → cellsAt w b off cs' → e.Has w cs' → ∃ x, R w b off x) {cs : List Value} (h : (Sh.slice e n).Has w cs) :
    ∃ (xs : List α) (a : Option Addr) (c : Nat), cs = [.slice a xs.length c] ∧ xs.length ≤ c ∧ c ≤ maxLen ∧ RowsAt R n w a xs := by
  rcases h with rfl | ⟨a, len, cap, rfl, hl, hm, hall⟩
  · exact ⟨[], none, 0, rfl, Nat.le_refl _, by decide, .inl rfl⟩
  · obtain ⟨xs, hz, hp⟩ := exists_list (p := fun i (x : α) => R w a.block (a.off + i * n) x ∧ a = ⟨a.block, a.off, none⟩) len (fun i hi => by
      obtain ⟨cs0, ⟨h01, h02⟩, _⟩ := hall 0 (by omega)
      have ha : a = ⟨a.block, a.off, none⟩ := by
        have := h02 0 (by omega)
        rw [List.getElem?_eq_getElem (by omega)] at this
        simp only [Nat.zero_mul, Nat.zero_add] at this
        exact addr_plain this
      obtain ⟨cs', ⟨h1, h2⟩, h3⟩ := hall i hi
      obtain ⟨x, hx⟩ := elem cs' a.block (a.off + i * n) h1 (cellsAt_of fun j v hj => by
        have hjn : j < n := by have := (List.getElem?_eq_some_iff.1 hj).1; omega
        have := h2 j hjn
        rw [ha, Addr.add_lit, ← Nat.add_assoc, hj] at this
        exact this) h3
      exact ⟨x, hx, ha⟩)
    refine ⟨xs, some a, cap, by rw [hz], by omega, hm, ?_⟩
    by_cases h0 : xs = []
    · exact .inl h0
    · have h1 : 0 < xs.length := List.length_pos_iff.2 h0
      have ha := (hp 0 _ (List.getElem?_eq_getElem h1)).2
      exact .inr ⟨a.block, a.off, by rw [← ha], fun i p hi => (hp i p hi).1⟩
theorem cellsAt_below {w w' : World} {b off : Nat} {vs : List Value} (h : cellsAt w b off vs) {B : Nat} (hb : Below B w w') (hB : w.heap.size ≤ B) : cellsAt w' b off vs :=
  cellsAt_of fun j v hj => by
    have h1 := cellsAt_get h j v hj
    exact (hb.cell (p := ⟨b, off + j, none⟩) (Nat.lt_of_lt_of_le (block_lt_of_cell h1) hB)).trans h1
theorem open_rows {P : Program} {α : Type} {e : Sh} {n : Nat} {R : World → Nat → Nat → α → Prop} {H : Type} {enc : TypeId × Value → H} {W : World} {t : TypeId} {v : Value} {d : DataW H} {p : List MemPlace} (hn : 0 < n) (elem : ∀ (cs' : List Value) (b off : Nat), cs'.length = n → cellsAt W b off cs' → e.Has W cs' → ∃ x, R W b off x)
    (hf : fitsB P (.slice e n) t = true) (hv : ∃ a l c, v = .slice a l c) (h : DataW.Trod enc P W 0 (fun _ => true) true t v d p) : ∃ (xs : List α) (a : Option Addr) (c : Nat), v = .slice a xs.length c ∧ RowsAt R n W a xs ∧ xs.length ≤ c ∧ c ≤ maxLen := by
  obtain ⟨a, l, c, rfl⟩ := hv
  obtain ⟨xs, a', c', h1, h2, h3, h4⟩ := has_rows hn elem (open_sh hf h)
  simp [Value.cells] at h1
  obtain ⟨rfl, rfl, rfl⟩ := h1
  exact ⟨xs, a, c, rfl, h4, h2, h3⟩
end Go.Proofs.Ytpfmadinijofeaa
end
section
/- An object with a list of its own: each element so many cells, what an element refers to in blocks that the object owns. No program in sight. -/
namespace Go.Proofs.Ytpfmadinijofeaa
open Go.RowKit
theorem cell_keep {w w' : World} {b : Nat} (hk : w'.heap[b]? = w.heap[b]?) (o : Nat) : w'.cell? ⟨b, o, none⟩ = w.cell? ⟨b, o, none⟩ := by unfold World.cell?; simp only [hk]
theorem cellsAt_keep {w w' : World} {b : Nat} (hk : w'.heap[b]? = w.heap[b]?) : ∀ {vs : List Value} {off : Nat}, cellsAt w b off vs → cellsAt w' b off vs
  | [], _, _ => trivial
  | _ :: _, _, h => ⟨(cell_keep hk _).trans h.1, cellsAt_keep hk h.2⟩
theorem cellsAt_list {w : World} {b : Nat} : ∀ {vs : List Value} {off : Nat}, (∀ j v, vs[j]? = some v → w.cell? ⟨b, off + j, none⟩ = some v) → cellsAt w b off vs
  | [], _, _ => trivial
  | v :: r, off, h => ⟨by simpa using h 0 v rfl, cellsAt_list fun j u hu => by have := h (j + 1) u (by simpa using hu); rwa [show off + (j + 1) = off + 1 + j by omega] at this⟩
structure RStable {α : Type} (R : World → List Nat → α → List Value → Prop) (k : Nat) : Prop where
  len : ∀ {w : World} {M : List Nat} {e : α} {cs : List Value}, R w M e cs → cs.length = k
  keep : ∀ {w w' : World} {M : List Nat} {e : α} {cs : List Value}, R w M e cs → (∀ b ∈ M, w'.heap[b]? = w.heap[b]?) → R w' M e cs
  mono : ∀ {w : World} {M K : List Nat} {e : α} {cs : List Value}, R w M e cs → (∀ b ∈ M, b ∈ K) → R w K e cs
def ElsOk {α : Type} (R : World → List Nat → α → List Value → Prop) (k : Nat) (w : World) (M : List Nat) (es : List α) (xs : List Value) : Prop :=
  xs.length = es.length * k ∧ ∀ (i : Nat) (e : α), es[i]? = some e → R w M e ((xs.drop (i * k)).take k)
section
variable {α : Type} {R : World → List Nat → α → List Value → Prop} {k : Nat} {w w' : World} {M K : List Nat} {es : List α} {xs : List Value}
theorem ElsOk.nil : ElsOk R k w M [] [] := ⟨by simp, fun i e h => by cases h⟩
theorem ElsOk.keep (hR : RStable R k) (h : ElsOk R k w M es xs) (hk : ∀ b ∈ M, w'.heap[b]? = w.heap[b]?) : ElsOk R k w' M es xs := ⟨h.1, fun i e he => hR.keep (h.2 i e he) hk⟩
theorem ElsOk.mono (hR : RStable R k) (h : ElsOk R k w M es xs) (hs : ∀ b ∈ M, b ∈ K) : ElsOk R k w K es xs := ⟨h.1, fun i e he => hR.mono (h.2 i e he) hs⟩
theorem ElsOk.app (hR : RStable R k) (h : ElsOk R k w M es xs) {e : α} {cs : List Value} (he : R w M e cs) : ElsOk R k w M (es ++ [e]) (xs ++ cs) := by
  have hc := hR.len he
  refine ⟨by rw [List.length_append, List.length_append, h.1, hc, List.length_singleton, Nat.add_mul, Nat.one_mul], fun i x hx => ?_⟩
  by_cases hi : i < es.length
  · rw [List.getElem?_append_left hi] at hx
    have := h.2 i x hx
    have hm : i * k + k ≤ xs.length := by
      rw [h.1]
      have := Nat.mul_le_mul_right k (show i + 1 ≤ es.length from hi)
      rw [Nat.add_mul, Nat.one_mul] at this
      exact this
    rwa [List.drop_append_of_le_length (by omega), List.take_append_of_le_length (by rw [List.length_drop]; omega)]
  · have hlt := (List.getElem?_eq_some_iff.1 hx).1
    rw [List.length_append, List.length_singleton] at hlt
    obtain rfl : i = es.length := by omega
    rw [List.getElem?_append_right (Nat.le_refl _), Nat.sub_self] at hx
    injection hx with hx; subst hx
    rw [← h.1, List.drop_left, List.take_of_length_le (by omega)]
    exact he
theorem ElsOk.erase (h : ElsOk R k w M es xs) {i : Nat} (hi : i < es.length) : ElsOk R k w M (es.eraseIdx i) (xs.take (i * k) ++ xs.drop ((i + 1) * k)) := by
  have e1 : (i + 1) * k = i * k + k := by rw [Nat.add_mul, Nat.one_mul]
  have e2 : (es.length - 1) * k + k = es.length * k := by
    rw [← Nat.add_one_mul]; congr 1; omega
  have hm : i * k + k ≤ xs.length := by
    rw [h.1]
    have := Nat.mul_le_mul_right k (show i + 1 ≤ es.length from hi)
    omega
  have hxl := h.1
  refine ⟨by rw [List.length_append, List.length_take, List.length_drop, List.length_eraseIdx_of_lt hi]; omega, fun j x hx => ?_⟩
  rw [List.getElem?_eraseIdx] at hx
  split at hx
  · rename_i hj
    have := h.2 j x hx
    have hjk : j * k + k ≤ i * k := by
      have := Nat.mul_le_mul_right k (show j + 1 ≤ i from hj)
      rw [Nat.add_mul, Nat.one_mul] at this; exact this
    rw [List.drop_append_of_le_length (by rw [List.length_take]; omega), List.take_append_of_le_length (by rw [List.length_drop, List.length_take]; omega), List.drop_take, List.take_take]
    rwa [Nat.min_eq_left (by omega)]
  · rename_i hj
    have := h.2 (j + 1) x hx
    have hjk : i * k ≤ j * k := Nat.mul_le_mul_right k (by omega)
    have e3 : (j + 1) * k = j * k + k := by rw [Nat.add_mul, Nat.one_mul]
    have hlt : (xs.take (i * k)).length = i * k := by rw [List.length_take]; omega
    rw [List.drop_append, hlt, List.drop_eq_nil_of_le (by omega), List.nil_append, List.drop_drop]
    rwa [show (i + 1) * k + (j * k - i * k) = (j + 1) * k by omega]
theorem ElsOk.cells (hR : RStable R k) (h : ElsOk R k w M es xs) {te : TypeId} {b0 c : Nat} {a : Option Addr} (hO : Own w b0 te k (.slice a es.length c) es.length xs) {i : Nat} {e : α} (he : es[i]? = some e) :
    ∃ cs, R w M e cs ∧ ∃ b off, a = some ⟨b, off, none⟩ ∧ (b0 ≤ b ∧ b < w.heap.size) ∧ cellsAt w b (off + i * k) cs := by
  have hr := h.2 i e he
  refine ⟨_, hr, ?_⟩
  have hlt := (List.getElem?_eq_some_iff.1 he).1
  rcases hO.2 with ⟨_, h0⟩ | ⟨g, off, cap, cur, hv, hb, hg, _⟩
  · omega
  · injection hv with q1 q2 q3
    subst q1
    refine ⟨g, off, rfl, ⟨hb, heap_lt hg⟩, cellsAt_list fun j v hv => ?_⟩
    rw [List.getElem?_take] at hv
    split at hv
    · rw [List.getElem?_drop] at hv
      rw [Nat.add_assoc]
      exact hO.cells g off c rfl _ v hv
    · cases hv
/-- The object under way: what it owns lies in L, or is new. -/
structure LRaw (R : World → List Nat → α → List Value → Prop) (k : Nat) (te tp : TypeId) (w : World) (L : List Nat) (n0 p : Nat) (f : Value → Array Value) (es : List α) (kv : Value) (xs : List Value) (M : List Nat) : Prop where
  bk : Bk w p (f kv) tp
  own : Own w 0 te k kv es.length xs
  els : ElsOk R k w M es xs
  far : ∀ b ∈ M, (b ∈ L ∨ n0 ≤ b) ∧ b ≠ p ∧ kv.ownBlock ≠ some b
  mine : ∀ b, kv.ownBlock = some b → b ∈ L ∨ n0 ≤ b
  under : Under M w.heap.size
variable {te tp : TypeId} {L : List Nat} {n0 p : Nat} {f : Value → Array Value} {kv : Value}
theorem own_apart {g : Nat} {cs : Array Value} {t e : TypeId} {size n b0 : Nat} {v : Value} {xs : List Value} (h1 : Bk w g cs t) (h2 : Own w b0 e size v n xs) (hne : t ≠ e) : v.ownBlock ≠ some g := by
  intro h
  rcases h2.2 with ⟨rfl, _⟩ | ⟨g', off, cap, cur, rfl, hb, hg, _⟩
  · cases h
  · simp [Value.ownBlock] at h
    subst h
    unfold Bk at h1
    rw [h1] at hg
    injection hg with hg
    injection hg with h3 h4 h5
    exact hne h4
theorem LRaw.keep (hR : RStable R k) (h : LRaw R k te tp w L n0 p f es kv xs M) (hk : ∀ b, (b = p ∨ kv.ownBlock = some b ∨ b ∈ M) → w'.heap[b]? = w.heap[b]?) (hs : w.heap.size ≤ w'.heap.size) : LRaw R k te tp w' L n0 p f es kv xs M :=
  ⟨h.bk.keep (hk p (.inl rfl)), h.own.keep fun b hb => hk b (.inr (.inl hb)), h.els.keep hR fun b hb => hk b (.inr (.inr hb)), h.far, h.mine, h.under.mono hs⟩
theorem LRaw.lt (h : LRaw R k te tp w L n0 p f es kv xs M) {b : Nat} (hb : b = p ∨ kv.ownBlock = some b ∨ b ∈ M) : b < w.heap.size := by
  rcases hb with rfl | hb | hb
  · exact h.bk.lt
  · exact (h.own.lt b hb).2
  · exact h.under b hb
theorem LRaw.below (hR : RStable R k) (h : LRaw R k te tp w L n0 p f es kv xs M) (hb : Below w.heap.size w w') : LRaw R k te tp w' L n0 p f es kv xs M := h.keep hR (fun b hb' => hb.block b (h.lt hb')) hb.size
theorem LRaw.more (hR : RStable R k) (h : LRaw R k te tp w L n0 p f es kv xs M) (B : List Nat) (hB : ∀ b ∈ B, (b ∈ L ∨ n0 ≤ b) ∧ b < w.heap.size ∧ b ≠ p ∧ kv.ownBlock ≠ some b) : LRaw R k te tp w L n0 p f es kv xs (M ++ B) :=
  ⟨h.bk, h.own, h.els.mono hR fun _ hk => List.mem_append_left _ hk, fun b hb => (List.mem_append.1 hb).elim (h.far b) fun hb => ⟨(hB b hb).1, (hB b hb).2.2⟩, h.mine, fun b hb => (List.mem_append.1 hb).elim (h.under b) fun hb => (hB b hb).2.1⟩
theorem LRaw.wider (h : LRaw R k te tp w L n0 p f es kv xs M) (hs : ∀ b ∈ L, b ∈ K) : LRaw R k te tp w K n0 p f es kv xs M :=
  ⟨h.bk, h.own, h.els, fun b hb => ⟨(h.far b hb).1.imp (hs b) id, (h.far b hb).2⟩, fun b hb => (h.mine b hb).imp (hs b) id, h.under⟩
/-- The list has turned, and is stored: appended to, cut, or new. -/
theorem LRaw.turn (hR : RStable R k) (hne : tp ≠ te) (h : LRaw R k te tp w L n0 p f es kv xs M) (hn : n0 ≤ w.heap.size) {es' : List α} {xs' : List Value} (he : ElsOk R k w M es' xs') {v1 : Value} (ho : Own w' 0 te k v1 es'.length xs') (hp : w'.heap[p]? = w.heap[p]?) (hM : ∀ b ∈ M, w'.heap[b]? = w.heap[b]?) (hs : w.heap.size ≤ w'.heap.size)
    (hn1 : v1.ownBlock = kv.ownBlock ∨ ∃ g, v1.ownBlock = some g ∧ w.heap.size ≤ g) {j : Nat} (hj : (f kv).setIfInBounds j v1 = f v1) : LRaw R k te tp (w'.setCell ⟨p, j, none⟩ v1) L n0 p f es' v1 xs' M := by
  have b1 := h.bk.keep hp
  have hk1 : ∀ b, b ≠ p → (w'.setCell ⟨p, j, none⟩ v1).heap[b]? = w'.heap[b]? := fun b hb => Below.heap_setCell _ _ _ _ hb
  have hfar : ∀ b ∈ M, v1.ownBlock ≠ some b := fun b hb e => by
    rcases hn1 with h1 | ⟨g, h1, hg1⟩
    · exact (h.far b hb).2.2 (h1 ▸ e)
    · rw [h1] at e; injection e with e; have := h.under b hb; omega
  refine ⟨hj ▸ b1.setCell j v1, ho.keep fun b hb => hk1 b fun e2 => own_apart b1 ho hne (e2 ▸ hb), (he.keep hR hM).keep hR fun b hb => hk1 b (h.far b hb).2.1, fun b hb => ⟨(h.far b hb).1, (h.far b hb).2.1, hfar b hb⟩, fun b hb => ?_, (h.under.mono hs).mono (by simp)⟩
  rcases hn1 with h1 | ⟨g, h1, hg1⟩
  · exact h.mine b (h1 ▸ hb)
  · rw [h1] at hb; injection hb with hb; exact .inr (by omega)
/-- Another cell of the object is stored. -/
theorem LRaw.cell (hR : RStable R k) (hne : tp ≠ te) (h : LRaw R k te tp w L n0 p f es kv xs M) {j : Nat} {v : Value} {f' : Value → Array Value} (hj : (f kv).setIfInBounds j v = f' kv) : LRaw R k te tp (w.setCell ⟨p, j, none⟩ v) L n0 p f' es kv xs M := by
  have hk1 : ∀ b, b ≠ p → (w.setCell ⟨p, j, none⟩ v).heap[b]? = w.heap[b]? := fun b hb => Below.heap_setCell _ _ _ _ hb
  exact ⟨hj ▸ h.bk.setCell j v, h.own.keep fun b hb => hk1 b fun e2 => own_apart h.bk h.own hne (e2 ▸ hb), h.els.keep hR fun b hb => hk1 b (h.far b hb).2.1, h.far, h.mine, h.under.mono (by simp)⟩
/-- The object, with all that it owns. -/
structure LAt (R : World → List Nat → α → List Value → Prop) (k : Nat) (te tp : TypeId) (w : World) (L : List Nat) (p : Nat) (f : Value → Array Value) (es : List α) : Prop where
  ex : ∃ kv xs M, Bk w p (f kv) tp ∧ Own w 0 te k kv es.length xs ∧ ElsOk R k w M es xs ∧ (∀ b ∈ M, b ∈ L ∧ b ≠ p ∧ kv.ownBlock ≠ some b) ∧ ∀ b, kv.ownBlock = some b → b ∈ L
  mem : p ∈ L
  under : Under L w.heap.size
theorem LAt.raw (h : LAt R k te tp w L p f es) (n0 : Nat) : ∃ kv xs M, LRaw R k te tp w L n0 p f es kv xs M := by
  obtain ⟨⟨kv, xs, M, h1, h2, h3, h4, h5⟩, hm, hu⟩ := h
  exact ⟨kv, xs, M, h1, h2, h3, fun b hb => ⟨.inl (h4 b hb).1, (h4 b hb).2⟩, fun b hb => .inl (h5 b hb), fun b hb => hu b (h4 b hb).1⟩
theorem LRaw.at (h : LRaw R k te tp w L n0 p f es kv xs M) (hp : p ∈ L) : ∃ L', LAt R k te tp w L' p f es ∧ Gr L L' n0 := by
  refine ⟨p :: (kv.ownBlock.toList ++ M), ⟨⟨kv, xs, M, h.bk, h.own, h.els, fun b hb => ⟨by simp [hb], (h.far b hb).2⟩, fun b hb => by simp [hb]⟩, by simp, fun b hb => ?_⟩, fun b hb => ?_⟩
  · rcases List.mem_cons.1 hb with rfl | hb
    · exact h.bk.lt
    · rcases List.mem_append.1 hb with hb | hb
      · exact (h.own.lt b (by simpa using hb)).2
      · exact h.under b hb
  · rcases List.mem_cons.1 hb with rfl | hb
    · exact .inl hp
    · rcases List.mem_append.1 hb with hb | hb
      · exact h.mine b (by simpa using hb)
      · exact (h.far b hb).1
theorem LAt.keep (hR : RStable R k) (h : LAt R k te tp w L p f es) (hk : ∀ b ∈ L, w'.heap[b]? = w.heap[b]?) (hs : w.heap.size ≤ w'.heap.size) : LAt R k te tp w' L p f es := by
  obtain ⟨⟨kv, xs, M, h1, h2, h3, h4, h5⟩, hm, hu⟩ := h
  exact ⟨⟨kv, xs, M, h1.keep (hk p hm), h2.keep (fun b e => hk b (h5 b e)), h3.keep hR (fun b e => hk b (h4 b e).1), h4, h5⟩, hm, hu.mono hs⟩
theorem LAt.fr (hR : RStable R k) (h : LAt R k te tp w L p f es) (hf : Fr K w w') (ha : Apart L K) : LAt R k te tp w' L p f es := h.keep hR (hf.keep ha h.under) hf.size
theorem LAt.below (hR : RStable R k) (h : LAt R k te tp w L p f es) (hb : Below w.heap.size w w') : LAt R k te tp w' L p f es := h.keep hR (fun b hk => hb.block b (h.under b hk)) hb.size
end
end Go.Proofs.Ytpfmadinijofeaa
end
section
/- One element less: what 'slices.Delete' does to a list that is owned. No program in sight. -/
namespace Go.Proofs.Ytpfmadinijofeaa
open Go.RowKit
variable {P : Program} {w : World} {b : Nat} {e : TypeId} {k : Nat} {xs : List Value}
theorem Own.pre {a : Option Addr} {n c i : Nat} (h : Own w b e k (.slice a n c) n xs) (hi : i ≤ n) : Own w b e k (.slice a i c) i (xs.take (i * k)) := by
  obtain ⟨hl, h⟩ := h
  have hm : i * k ≤ n * k := Nat.mul_le_mul_right k hi
  refine ⟨by rw [List.length_take]; omega, ?_⟩
  rcases h with ⟨h0, h1⟩ | ⟨g, off, cap, cur, hv, hb, hg, hn, hm2, hs, ht⟩
  · injection h0 with q1 q2 q3
    subst q1; subst q3
    obtain rfl : i = 0 := by omega
    exact .inl ⟨rfl, rfl⟩
  · injection hv with q1 q2 q3
    subst q1; subst q3
    refine .inr ⟨g, off, c, cur, rfl, hb, hg, by omega, hm2, hs, ?_⟩
    rw [← ht, List.take_take, Nat.min_eq_left hm]
theorem own_somewhere {a : Option Addr} {n c : Nat} (h : Own w b e k (.slice a n c) n xs) (hn : 0 < n) : ∃ g off, a = some ⟨g, off, none⟩ ∧ n ≤ c := by
  rcases h.2 with ⟨_, h0⟩ | ⟨g, off, cap, cur, hv, _, _, hc, _⟩
  · omega
  · injection hv with q1 q2 q3
    subst q1; subst q3
    exact ⟨g, off, rfl, hc⟩
theorem Own.tail {a : Option Addr} {n c i : Nat} (h : Own w b e k (.slice a n c) n xs) (hi : i < n) {tx e' : TypeId} (hk : P.underlying tx = some (.slice e')) (h1 : ∀ v ∈ xs, v.oneCell' = true) :
    Src P k tx (.slice (sliceBase a c (i + 1) k) (n - (i + 1)) (c - (i + 1))) (n - (i + 1)) (xs.drop ((i + 1) * k)) w := by
  obtain ⟨g, off, rfl, hc⟩ := own_somewhere h (by omega)
  have hx := h.1
  have e1 : (n - (i + 1)) * k + (i + 1) * k = n * k := by rw [← Nat.add_mul]; congr 1; omega
  have hl : (xs.drop ((i + 1) * k)).length = (n - (i + 1)) * k := by rw [List.length_drop]; omega
  have h1' : ∀ v ∈ xs.drop ((i + 1) * k), v.oneCell' = true := fun v hv => h1 v (List.mem_of_mem_drop hv)
  unfold sliceBase
  split
  · rename_i hce
    have h0 : n - (i + 1) = 0 := by omega
    have hd : xs.drop ((i + 1) * k) = [] := List.eq_nil_of_length_eq_zero (by rw [hl, h0, Nat.zero_mul])
    rw [hd] at hl h1' ⊢
    exact Src.ofSlice w hk _ _ _ _ hl (fun j u hu => by cases hu) h1'
  · refine Src.ofSlice w hk _ _ _ _ hl (fun j u hu => ?_) h1'
    rw [List.getElem?_drop] at hu
    have := h.cells g off c rfl _ u hu
    show w.cell? (((⟨g, off, none⟩ : Addr).add ((i + 1) * k)).add j) = some u
    rw [Addr.add_lit, Addr.add_lit, Nat.add_assoc]
    exact this
theorem own_beyond1 {g off n c j : Nat} (h : Own w b e k (.slice (some ⟨g, off, none⟩) n c) n xs) (hj : n * k ≤ j) (hc : j < c * k) (v : Value) :
    (w.cell? ⟨g, off + j, none⟩).isSome = true ∧ w.frozen? ⟨g, off + j, none⟩ = false ∧ Own (w.setCell ⟨g, off + j, none⟩ v) b e k (.slice (some ⟨g, off, none⟩) n c) n xs := by
  obtain ⟨hl, h⟩ := h
  rcases h with ⟨h0, h1⟩ | ⟨g', off', cap, cur, hv, hb, hg, hn, hm2, hs, ht⟩
  · cases h0
  · injection hv with q1 q2 q3
    injection q1 with q1
    injection q1 with q1 q4
    subst q1; subst q3; subst q4
    have hB : Bk w g cur e := hg
    refine ⟨?_, hB.frozen _, hl, .inr ⟨g, off, c, _, rfl, hb, hB.setCell (off + j) v, hn, hm2, by simpa using hs, ?_⟩⟩
    · rw [hB.cell, Array.getElem?_eq_getElem (by omega)]; rfl
    · rw [← ht, Array.toList_setIfInBounds, List.drop_set]
      rw [if_neg (by omega), show off + j - off = j by omega, List.take_set, List.set_eq_of_length_le (by rw [List.length_take]; omega)]
theorem own_beyond {g off n c : Nat} : ∀ (vs : List Value) (j : Nat) (w : World), Own w b e k (.slice (some ⟨g, off, none⟩) n c) n xs → n * k ≤ j → j + vs.length ≤ c * k →
    w.there g (off + j) vs.length ∧ Own (w.setCells g (off + j) vs) b e k (.slice (some ⟨g, off, none⟩) n c) n xs ∧ Fr [g] w (w.setCells g (off + j) vs) ∧ (w.setCells g (off + j) vs).heap.size = w.heap.size
  | [], j, w, h, _, _ => ⟨fun i hi => by simp at hi, h, Fr.refl _ _, rfl⟩
  | v :: r, j, w, h, hj, hc => by
    rw [List.length_cons] at hc
    obtain ⟨h1, h2, h3⟩ := own_beyond1 h hj (by omega) v
    obtain ⟨k1, k2, k3, k4⟩ := own_beyond r (j + 1) _ h3 (by omega) (by omega)
    rw [← Nat.add_assoc] at k1 k2 k3 k4
    refine ⟨fun i hi => ?_, k2, ((Fr.refl [g] w).setCell (p := ⟨g, off + j, none⟩) (.inl (by simp)) v).trans k3 (Gr.refl _ _), k4.trans (by simp)⟩
    rw [List.length_cons] at hi
    refine ⟨?_, ?_⟩
    · obtain ⟨a1, a2, _⟩ := own_beyond1 h (j := j + i) (by omega) (by omega) v
      rw [Nat.add_assoc]; exact a1
    · obtain ⟨a1, a2, _⟩ := own_beyond1 h (j := j + i) (by omega) (by omega) v
      rw [Nat.add_assoc]; exact a2
theorem els_one {α : Type} {R : World → List Nat → α → List Value → Prop} {M : List Nat} {es : List α} (h : ElsOk R k w M es xs) (hR : ∀ w M e cs, R w M e cs → ∀ v ∈ cs, v.oneCell' = true) : ∀ v ∈ xs, v.oneCell' = true := by
  intro v hv
  obtain ⟨j, hj⟩ := List.getElem?_of_mem hv
  have hlt := (List.getElem?_eq_some_iff.1 hj).1
  have hl := h.1
  have hk : 0 < k := by
    rcases Nat.eq_zero_or_pos k with h0 | h0
    · subst h0; omega
    · exact h0
  have hi : j / k < es.length := Nat.div_lt_of_lt_mul (by rw [Nat.mul_comm]; omega)
  have := h.2 _ _ (List.getElem?_eq_getElem hi)
  refine hR _ _ _ _ this v ?_
  have hm : j = j / k * k + j % k := by rw [Nat.mul_comm]; exact (Nat.div_add_mod j k).symm
  have hmod := Nat.mod_lt j hk
  refine List.mem_iff_getElem?.2 ⟨j % k, ?_⟩
  rw [List.getElem?_take, if_pos hmod, List.getElem?_drop, ← hm]
  exact hj
end Go.Proofs.Ytpfmadinijofeaa
end
section
/- One element of an owned list is written over. No program in sight. -/
namespace Go.Proofs.Ytpfmadinijofeaa
open Go.RowKit
variable {w : World} {b : Nat} {e : TypeId} {k : Nat} {xs : List Value}
def setL : List Value → Nat → List Value → List Value
  | xs, _, [] => xs
  | xs, j, v :: r => setL (xs.set j v) (j + 1) r
theorem setL_len : ∀ (vs : List Value) (xs : List Value) (j : Nat), (setL xs j vs).length = xs.length
  | [], _, _ => rfl
  | v :: r, xs, j => by rw [setL, setL_len r, List.length_set]
theorem setL_get : ∀ (vs : List Value) (xs : List Value) (j i : Nat), j + vs.length ≤ xs.length → (setL xs j vs)[i]? = if j ≤ i ∧ i < j + vs.length then vs[i - j]? else xs[i]?
  | [], xs, j, i, _ => by rw [setL, if_neg (by simp only [List.length_nil]; omega)]
  | v :: r, xs, j, i, h => by
    rw [List.length_cons] at h
    rw [setL, setL_get r (xs.set j v) (j + 1) i (by rw [List.length_set]; omega), List.length_cons]
    by_cases h1 : i = j
    · subst h1
      rw [if_neg (by omega), if_pos (by omega), Nat.sub_self, List.getElem?_set_self (by omega)]
      rfl
    · by_cases h2 : j + 1 ≤ i ∧ i < j + 1 + r.length
      · rw [if_pos h2, if_pos (by omega), show i - j = (i - (j + 1)) + 1 by omega, List.getElem?_cons_succ]
      · rw [if_neg h2, if_neg (by omega), List.getElem?_set_ne (by omega)]
theorem own_in1 {g off n c j : Nat} (h : Own w b e k (.slice (some ⟨g, off, none⟩) n c) n xs) (hj : j < n * k) (v : Value) :
    (w.cell? ⟨g, off + j, none⟩).isSome = true ∧ w.frozen? ⟨g, off + j, none⟩ = false ∧ Own (w.setCell ⟨g, off + j, none⟩ v) b e k (.slice (some ⟨g, off, none⟩) n c) n (xs.set j v) := by
  obtain ⟨hl, h⟩ := h
  rcases h with ⟨h0, h1⟩ | ⟨g', off', cap, cur, hv, hb, hg, hn, hm2, hs, ht⟩
  · cases h0
  · injection hv with q1 q2 q3
    injection q1 with q1
    injection q1 with q1 q4
    subst q1; subst q3; subst q4
    have hB : Bk w g cur e := hg
    have hm : n * k ≤ c * k := Nat.mul_le_mul_right k hn
    refine ⟨?_, hB.frozen _, by rw [List.length_set]; exact hl, .inr ⟨g, off, c, _, rfl, hb, hB.setCell (off + j) v, hn, hm2, by simpa using hs, ?_⟩⟩
    · rw [hB.cell, Array.getElem?_eq_getElem (by omega)]; rfl
    · rw [← ht, Array.toList_setIfInBounds, List.drop_set]
      rw [if_neg (by omega), show off + j - off = j by omega, List.take_set]
theorem own_setL {g off n c : Nat} : ∀ (vs : List Value) (j : Nat) (w : World) (xs : List Value), Own w b e k (.slice (some ⟨g, off, none⟩) n c) n xs → j + vs.length ≤ n * k →
    w.there g (off + j) vs.length ∧ Own (w.setCells g (off + j) vs) b e k (.slice (some ⟨g, off, none⟩) n c) n (setL xs j vs) ∧ Fr [g] w (w.setCells g (off + j) vs) ∧ (w.setCells g (off + j) vs).heap.size = w.heap.size
  | [], j, w, xs, h, _ => ⟨fun i hi => by simp at hi, h, Fr.refl _ _, rfl⟩
  | v :: r, j, w, xs, h, hc => by
    rw [List.length_cons] at hc
    obtain ⟨h1, h2, h3⟩ := own_in1 h (j := j) (by omega) v
    obtain ⟨k1, k2, k3, k4⟩ := own_setL r (j + 1) _ _ h3 (by omega)
    rw [← Nat.add_assoc] at k1 k2 k3 k4
    refine ⟨fun i hi => ?_, k2, ((Fr.refl [g] w).setCell (p := ⟨g, off + j, none⟩) (.inl (by simp)) v).trans k3 (Gr.refl _ _), k4.trans (by simp)⟩
    rw [List.length_cons] at hi
    obtain ⟨a1, a2, _⟩ := own_in1 h (j := j + i) (by omega) v
    rw [Nat.add_assoc]
    exact ⟨a1, a2⟩
/-- An element of so many cells is stored. -/
theorem Own.storeK {g off n c i : Nat} (h : Own w b e k (.slice (some ⟨g, off, none⟩) n c) n xs) (hi : i < n) {vs : List Value} (hv : vs.length = k) {gs : List Nat} (hgs : ∀ x ∈ gs, x ≠ g) {K : World → Prop}
    (hk : ∀ w1, Own w1 b e k (.slice (some ⟨g, off, none⟩) n c) n (setL xs (i * k) vs) → Fr [g] w w1 → w1.heap.size = w.heap.size → K w1) : stO gs w g (off + i * k) vs K := by
  have hm : i * k + k ≤ n * k := by
    have := Nat.mul_le_mul_right k (show i + 1 ≤ n from hi)
    rw [Nat.add_mul, Nat.one_mul] at this; exact this
  obtain ⟨k1, k2, k3, k4⟩ := own_setL vs (i * k) w xs h (by omega)
  exact ⟨hgs, k1, fun w1 e1 => by subst e1; exact hk _ k2 k3 k4⟩
theorem ElsOk.set {α : Type} {R : World → List Nat → α → List Value → Prop} {M : List Nat} {es : List α} (hR : RStable R k) (h : ElsOk R k w M es xs) {i : Nat} (hi : i < es.length) {x : α} {cs : List Value} (hx : R w M x cs) : ElsOk R k w M (es.set i x) (setL xs (i * k) cs) := by
  have hl := h.1
  have hc := hR.len hx
  have hm : ∀ j, j < es.length → j * k + k ≤ xs.length := fun j hj => by
    rw [hl]
    have := Nat.mul_le_mul_right k (show j + 1 ≤ es.length from hj)
    rw [Nat.add_mul, Nat.one_mul] at this; exact this
  refine ⟨by rw [setL_len, List.length_set, hl], fun j y hy => ?_⟩
  have hj : j < es.length := by have := (List.getElem?_eq_some_iff.1 hy).1; rwa [List.length_set] at this
  have key : ((setL xs (i * k) cs).drop (j * k)).take k = if i = j then cs else (xs.drop (j * k)).take k := by
    apply List.ext_getElem?
    intro q
    rw [List.getElem?_take]
    by_cases hq : q < k
    · rw [if_pos hq, List.getElem?_drop, setL_get _ _ _ _ (by have := hm i hi; omega)]
      by_cases hij : i = j
      · subst hij
        rw [if_pos rfl, if_pos (by omega)]
        congr 1; omega
      · rw [if_neg hij]
        have hne : ¬ (i * k ≤ j * k + q ∧ j * k + q < i * k + cs.length) := by
          rintro ⟨h1, h2⟩
          rcases Nat.lt_or_gt_of_ne hij with h3 | h3
          · have := Nat.mul_le_mul_right k (show i + 1 ≤ j from h3)
            rw [Nat.add_mul, Nat.one_mul] at this; omega
          · have := Nat.mul_le_mul_right k (show j + 1 ≤ i from h3)
            rw [Nat.add_mul, Nat.one_mul] at this; omega
        rw [if_neg hne, List.getElem?_take, if_pos hq, List.getElem?_drop]
    · rw [if_neg hq]
      symm
      split
      · rw [List.getElem?_eq_none (by omega)]
      · rw [List.getElem?_take, if_neg hq]
  rw [key]
  by_cases hij : i = j
  · subst hij
    rw [List.getElem?_set_self hi] at hy
    injection hy with hy; subst hy
    rw [if_pos rfl]; exact hx
  · rw [List.getElem?_set_ne hij] at hy
    rw [if_neg hij]
    exact h.2 j y hy
end Go.Proofs.Ytpfmadinijofeaa
end
section
/- Functions that write nothing but blocks of their own: their steps, seen from the world that they began in. No program in sight. -/
namespace Go.Proofs.Ytpfmadinijofeaa
open Go.RowKit
theorem box_below {w w1 w2 : World} {g : Nat} (h : Below w.heap.size w w1) (hg : w.heap.size ≤ g) (hb : BoxSt g w1 w2) : Below w.heap.size w w2 := h.trans (hb.1.below (fun k hk => by rw [List.mem_singleton] at hk; omega) h.size)
/-- One value comes back, and what was there is as it was. -/
def Ret (v : Value) (w : World) : Ending → World → Prop := fun e w' => e = .returned v ∧ Below w.heap.size w w'
theorem ret_in {P : Program} {f : FuncId} {av : Array Value} {w : World} {v : Value} (h : Calls P f av w fun e w' => ∃ u, e = .returned u ∧ (u = v ∧ Below w.heap.size w w')) : Calls P f av w (Ret v w) :=
  h.mono (by rintro e w' ⟨u, rfl, rfl, b⟩; exact ⟨rfl, b⟩)
theorem ret_same {P : Program} {f : FuncId} {av : Array Value} {w : World} {v : Value} (h : Calls P f av w fun e w' => e = .returned v ∧ w' = w) : Calls P f av w (Ret v w) :=
  h.mono (by rintro e w' ⟨rfl, rfl⟩; exact ⟨rfl, Below.refl _ _⟩)
section
variable {w0 w : World}
abbrev Bs (w0 w : World) : Prop := Below w0.heap.size w0 w
theorem Bs.refl (w : World) : Bs w w := Below.refl _ _
theorem Bs.to {w1 : World} (B : Bs w0 w) (b : Below w.heap.size w w1) : Bs w0 w1 := Below.trans B (b.mono B.size)
theorem Bs.box {g : Nat} {w1 : World} (B : Bs w0 w) (hg : w0.heap.size ≤ g) (h : BoxSt g w w1) : Bs w0 w1 := box_below B hg h
theorem newB (B : Bs w0 w) {o : Obj} {K : Nat → World → Prop} (h : ∀ g w1, w0.heap.size ≤ g → w.heap.size = g → w1.heap[g]? = some o → w1.heap.size = g + 1 → Below w.heap.size w w1 → Bs w0 w1 → K g w1) : newO w o K := by
  rintro g w1 rfl rfl
  exact h _ _ B.size rfl (al_new rfl) (by simp) (Below_one o) (B.to (Below_one o))
theorem drewB (B : Bs w0 w) {K : World → Prop} (h : ∀ w1, Below w.heap.size w w1 → Bs w0 w1 → w1.heap = w.heap → K w1) : drewO w K := fun w1 h1 h2 => h w1 h2 (B.to h2) h1
theorem boxB {g : Nat} (B : Bs w0 w) (hg : w0.heap.size ≤ g) {K : World → Prop} (h : ∀ w1, BoxSt g w w1 → Bs w0 w1 → w1.heap.size = w.heap.size → K w1) : ∀ w1, BoxSt g w w1 → K w1 := fun w1 h1 => h w1 h1 (B.box hg h1) h1.2
theorem callB {P : Program} {f : FuncId} {av : Array Value} {v : Value} {gs : List Nat} {R : Ending → World → Prop} (B : Bs w0 w) (h : Calls P f av w (Ret v w)) (k : ∀ w1, Below w.heap.size w w1 → Bs w0 w1 → R (.returned v) w1) :
    Calls P f av w (fun e w1 => KeepG gs w w1 ∧ R e w1) := h.mono (by rintro e w1 ⟨rfl, b⟩; exact ⟨keepG_below b, k w1 b (B.to b)⟩)
theorem callQ {P : Program} {f : FuncId} {av : Array Value} {gs : List Nat} {Q R : Ending → World → Prop} (B : Bs w0 w) (h : Calls P f av w (fun e w1 => Q e w1 ∧ Below w.heap.size w w1)) (k : ∀ e w1, Q e w1 → Below w.heap.size w w1 → Bs w0 w1 → R e w1) :
    Calls P f av w (fun e w1 => KeepG gs w w1 ∧ R e w1) := h.mono (by rintro e w1 ⟨q, b⟩; exact ⟨keepG_below b, k e w1 q b (B.to b)⟩)
end
/-- Elements of k cells each, one behind the other, in a block from n0 on. -/
def Rws {α : Type} (enc : α → List Value) (k n0 : Nat) (w : World) (a : Option Addr) (xs : List α) : Prop := xs = [] ∨ ∃ b off, a = some ⟨b, off, none⟩ ∧ n0 ≤ b ∧ ∀ i x, xs[i]? = some x → cellsAt w b (off + i * k) (enc x)
section
variable {α : Type} {enc : α → List Value} {k n0 : Nat} {w w' : World} {a : Option Addr} {xs : List α}
theorem Rws.nil : Rws enc k n0 w a [] := .inl rfl
theorem Rws.ofRows (h : RowsAt (fun w b off x => cellsAt w b off (enc x)) k w a xs) : Rws enc k 0 w a xs := h.elim .inl fun ⟨b, off, h1, h2⟩ => .inr ⟨b, off, h1, Nat.zero_le _, h2⟩
theorem Rws.low {n1 : Nat} (h : Rws enc k n0 w a xs) (hn : n1 ≤ n0) : Rws enc k n1 w a xs := h.elim .inl fun ⟨b, off, h1, h2, h3⟩ => .inr ⟨b, off, h1, Nat.le_trans hn h2, h3⟩
theorem Rws.keep (h : Rws enc k n0 w a xs) (hk : ∀ b, n0 ≤ b → b < w.heap.size → w'.heap[b]? = w.heap[b]?) : Rws enc k n0 w' a xs := by
  rcases h with h | ⟨b, off, ha, hb, h⟩
  · exact .inl h
  · refine .inr ⟨b, off, ha, hb, fun i x hx => cellsAt_of fun j v hj => ?_⟩
    have h1 := cellsAt_get (h i x hx) j v hj
    have h2 := block_lt_of_cell h1
    rw [cell_keep (hk b hb h2)]
    exact h1
theorem Rws.below (h : Rws enc k n0 w a xs) (hb : Below w.heap.size w w') : Rws enc k n0 w' a xs := h.keep fun b _ h2 => hb.block b h2
theorem Rws.box {g : Nat} (h : Rws enc k n0 w a xs) (hb : BoxSt g w w') (hg : g < n0) : Rws enc k n0 w' a xs := h.keep fun b h1 h2 => hb.1.block b h2 (by rw [List.mem_singleton]; omega)
theorem Rws.newbox {g : Nat} {w1 w2 : World} (h : Rws enc k n0 w a xs) (hb : Below w.heap.size w w1) (sg : w.heap.size = g) (hx : BoxSt g w1 w2) : Rws enc k n0 w2 a xs := h.keep fun b _ h2 => (hx.1.block b (by have := hb.size; omega) (by rw [List.mem_singleton]; omega)).trans (hb.block b h2)
theorem Rws.grown {r : Option Nat} (h : Rws enc k n0 w a xs) (hg : w.grownBy w' r) (hr : ∀ b, r = some b → b < n0) : Rws enc k n0 w' a xs := h.keep fun b h1 h2 => hg.block b h2 fun e => by have := hr b e.symm; omega
theorem Rws.get (h : Rws enc k n0 w a xs) {i : Nat} (hi : i < xs.length) : ∃ b off, a = some ⟨b, off, none⟩ ∧ cellsAt w b (off + i * k) (enc xs[i]) := by
  rcases h with rfl | ⟨b, off, ha, _, h⟩
  · simp at hi
  · exact ⟨b, off, ha, h i _ (List.getElem?_eq_getElem hi)⟩
theorem Rws.take (h : Rws enc k n0 w a xs) (n : Nat) : Rws enc k n0 w a (xs.take n) := by
  rcases h with rfl | ⟨b, off, ha, h0, h⟩
  · exact .inl (by simp)
  · refine .inr ⟨b, off, ha, h0, fun i x hx => h i x ?_⟩
    rw [List.getElem?_take] at hx
    split at hx
    · exact hx
    · cases hx
theorem flatK_len (hk : ∀ x, (enc x).length = k) : ∀ es : List α, (es.flatMap enc).length = es.length * k
  | [] => by simp
  | e :: r => by rw [List.flatMap_cons, List.length_append, flatK_len hk r, hk, List.length_cons, Nat.add_mul]; omega
theorem flatK_get (hk : ∀ x, (enc x).length = k) : ∀ (es : List α) (i : Nat) (e : α) (j : Nat), es[i]? = some e → j < k → (es.flatMap enc)[i * k + j]? = (enc e)[j]?
  | x :: r, 0, e, j, h, hj => by
    cases h
    rw [List.flatMap_cons, List.getElem?_append_left (by rw [hk]; omega)]
    congr 1; omega
  | x :: r, i + 1, e, j, h, hj => by
    have e1 : (i + 1) * k = i * k + k := by rw [Nat.add_mul, Nat.one_mul]
    rw [List.flatMap_cons, List.getElem?_append_right (by rw [hk]; omega), hk, show (i + 1) * k + j - k = i * k + j by omega]
    exact flatK_get hk r i e j (by simpa using h) hj
theorem Rws.ofOwn {t : TypeId} {n c : Nat} (hkp : 0 < k) (hk : ∀ x, (enc x).length = k) (h : Own w n0 t k (.slice a n c) n (xs.flatMap enc)) : Rws enc k n0 w a xs := by
  by_cases h0 : xs = []
  · exact .inl h0
  rcases h.2 with ⟨h1, h2⟩ | ⟨g, off, cap, cur, hv, hb, hg, hn, hm, hs, ht⟩
  · have h3 := h.1
    rw [flatK_len hk, h2, Nat.zero_mul] at h3
    exact absurd (List.length_eq_zero_iff.1 ((Nat.mul_eq_zero.1 h3).resolve_right (by omega))) h0
  · injection hv with h1 h2 h3
    subst h1; subst h3
    refine .inr ⟨g, off, rfl, hb, fun i x hx => cellsAt_list fun j v hv => ?_⟩
    have hj : j < k := by have := (List.getElem?_eq_some_iff.1 hv).1; rw [hk] at this; exact this
    have := flatK_get hk xs i x j hx hj
    rw [Nat.add_assoc]
    exact h.cells g off c rfl _ v (by rw [this]; exact hv)
theorem Rws.src {P : Program} {tx e' : TypeId} {c : Nat} (hT : P.underlying tx = some (.slice e')) (hkp : 0 < k) (hk : ∀ x, (enc x).length = k) (h1 : ∀ x, ∀ v ∈ enc x, v.oneCell' = true) (h : Rws enc k n0 w a xs) : Src P k tx (.slice a xs.length c) xs.length (xs.flatMap enc) w := by
  have hone : ∀ v ∈ xs.flatMap enc, v.oneCell' = true := fun v hv => by
    obtain ⟨x, _, hx⟩ := List.mem_flatMap.1 hv
    exact h1 x v hx
  cases a with
  | none =>
    rcases h with rfl | ⟨b, off, ha, _⟩
    · exact Src.ofNil w hT c
    · cases ha
  | some ad =>
    refine Src.ofSlice w hT ad _ _ _ (flatK_len hk xs) (fun j u hu => ?_) hone
    rcases h with rfl | ⟨b, off, ha, _, h⟩
    · cases hu
    · injection ha with ha; subst ha
      have hlt := (List.getElem?_eq_some_iff.1 hu).1
      rw [flatK_len hk] at hlt
      have hi : j / k < xs.length := (Nat.div_lt_iff_lt_mul hkp).2 hlt
      have hm : j % k < k := Nat.mod_lt _ hkp
      have hx := List.getElem?_eq_getElem hi
      have h1 := flatK_get hk xs (j / k) _ (j % k) hx hm
      have hd : j / k * k + j % k = j := by rw [Nat.mul_comm]; exact Nat.div_add_mod j k
      rw [hd, hu] at h1
      have := cellsAt_get (h _ _ hx) (j % k) u h1.symm
      rw [Addr.add_lit]
      rwa [Nat.add_assoc, hd] at this
end
theorem Rws.one {α : Type} {enc : α → List Value} {k n0 g : Nat} {w : World} {x : α} {t : TypeId} {fr : Nat × Nat} (h : w.heap[g]? = some (.cells (enc x).toArray t fr)) (hg : n0 ≤ g) : Rws enc k n0 w (some ⟨g, 0, none⟩) [x] := by
  refine .inr ⟨g, 0, rfl, hg, fun i y hy => ?_⟩
  have hi : i = 0 := by have := (List.getElem?_eq_some_iff.1 hy).1; simp at this; omega
  subst hi
  simp at hy
  subst hy
  rw [Nat.zero_mul]
  exact cellsAt_row h (by simp)
theorem Own.box {w w1 : World} {n1 size n g : Nat} {e : TypeId} {v : Value} {xs : List Value} (h : Own w n1 e size v n xs) (hb : BoxSt g w w1) (hg : ∀ k, v.ownBlock = some k → k ≠ g) : Own w1 n1 e size v n xs := h.keep fun k hk => hb.1.block k (h.lt k hk).2 (by rw [List.mem_singleton]; exact hg k hk)
/-- A new box was made and filled. -/
theorem Own.newbox {w w1 w2 : World} {n1 size n g : Nat} {e : TypeId} {v : Value} {xs : List Value} (h : Own w n1 e size v n xs) (hb : Below w.heap.size w w1) (sg : w.heap.size = g) (hx : BoxSt g w1 w2) : Own w2 n1 e size v n xs := (h.below hb (Nat.le_refl _)).box hx fun k hk => by have := (h.lt k hk).2; omega
/-- What is appended to, is one's own. -/
theorem appB {P : Program} {gs : List Nat} {w0 w : World} {e : TypeId} {size bytes n1 n c m : Nat} {tx : TypeId} {a : Option Addr} {x : Value} {xs news : List Value} {K : Nat → Option Addr → Nat → World → Prop}
    (B : Bs w0 w) (o : Own w n1 e size (.slice a n c) n xs) (hn1 : w0.heap.size ≤ n1) (hn2 : n1 ≤ w.heap.size) (s : Src P size tx x m news w) (h1 : n + m ≤ maxLen) (h2 : (n + m) * bytes ≤ 140737488355328)
    (hg : ∀ g ∈ gs, (Value.slice a n c).ownBlock ≠ some g)
    (k : ∀ a' c' w1, Own w1 n1 e size (.slice a' (n + m) c') (n + m) (xs ++ news) → w.grownBy w1 (Value.slice a n c).ownBlock → Bs w0 w1 → w.heap.size ≤ w1.heap.size → K m a' c' w1) :
    appO P gs w e size bytes tx a n c x K := by
  refine ⟨m, xs, news, o.base_le fun _ _ => Nat.zero_le _, s, h1, h2, hg, fun a' c' w1 o1 g1 or1 _ => k a' c' w1 (o1.base_le fun q hq => ?_) g1 ?_ g1.size⟩
  · rcases or1 with h | ⟨g, h, h3⟩
    · exact (o.lt q (h ▸ hq)).1
    · rw [h] at hq; injection hq with hq; omega
  · exact ⟨g1.os.trans B.os, g1.tape.trans B.tape, g1.output.trans B.output, Nat.le_trans B.size g1.size, fun q hq => (g1.block q (by have := B.size; omega) fun e => by have := (o.lt q e.symm).1; omega).trans (B.block q hq)⟩
end Go.Proofs.Ytpfmadinijofeaa
end
section
/- More steps of functions seen from the world that they began in: blocks that are written over. No program in sight. -/
namespace Go.Proofs.Ytpfmadinijofeaa
open Go.RowKit
/-- Cells of a block that are written over. -/
theorem stO_part {w : World} {g off : Nat} {t : TypeId} {cs : Array Value} {vs : List Value} {gs : List Nat} {K : World → Prop} (h : Bk w g cs t) (hl : off + vs.length ≤ cs.size) (hg : ∀ x ∈ gs, x ≠ g)
    (k : ∀ w1, Bk w1 g (setL cs.toList off vs).toArray t → Fr [g] w w1 → w1.heap.size = w.heap.size → K w1) : stO gs w g off vs K := by
  have key : ∀ (vs : List Value) (w : World) (cs : Array Value) (off : Nat), Bk w g cs t → off + vs.length ≤ cs.size → Bk (w.setCells g off vs) g (setL cs.toList off vs).toArray t ∧ Fr [g] w (w.setCells g off vs) ∧ (w.setCells g off vs).heap.size = w.heap.size := by
    intro vs
    induction vs with
    | nil => intro w cs off h _; exact ⟨by simpa [World.setCells, setL] using h, Fr.refl _ _, rfl⟩
    | cons v r ih =>
      intro w cs off h hl
      rw [List.length_cons] at hl
      obtain ⟨k1, k2, k3⟩ := ih (w.setCell ⟨g, off, none⟩ v) (cs.setIfInBounds off v) (off + 1) (h.setCell off v) (by simp; omega)
      refine ⟨?_, ((Fr.refl [g] w).setCell (p := ⟨g, off, none⟩) (.inl (by simp)) v).trans k2 (Gr.refl _ _), by rw [show w.setCells g off (v :: r) = (w.setCell ⟨g, off, none⟩ v).setCells g (off + 1) r from rfl, k3]; simp [World.setCell]⟩
      rw [Array.toList_setIfInBounds] at k1
      exact k1
  obtain ⟨k1, k2, k3⟩ := key vs w cs off h hl
  exact ⟨hg, h.there hl, fun w1 e => by subst e; exact k _ k1 k2 k3⟩
theorem setL_whole {vs xs : List Value} (h : vs.length = xs.length) : setL xs 0 vs = vs := by
  apply List.ext_getElem?
  intro i
  rw [setL_get vs xs 0 i (by omega)]
  by_cases hi : i < vs.length
  · rw [if_pos ⟨Nat.zero_le _, by omega⟩]; rfl
  · rw [if_neg (by omega), List.getElem?_eq_none (by omega), List.getElem?_eq_none (by omega)]
theorem Bs.fr {w0 w w1 : World} {L : List Nat} (B : Bs w0 w) (h : Fr L w w1) (hL : ∀ k ∈ L, w0.heap.size ≤ k) : Bs w0 w1 := Below.trans B (h.below hL B.size)
theorem Bs.fr1 {w0 w w1 : World} {g : Nat} (B : Bs w0 w) (h : Fr [g] w w1) (hg : w0.heap.size ≤ g) : Bs w0 w1 := B.fr h fun k hk => by rw [List.mem_singleton] at hk; omega
/-- A block of one's own is written over, wholly. -/
theorem stB {w0 w : World} {g : Nat} {t : TypeId} {cs : Array Value} {vs : List Value} {gs : List Nat} {K : World → Prop} (B : Bs w0 w) (hg0 : w0.heap.size ≤ g) (h : Bk w g cs t) (hl : vs.length = cs.size) (hg : ∀ x ∈ gs, x ≠ g)
    (k : ∀ w1, Bk w1 g vs.toArray t → Fr [g] w w1 → Bs w0 w1 → w1.heap.size = w.heap.size → K w1) : stO gs w g 0 vs K :=
  stO_part h (by omega) hg fun w1 h1 f1 z1 => k w1 (by rw [setL_whole (by simpa using hl)] at h1; exact h1) f1 (B.fr1 f1 hg0) z1
/-- One cell of it. -/
theorem stB1 {w0 w : World} {g i : Nat} {t : TypeId} {cs : Array Value} {v : Value} {gs : List Nat} {K : World → Prop} (B : Bs w0 w) (hg0 : w0.heap.size ≤ g) (h : Bk w g cs t) (hi : i < cs.size) (hg : ∀ x ∈ gs, x ≠ g)
    (k : ∀ w1, Bk w1 g (cs.setIfInBounds i v) t → Fr [g] w w1 → Bs w0 w1 → w1.heap.size = w.heap.size → K w1) : stO gs w g i [v] K :=
  stO_bk h hi hg fun w1 h1 f1 z1 => k w1 h1 f1 (B.fr1 f1 hg0) z1
theorem Bk.below {w w1 : World} {g : Nat} {cs : Array Value} {t : TypeId} (h : Bk w g cs t) (hb : Below w.heap.size w w1) : Bk w1 g cs t := h.keep (hb.block g h.lt)
theorem Bk.box {w w1 : World} {g k : Nat} {cs : Array Value} {t : TypeId} (h : Bk w g cs t) (hb : BoxSt k w w1) (hk : g ≠ k) : Bk w1 g cs t := h.keep (hb.1.block g h.lt (by rw [List.mem_singleton]; exact hk))
theorem Bk.fr {w w1 : World} {g : Nat} {L : List Nat} {cs : Array Value} {t : TypeId} (h : Bk w g cs t) (hb : Fr L w w1) (hk : g ∉ L) : Bk w1 g cs t := h.keep (hb.block g h.lt hk)
theorem Bk.fr1 {w w1 : World} {g k : Nat} {cs : Array Value} {t : TypeId} (h : Bk w g cs t) (hb : Fr [k] w w1) (hk : g ≠ k) : Bk w1 g cs t := h.fr hb (by rw [List.mem_singleton]; exact hk)
end Go.Proofs.Ytpfmadinijofeaa
end
section
/- Arrays of structs in a block, told by a function of the place. No program in sight. -/
namespace Go.Proofs.Ytpfmadinijofeaa
open Go.RowKit
def fArr (n : Nat) (f : Nat → Value) : Array Value := ((List.range n).map f).toArray
theorem fArr_size (n : Nat) (f : Nat → Value) : (fArr n f).size = n := by simp [fArr]
theorem fArr_get {n j : Nat} (f : Nat → Value) (h : j < n) : (fArr n f)[j]? = some (f j) := by simp [fArr, h]
theorem fArr_congr {n : Nat} {f f' : Nat → Value} (h : ∀ j, j < n → f j = f' j) : fArr n f = fArr n f' := by
  unfold fArr
  congr 1
  exact List.map_congr_left fun j hj => h j (List.mem_range.1 hj)
theorem fArr_of {n : Nat} {f : Nat → Value} {cs : Array Value} (hs : cs.size = n) (h : ∀ j, j < n → cs[j]? = some (f j)) : cs = fArr n f := by
  apply Array.ext_getElem?
  intro j
  by_cases hj : j < n
  · rw [h j hj, fArr_get f hj]
  · rw [Array.getElem?_eq_none (by omega), Array.getElem?_eq_none (by rw [fArr_size]; omega)]
/-- n structs of k cells each, one behind the other. -/
def sArr (n k : Nat) (enc : Nat → List Value) : Array Value := fArr (n * k) fun j => (enc (j / k)).getD (j % k) (.bool false)
section
variable {n k : Nat} {enc enc' : Nat → List Value}
theorem sArr_size (n k : Nat) (enc : Nat → List Value) : (sArr n k enc).size = n * k := fArr_size _ _
theorem div_lt_of {j n k : Nat} (h : j < n * k) : j / k < n ∧ j % k < k ∧ 0 < k := by
  have hk : 0 < k := by
    rcases Nat.eq_zero_or_pos k with rfl | h'
    · simp at h
    · exact h'
  exact ⟨(Nat.div_lt_iff_lt_mul hk).2 h, Nat.mod_lt _ hk, hk⟩
theorem place_div {i c k : Nat} (hc : c < k) : (i * k + c) / k = i ∧ (i * k + c) % k = c := by
  have hk : 0 < k := by omega
  refine ⟨?_, ?_⟩
  · rw [Nat.mul_comm, Nat.mul_add_div hk, Nat.div_eq_of_lt hc, Nat.add_zero]
  · rw [Nat.mul_comm, Nat.mul_add_mod, Nat.mod_eq_of_lt hc]
theorem place_lt {i c n k : Nat} (hi : i < n) (hc : c < k) : i * k + c < n * k := by
  have : (i + 1) * k ≤ n * k := Nat.mul_le_mul_right k hi
  rw [Nat.add_mul, Nat.one_mul] at this
  omega
theorem sArr_get {i c : Nat} {v : Value} (hi : i < n) (hc : c < k) (hv : (enc i)[c]? = some v) : (sArr n k enc)[i * k + c]? = some v := by
  unfold sArr
  rw [fArr_get _ (place_lt hi hc), (place_div hc).1, (place_div hc).2, List.getD_eq_getElem?_getD, hv]
  rfl
theorem sArr_congr (h : ∀ i, i < n → enc i = enc' i) : sArr n k enc = sArr n k enc' := fArr_congr fun j hj => by rw [h _ (div_lt_of hj).1]
theorem sArr_of {cs : Array Value} (hk : ∀ i, i < n → (enc i).length = k) (hs : cs.size = n * k) (h : ∀ i c, i < n → c < k → cs[i * k + c]? = (enc i)[c]?) : cs = sArr n k enc := by
  refine fArr_of hs fun j hj => ?_
  obtain ⟨h1, h2, h3⟩ := div_lt_of hj
  have hjk : j / k * k + j % k = j := by rw [Nat.mul_comm]; exact Nat.div_add_mod j k
  have := h (j / k) (j % k) h1 h2
  rw [hjk] at this
  have hl : j % k < (enc (j / k)).length := by rw [hk _ h1]; exact h2
  rw [this, List.getD_eq_getElem?_getD, List.getElem?_eq_getElem hl]
  rfl
theorem sArr_cells {w : World} {g : Nat} {t : TypeId} (h : Bk w g (sArr n k enc) t) {i : Nat} (hi : i < n) (hk : (enc i).length = k) : cellsAt w g (i * k) (enc i) := cellsAt_of fun c v hv => by
  have hc : c < k := by rw [← hk]; exact (List.getElem?_eq_some_iff.1 hv).1
  rw [h.cell]; exact sArr_get hi hc hv
theorem sArr_cell {w : World} {g : Nat} {t : TypeId} (h : Bk w g (sArr n k enc) t) {i c : Nat} {v : Value} (hi : i < n) (hc : c < k) (hv : (enc i)[c]? = some v) : w.cell? ⟨g, i * k + c, none⟩ = some v := by
  rw [h.cell]; exact sArr_get hi hc hv
/-- One struct is written over. -/
theorem sArr_setL {i : Nat} {vs : List Value} (hi : i < n) (hv : vs.length = k) (hk : ∀ i, i < n → (enc i).length = k) : (setL (sArr n k enc).toList (i * k) vs).toArray = sArr n k (fun j => if j = i then vs else enc j) := by
  refine sArr_of (fun j hj => ?_) (by simp [setL_len, sArr_size]) fun j c hj hc => ?_
  · split
    · exact hv
    · exact hk j hj
  · have hle : i * k + vs.length ≤ (sArr n k enc).toList.length := by
      simp [sArr_size, hv]
      have : (i + 1) * k ≤ n * k := Nat.mul_le_mul_right k hi
      rw [Nat.add_mul, Nat.one_mul] at this
      omega
    rw [List.getElem?_toArray, setL_get _ _ _ _ hle]
    by_cases he : j = i
    · subst he
      rw [if_pos ⟨by omega, by omega⟩, if_pos rfl, show j * k + c - j * k = c by omega]
    · have hne : ¬ (i * k ≤ j * k + c ∧ j * k + c < i * k + vs.length) := by
        rintro ⟨h1, h2⟩
        rw [hv] at h2
        have h3 := (place_div (i := j) hc).1
        have h4 := (place_div (i := i) (c := j * k + c - i * k) (k := k) (by omega)).1
        rw [show i * k + (j * k + c - i * k) = j * k + c by omega, h3] at h4
        exact he h4
      have hl : c < (enc j).length := by rw [hk j hj]; exact hc
      rw [if_neg he, if_neg hne, Array.getElem?_toList, sArr_get hj hc (List.getElem?_eq_getElem hl), List.getElem?_eq_getElem hl]
/-- One cell of one struct is written over. -/
theorem sArr_set {i c : Nat} {v : Value} (hi : i < n) (hc : c < k) (hk : ∀ i, i < n → (enc i).length = k) : (sArr n k enc).setIfInBounds (i * k + c) v = sArr n k (fun j => if j = i then (enc j).set c v else enc j) := by
  refine sArr_of (fun j hj => ?_) (by simp [sArr_size]) fun j d hj hd => ?_
  · split
    · rw [List.length_set]; exact hk j hj
    · exact hk j hj
  · have hl : d < (enc j).length := by rw [hk j hj]; exact hd
    have hg := sArr_get hj hd (List.getElem?_eq_getElem hl)
    by_cases he : i * k + c = j * k + d
    · have h1 := place_div (i := i) hc
      have h2 := place_div (i := j) hd
      rw [he] at h1
      obtain rfl : j = i := h2.1.symm.trans h1.1
      obtain rfl : d = c := h2.2.symm.trans h1.2
      rw [if_pos rfl, Array.getElem?_setIfInBounds_self_of_lt (by rw [sArr_size]; exact place_lt hi hc), List.getElem?_set_self hl]
    · rw [Array.getElem?_setIfInBounds_ne he, hg]
      by_cases hji : j = i
      · subst hji
        rw [if_pos rfl, List.getElem?_set_ne (by omega), List.getElem?_eq_getElem hl]
      · rw [if_neg hji, List.getElem?_eq_getElem hl]
end
end Go.Proofs.Ytpfmadinijofeaa
end
section
/- 'slices.Sorted(maps.Keys(m))' of a map with int keys, out of the library's contracts. No program in sight. -/
namespace Go.Proofs.Ytpfmadinijofeaa
open Go.RowKit Go.Maps Go.Sort Go.Shelf Go.MapKept
variable {P : Program}
abbrev R0 : Value → Option (DataW Unit × List MemPlace) := fun _ => some (.nil, [])
def litOf (p : Int × Value) : Lit × DataW Unit := (.int .i64 p.1, .nil)
theorem in64_wf {x : Int} (h : -9223372036854775808 ≤ x ∧ x ≤ 9223372036854775807) : (Lit.int .i64 x).wf = true := by
  have h1 : IntKind.i64.min = -9223372036854775808 := by decide
  have h2 : IntKind.i64.max = 9223372036854775807 := by decide
  simp [Lit.wf, h1, h2]
  omega
theorem MapAt.owns {k : TypeId} (hk : P.underlying k = some (.int .i64)) {w : World} {b : Nat} {m : List (Int × Value)} (h : MapAt w b m) (hr : ∀ p ∈ m, -9223372036854775808 ≤ p.1 ∧ p.1 ≤ 9223372036854775807) (hl : m.length ≤ maxLen) :
    w.ownsMap P k R0 b m.length (.map ((m.map litOf).foldr DataW.insert [])) := by
  obtain ⟨es, clock, hb, hs, hm⟩ := h
  have hlen : es.size = m.length := by have := congrArg List.length hm; simpa using this
  have hrd : ∀ x ∈ es.toList, ∃ p ∈ m, x.key = .int .i64 p.1 ∧ WideElems.rd P k R0 x = some (litOf p) := by
    intro x hx
    have : (x.key, x.val) ∈ m.map kvOf := hm ▸ List.mem_map.2 ⟨x, hx, rfl⟩
    obtain ⟨p, hp, hpe⟩ := List.mem_map.1 this
    have hkey : x.key = .int .i64 p.1 := (congrArg Prod.fst hpe).symm
    refine ⟨p, hp, hkey, ?_⟩
    have := keyOf_int_mk hk (in64_wf (hr p hp))
    unfold WideElems.rd
    rw [hkey, this]
    rfl
  refine ⟨es, clock, hb, ⟨by omega, hs, fun x hx => ?_⟩, by omega, ?_⟩
  · obtain ⟨p, _, _, h⟩ := hrd x hx
    exact ⟨_, h⟩
  · have : es.toList.map (WideElems.rg P k R0) = m.map litOf := by
      have key : ∀ (l : List MapEntry) (m : List (Int × Value)), l.map (fun e => (e.key, e.val)) = m.map kvOf → (∀ x ∈ l, ∃ p : Int × Value, x.key = .int .i64 p.1 ∧ WideElems.rd P k R0 x = some (litOf p)) → l.map (WideElems.rg P k R0) = m.map litOf := by
        intro l
        induction l with
        | nil => intro m h _; cases m with | nil => rfl | cons _ _ => cases h
        | cons x l ih =>
          intro m h hx
          cases m with
          | nil => cases h
          | cons q m =>
            injection h with h1 h2
            obtain ⟨p, e1, e2⟩ := hx x (List.mem_cons_self ..)
            have e3 : x.key = .int .i64 q.1 := congrArg Prod.fst h1
            have e4 : p.1 = q.1 := kv_inj (e1.symm.trans e3)
            rw [List.map_cons, List.map_cons, ih m h2 fun y hy => hx y (List.mem_cons_of_mem _ hy)]
            congr 1
            unfold WideElems.rg
            rw [e2]
            show litOf p = litOf q
            unfold litOf
            rw [e4]
      exact key _ _ hm fun x hx => by obtain ⟨p, _, h1, h2⟩ := hrd x hx; exact ⟨p, h1, h2⟩
    rw [this]
theorem intKeys_perm (m : List (Int × Value)) : (intKeys (.map ((m.map litOf).foldr DataW.insert []) : DataW Unit)).Perm (m.map (·.1)) := by
  show (((m.map litOf).foldr DataW.insert []).map fun p : Lit × DataW Unit => Go.intOf p.1).Perm _
  refine ((WideShapes.sorted_perm (m.map litOf)).map _).trans ?_
  rw [List.map_map]
  exact List.Perm.refl _
/-- The keys, sorted. -/
def sortK (m : List (Int × Value)) : List Int := (m.map (·.1)).mergeSort leI
theorem Own.ofRow {w : World} {base : Nat} {e : TypeId} {size : Nat} {v : Value} {n : Nat} {xs : List Value} (h : w.ownsRow base e size v n xs) : Own w base e size v n xs := by
  refine ⟨h.1, h.2.elim .inl fun ⟨g, cap, cur, h1, h2, h3, h4, h5, h6, h7⟩ => .inr ⟨g, 0, cap, cur, h1, h2, h3, h4, h5, by omega, by rw [List.drop_zero]; exact h7⟩⟩
section
variable {ρK ρS ρQ : Ren}
theorem sortK_calls (LK : SlLaysZI.n10 P ρK) (LS : SlLaysZI.n6 P ρS) (hk : P.underlying (ρK.t 26) = some (.int .i64)) (hsort : AnyZI.SortsIn P ρS Fence.wide 4)
    (e9 : ∀ args w, (callFunc (ρS.f 9) args).run P w = .ok (.enter (ρS.f 9) args) w) (eg : ∀ args w, (callFunc (ρK.f 10) args).run P w = .ok (.enter (ρK.f 10) args) w)
    (w : World) (Bm b : Nat) (m : List (Int × Value)) (hBm : Bm < w.heap.size) (hc : w.cell? ⟨Bm, 0, none⟩ = some (.map (some b))) (h : MapAt w b m)
    (hr : ∀ p ∈ m, -9223372036854775808 ≤ p.1 ∧ p.1 ≤ 9223372036854775807) (hl : m.length ≤ 1000000) :
    Calls P (ρS.f 6) #[.func (.func (ρK.f 10)) #[] #[.pointer (some ⟨Bm, 0, none⟩)]] w fun e w' => ∃ a c, e = .returned (.slice a (sortK m).length c) ∧
      Own w' w.heap.size (ρS.t 26) 1 (.slice a (sortK m).length c) (sortK m).length ((sortK m).map (Value.int .i64)) ∧ (a = none ↔ sortK m = []) ∧ Below w.heap.size w w' := by
  have hlm : m.length ≤ maxLen := by unfold maxLen; omega
  have hown := h.owns hk hr hlm
  have hsz : Maps.size (.map ((m.map litOf).foldr DataW.insert []) : DataW Unit) = m.length := by
    show ((m.map litOf).foldr DataW.insert []).length = _
    rw [length_sorted]; simp
  have hseq : SeqGives Fence.wide 2 P (ρK.f 10) #[.pointer (some ⟨Bm, 0, none⟩)] encZ (fun ss => ss.Perm (intKeys (.map ((m.map litOf).foldr DataW.insert []) : DataW Unit))) m.length w := by
    have := AnyZI.keys_gives (ρ := ρK) LK Fence.wide 2 trivial rfl (by omega) Bm b m.length (.map ((m.map litOf).foldr DataW.insert []) : DataW Unit) w hBm hc hown
    rw [hsz] at this
    exact this
  have cS := AnyZI.sorted_in LS Fence.wide 5 trivial trivial trivial trivial rfl (by omega) (by exact hsort) e9 (ρK.f 10) #[.pointer (some ⟨Bm, 0, none⟩)] trivial eg _ m.length hlm (by omega) w hseq
  refine ((callsIn_wide (n := 5)).1 cS).mono ?_
  rintro e w' ⟨v, ss, rfl, hS, hrow, hnil, hb⟩
  have hp : ss.Perm (m.map (·.1)) := hS.trans (intKeys_perm m)
  have hms : ss.mergeSort (fun x y => decide (x ≤ y)) = sortK m := mergeSort_of_perm_i hp
  rw [hms] at hrow
  have hlen : ss.length = (sortK m).length := by rw [← hms]; exact (List.mergeSort_perm ss _).length_eq.symm
  rw [hlen] at hrow
  have ho := Own.ofRow hrow
  obtain ⟨a, c, rfl⟩ := ho.isSlice
  refine ⟨a, c, rfl, ho, ?_, hb⟩
  have hss : ss = [] ↔ sortK m = [] := by
    rw [← List.length_eq_zero_iff, ← List.length_eq_zero_iff, hlen]
  rw [← hss, ← hnil]
  constructor
  · rintro rfl
    rcases ho.2 with ⟨h1, h2⟩ | ⟨g, off, cap, cur, h1, _⟩
    · rw [h1]
    · cases h1
  · intro e; injection e
end
end Go.Proofs.Ytpfmadinijofeaa
end
section
/- The disk of layer 4, as a function: what lasts, the cache, what is left of the power. No program in sight. -/
namespace Go.Proofs.Ytpfmadinijofeaa
open Go.RowKit
structure DS where
  n : Nat
  last : Nat → List UInt8
  cch : Nat → Option (List UInt8)
  left : Int
  off : Bool
def zero64 : List UInt8 := List.replicate 64 0
structure DWf (S : DS) : Prop where
  n1 : 1 ≤ S.n
  n2 : S.n ≤ 8192
  last : ∀ i, (S.last i).length = 64
  cch : ∀ i s, S.cch i = some s → i < S.n ∧ s.length = 64
  left0 : 0 ≤ S.left
  leftM : S.left ≤ 9223372036854775807
def newS (n : Nat) : DS := ⟨n, fun _ => zero64, fun _ => none, 0, false⟩
theorem newS_wf {n : Nat} (h1 : 1 ≤ n) (h2 : n ≤ 8192) : DWf (newS n) := ⟨h1, h2, fun _ => rfl, fun _ _ h => (by cases h), by show (0 : Int) ≤ 0; decide, by show (0 : Int) ≤ _; decide⟩
def nowS (S : DS) (i : Nat) : List UInt8 := (S.cch i).getD (S.last i)
theorem DWf.now {S : DS} (h : DWf S) (i : Nat) : (nowS S i).length = 64 := by
  unfold nowS
  cases hc : S.cch i with
  | none => exact h.last i
  | some s => exact (h.cch i s hc).2
def mayE (S : DS) (first n : Int) : Int := if S.off = true then 12 else if 0 ≤ first ∧ 0 ≤ n ∧ first ≤ S.n ∧ n ≤ S.n - first then 0 else 1
theorem mayE_zero {S : DS} {first n : Int} (h : mayE S first n = 0) : S.off = false ∧ 0 ≤ first ∧ 0 ≤ n ∧ first ≤ S.n ∧ n ≤ S.n - first := by
  unfold mayE at h
  split at h
  · omega
  · rename_i ho
    split at h
    · rename_i hc; exact ⟨by cases hh : S.off; rfl; exact absurd hh ho, hc⟩
    · omega
def readS (S : DS) (first n : Nat) : List UInt8 := (List.range n).flatMap fun i => nowS S (first + i)
theorem readS_succ (S : DS) (first n : Nat) : readS S first (n + 1) = readS S first n ++ nowS S (first + n) := by
  unfold readS
  rw [List.range_succ, List.flatMap_append]
  simp
theorem readS_len {S : DS} (h : DWf S) (first : Nat) : ∀ n, (readS S first n).length = n * 64
  | 0 => rfl
  | n + 1 => by rw [readS_succ, List.length_append, readS_len h first n, h.now]; omega
def readL (S : DS) (first n : Int) : List UInt8 := if mayE S first n = 0 then readS S first.toNat n.toNat else []
def putK (S : DS) (k : Nat) (s : List UInt8) : DS :=
  ⟨S.n, S.last, fun i => if i = k then some s else S.cch i, if 0 < S.left then S.left - 1 else S.left, if 0 < S.left then decide (S.left - 1 = 0) else S.off⟩
theorem DWf.put {S : DS} (h : DWf S) {k : Nat} {s : List UInt8} (hk : k < S.n) (hs : s.length = 64) : DWf (putK S k s) := by
  refine ⟨h.n1, h.n2, h.last, fun i t ht => ?_, ?_, ?_⟩
  · change (if i = k then some s else S.cch i) = some t at ht
    split at ht
    · rename_i e; subst e; injection ht with ht; subst ht; exact ⟨hk, hs⟩
    · exact h.cch i t ht
  · show (0 : Int) ≤ if 0 < S.left then S.left - 1 else S.left
    have := h.left0
    split <;> omega
  · show (if 0 < S.left then S.left - 1 else S.left) ≤ (9223372036854775807 : Int)
    have := h.leftM
    split <;> omega
/-- Pieces put one behind the other, till the power is off. -/
def wrS (S : DS) (first : Nat) (f : Nat → List UInt8) : Nat → DS
  | 0 => S
  | k + 1 => if (wrS S first f k).off = true then wrS S first f k else putK (wrS S first f k) (first + k) (f k)
theorem wrS_n (S : DS) (first : Nat) (f : Nat → List UInt8) : ∀ k, (wrS S first f k).n = S.n
  | 0 => rfl
  | k + 1 => by
    rw [wrS]
    split
    · exact wrS_n S first f k
    · exact wrS_n S first f k
theorem wrS_stay {S : DS} {first : Nat} {f : Nat → List UInt8} {i : Nat} (h : (wrS S first f i).off = true) : ∀ {j : Nat}, i ≤ j → wrS S first f j = wrS S first f i
  | 0, hj => by rw [show i = 0 by omega]
  | j + 1, hj => by
    by_cases e : i = j + 1
    · rw [e]
    · have := wrS_stay h (j := j) (by omega)
      rw [wrS, this, if_pos h]
theorem DWf.wr {S : DS} (h : DWf S) {first : Nat} {f : Nat → List UInt8} : ∀ {m : Nat}, (∀ k, k < m → (f k).length = 64) → first + m ≤ S.n → DWf (wrS S first f m)
  | 0, _, _ => h
  | m + 1, hf, hm => by
    have ih := DWf.wr h (first := first) (f := f) (m := m) (fun k hk => hf k (by omega)) (by omega)
    rw [wrS]
    split
    · exact ih
    · exact ih.put (by rw [wrS_n]; omega) (hf m (by omega))
def pieceB (b : List UInt8) (k : Nat) : List UInt8 := (b.drop (k * 64)).take 64
theorem pieceB_len {b : List UInt8} {k m : Nat} (h : b.length = m * 64) (hk : k < m) : (pieceB b k).length = 64 := by
  unfold pieceB
  rw [List.length_take, List.length_drop, h]
  have : (k + 1) * 64 ≤ m * 64 := Nat.mul_le_mul_right 64 hk
  omega
def writeE (S : DS) (first : Int) (b : List UInt8) : Int :=
  if mayE S first ((b.length / 64 : Nat) : Int) ≠ 0 then mayE S first ((b.length / 64 : Nat) : Int)
  else if b.length % 64 ≠ 0 then 1 else if (wrS S first.toNat (pieceB b) (b.length / 64)).off = true then 12 else 0
def writeD (S : DS) (first : Int) (b : List UInt8) : DS :=
  if mayE S first ((b.length / 64 : Nat) : Int) = 0 ∧ b.length % 64 = 0 then wrS S first.toNat (pieceB b) (b.length / 64) else S
theorem DWf.write {S : DS} (h : DWf S) (first : Int) (b : List UInt8) : DWf (writeD S first b) := by
  unfold writeD
  split
  · rename_i hc
    obtain ⟨h1, h2, h3, h4, h5⟩ := mayE_zero hc.1
    have hb : b.length = b.length / 64 * 64 := by omega
    exact h.wr (fun k hk => pieceB_len hb hk) (by omega)
  · exact h
def syncE (S : DS) : Int := if S.off = true then 12 else 0
def syncD (S : DS) : DS := if S.off = true then S else ⟨S.n, nowS S, fun _ => none, S.left, S.off⟩
theorem DWf.sync {S : DS} (h : DWf S) : DWf (syncD S) := by
  unfold syncD
  split
  · exact h
  · exact ⟨h.n1, h.n2, h.now, fun _ _ q => (by cases q), h.left0, h.leftM⟩
def cutD (S : DS) (n : Int) : DS := ⟨S.n, S.last, S.cch, max n 0, S.off⟩
theorem DWf.cut {S : DS} (h : DWf S) {n : Int} (hn : n ≤ 9223372036854775807) : DWf (cutD S n) := ⟨h.n1, h.n2, h.last, h.cch, by show (0 : Int) ≤ max n 0; omega, by show max n 0 ≤ (9223372036854775807 : Int); omega⟩
/-! What is in the cache, in order; how many stand before. -/
def dirtyS (S : DS) (i : Nat) : Bool := (S.cch i).isSome
def dirtyL (S : DS) : List Nat := (List.range S.n).filter (dirtyS S)
def rk (p : Nat → Bool) (i : Nat) : Nat := ((List.range i).filter p).length
theorem rk_succ (p : Nat → Bool) (i : Nat) : rk p (i + 1) = rk p i + if p i = true then 1 else 0 := by
  unfold rk
  rw [List.range_succ, List.filter_append, List.length_append]
  congr 1
  cases h : p i <;> simp [h]
theorem filt_get (p : Nat → Bool) : ∀ (n k i : Nat), ((List.range n).filter p)[k]? = some i → k = rk p i ∧ i < n ∧ p i = true
  | 0, k, i, h => by simp at h
  | n + 1, k, i, h => by
    rw [List.range_succ, List.filter_append] at h
    by_cases hk : k < ((List.range n).filter p).length
    · rw [List.getElem?_append_left hk] at h
      obtain ⟨a, b, c⟩ := filt_get p n k i h
      exact ⟨a, by omega, c⟩
    · rw [List.getElem?_append_right (by omega)] at h
      cases hp : p n with
      | false => simp [hp] at h
      | true =>
        simp only [List.filter_cons, hp, if_true, List.filter_nil] at h
        have hz : k - ((List.range n).filter p).length = 0 := by
          have := (List.getElem?_eq_some_iff.1 h).1
          simpa using this
        rw [hz] at h
        simp at h
        subst h
        exact ⟨by unfold rk; omega, by omega, hp⟩
theorem filt_rk (p : Nat → Bool) {n i : Nat} (hi : i < n) (hp : p i = true) : ((List.range n).filter p)[rk p i]? = some i := by
  have hm : i ∈ (List.range n).filter p := List.mem_filter.2 ⟨List.mem_range.2 hi, hp⟩
  obtain ⟨k, hk⟩ := List.getElem?_of_mem hm
  rw [← (filt_get p n k i hk).1]
  exact hk
def crashD (S : DS) (kept : List Bool) : DS := ⟨S.n, fun i => if dirtyS S i = true ∧ kept.getD (rk (dirtyS S) i) false = true then nowS S i else S.last i, fun _ => none, 0, false⟩
theorem DWf.crash {S : DS} (h : DWf S) (kept : List Bool) : DWf (crashD S kept) :=
  ⟨h.n1, h.n2, fun i => by
    show (if dirtyS S i = true ∧ kept.getD (rk (dirtyS S) i) false = true then nowS S i else S.last i).length = 64
    split
    · exact h.now i
    · exact h.last i, fun _ _ q => (by cases q), by show (0 : Int) ≤ 0; decide, by show (0 : Int) ≤ _; decide⟩
/-! Values. -/
def secV (s : List UInt8) : Value := .agg (s.map bV).toArray
def cD (S : DS) (k : Int) : Option Value := if k < 0 then none else (S.cch k.toNat).map secV
theorem cD_nat (S : DS) (k : Nat) : cD S (k : Int) = (S.cch k).map secV := by unfold cD; rw [if_neg (by omega), Int.toNat_natCast]
def dirtyI (S : DS) : List Int := (dirtyL S).map fun (i : Nat) => (i : Int)
theorem dirtyL_sorted (S : DS) : (dirtyL S).Pairwise (· < ·) := (List.pairwise_lt_range).filter _
theorem dirtyI_sorted (S : DS) : (dirtyI S).Pairwise (· < ·) := by
  unfold dirtyI
  rw [List.pairwise_map]
  exact (dirtyL_sorted S).imp fun h => by omega
theorem dirtyL_le {S : DS} (h : DWf S) : (dirtyL S).length ≤ 8192 := by
  have := List.length_filter_le (dirtyS S) (List.range S.n)
  rw [List.length_range] at this
  exact Nat.le_trans this h.n2
theorem mem_dirtyI {S : DS} (h : DWf S) {k : Int} : k ∈ dirtyI S ↔ 0 ≤ k ∧ (S.cch k.toNat).isSome = true := by
  unfold dirtyI dirtyL
  rw [List.mem_map]
  constructor
  · rintro ⟨i, hi, rfl⟩
    exact ⟨by omega, by rw [Int.toNat_natCast]; exact (List.mem_filter.1 hi).2⟩
  · rintro ⟨h0, h1⟩
    refine ⟨k.toNat, List.mem_filter.2 ⟨List.mem_range.2 ?_, h1⟩, by omega⟩
    obtain ⟨s, hs⟩ := Option.isSome_iff_exists.1 h1
    exact (h.cch _ s hs).1
end Go.Proofs.Ytpfmadinijofeaa
end
section
/- The sum of 32 bits as plain numbers: bit steps, nibbles, bytes, texts; no program in sight. -/
namespace Go.Proofs.Ytpfmadinijofeaa
def st (n : Nat) : Nat := if n % 2 = 1 then (n / 2) ^^^ 3988292384 else n / 2
def iter (f : Nat → Nat) : Nat → Nat → Nat
  | 0, n => n
  | k + 1, n => f (iter f k n)
def tbl : List Nat := [0, 498536548, 997073096, 651767980, 1994146192, 1802195444, 1303535960, 1342533948, 3988292384, 4027552580, 3604390888, 3412177804, 2607071920, 2262029012, 2685067896, 3183342108]
theorem tbl_ok : ∀ k, k < 16 → iter st 4 k = tbl.getD k 0 := by decide
theorem tbl_lt : ∀ k, tbl.getD k 0 < 4294967296 := by
  intro k
  by_cases h : k < 16
  · exact (by decide : ∀ k, k < 16 → tbl.getD k 0 < 4294967296) k h
  · rw [List.getD_eq_getElem?_getD, List.getElem?_eq_none (by show 16 ≤ k; omega)]; decide
def nib (n : Nat) : Nat := (n / 16) ^^^ (tbl.getD (n % 16) 0)
def cb (n x : Nat) : Nat := nib (nib (n ^^^ x))
def crcL (n : Nat) (bs : List UInt8) : Nat := bs.foldl (fun n x => cb n x.toNat) n
def cpl (n : Nat) : Nat := 4294967295 ^^^ n
/-- 'More'. -/
def more (n : Nat) (bs : List UInt8) : Nat := cpl (crcL (cpl n) bs)
/-- 'Sum' of parts, from a sum on. -/
def crcP (n : Nat) (ps : List (List UInt8)) : Nat := ps.foldl more n

theorem xlt {a b : Nat} (ha : a < 4294967296) (hb : b < 4294967296) : a ^^^ b < 4294967296 := Nat.xor_lt_two_pow (n := 32) ha hb
theorem st_lt {n : Nat} (h : n < 4294967296) : st n < 4294967296 := by
  unfold st
  split
  · exact xlt (by omega) (by omega)
  · omega
theorem iter_lt {n : Nat} (k : Nat) (h : n < 4294967296) : iter st k n < 4294967296 := by
  induction k with
  | zero => exact h
  | succ k ih => exact st_lt ih
theorem nib_lt {n : Nat} (h : n < 4294967296) : nib n < 4294967296 := xlt (by omega) (tbl_lt _)
theorem cb_lt {n : Nat} (x : UInt8) (h : n < 4294967296) : cb n x.toNat < 4294967296 := nib_lt (nib_lt (xlt h (by have := x.toNat_lt; omega)))
theorem crcL_lt (bs : List UInt8) : ∀ {n : Nat}, n < 4294967296 → crcL n bs < 4294967296 := by
  induction bs with
  | nil => intro n h; exact h
  | cons x bs ih => intro n h; exact ih (cb_lt x h)
theorem xself (a b : Nat) : a ^^^ (a ^^^ b) = b := by rw [← Nat.xor_assoc, Nat.xor_self, Nat.zero_xor]
theorem cpl_def (n : Nat) : cpl n = 4294967295 ^^^ n := rfl
theorem cpl_lt {n : Nat} (h : n < 4294967296) : cpl n < 4294967296 := by
  unfold cpl
  exact xlt (by decide) h
theorem more_lt {n : Nat} (bs : List UInt8) (h : n < 4294967296) : more n bs < 4294967296 := cpl_lt (crcL_lt _ (cpl_lt h))
theorem cpl_cpl (n : Nat) : cpl (cpl n) = n := by rw [cpl_def, cpl_def, xself]
theorem crcP_lt (ps : List (List UInt8)) : ∀ {n : Nat}, n < 4294967296 → crcP n ps < 4294967296 := by
  induction ps with
  | nil => intro n h; exact h
  | cons x bs ih => intro n h; exact ih (more_lt _ h)
theorem crcL_append (n : Nat) (a b : List UInt8) : crcL n (a ++ b) = crcL (crcL n a) b := List.foldl_append
theorem more_append {n : Nat} (a b : List UInt8) : more n (a ++ b) = more (more n a) b := by
  unfold more
  rw [crcL_append, cpl_cpl]
theorem more_nil (n : Nat) : more n [] = n := cpl_cpl n
/-- Parts, one behind the other, are all at once. -/
theorem crcP_join (ps : List (List UInt8)) : ∀ n : Nat, crcP n ps = more n ps.flatten := by
  induction ps with
  | nil => intro n; exact (more_nil n).symm
  | cons x bs ih =>
    intro n
    show crcP (more n x) bs = more n (x ++ bs.flatten)
    rw [ih, more_append]

/-! A bit step is linear; four of them are a nibble. -/
theorem xlc (a b c : Nat) : a ^^^ (b ^^^ c) = b ^^^ (a ^^^ c) := by rw [← Nat.xor_assoc, Nat.xor_comm a b, Nat.xor_assoc]
theorem div_xor (a b : Nat) : (a ^^^ b) / 2 = a / 2 ^^^ b / 2 := by
  apply Nat.eq_of_testBit_eq; intro i; simp [Nat.testBit_div_two]
theorem st_xor (a b : Nat) : st (a ^^^ b) = st a ^^^ st b := by
  have h : (a ^^^ b) % 2 = (a % 2 + b % 2) % 2 := by
    have h1 := @Nat.xor_mod_two_eq_one a b
    rcases Nat.mod_two_eq_zero_or_one a with x | x <;> rcases Nat.mod_two_eq_zero_or_one b with y | y <;> rcases Nat.mod_two_eq_zero_or_one (a ^^^ b) with z | z <;> simp [x, y, z] at h1 ⊢
  unfold st
  rw [h, div_xor]
  rcases Nat.mod_two_eq_zero_or_one a with x | x <;> rcases Nat.mod_two_eq_zero_or_one b with y | y <;> simp [x, y]
  · rw [Nat.xor_assoc]
  · rw [Nat.xor_comm (a / 2 ^^^ 3988292384), xlc, Nat.xor_comm (b / 2), Nat.xor_assoc, Nat.xor_comm 3988292384]
  · rw [Nat.xor_assoc, Nat.xor_comm (b / 2), xself]
theorem iter_xor (k a b : Nat) : iter st k (a ^^^ b) = iter st k a ^^^ iter st k b := by
  induction k with
  | zero => rfl
  | succ k ih => show st (iter st k (a ^^^ b)) = _; rw [ih, st_xor]; rfl
theorem iter_add (j k a : Nat) : iter st (j + k) a = iter st j (iter st k a) := by
  induction j with
  | zero => rw [Nat.zero_add]; rfl
  | succ j ih => rw [Nat.succ_add]; show st (iter st (j + k) a) = st (iter st j (iter st k a)); rw [ih]
theorem st_even (a : Nat) : st (2 * a) = a := by unfold st; rw [if_neg (by omega)]; omega
theorem nib_iter (n : Nat) : nib n = iter st 4 n := by
  have e : n = (16 * (n / 16)) ^^^ (n % 16) := by
    apply Nat.eq_of_testBit_eq; intro i
    rw [Nat.testBit_xor, show 16 = 2 ^ 4 from rfl, Nat.testBit_two_pow_mul, Nat.testBit_mod_two_pow, Nat.testBit_div_two_pow]
    by_cases h : 4 ≤ i
    · simp [h, show ¬ i < 4 by omega, show i - 4 + 4 = i by omega]
    · simp [h, show i < 4 by omega]
  have h2 : iter st 4 (16 * (n / 16)) = n / 16 := by
    show st (st (st (st (16 * (n / 16))))) = _
    rw [show 16 * (n / 16) = 2 * (2 * (2 * (2 * (n / 16)))) by omega, st_even, st_even, st_even, st_even]
  conv => rhs; rw [e]
  rw [iter_xor, h2, tbl_ok _ (Nat.mod_lt _ (by omega))]; rfl
theorem cb_iter (n x : Nat) : cb n x = iter st 8 (n ^^^ x) := by
  unfold cb; rw [nib_iter, nib_iter, ← iter_add]

/-! The division of bits: each bit of the byte as it comes. -/
def rst (n x k : Nat) : Nat := if (n % 2 + x / 2 ^ k % 2) % 2 = 1 then (n / 2) ^^^ 3988292384 else n / 2
def rsteps (x : Nat) : Nat → Nat → Nat
  | 0, n => n
  | k + 1, n => rst (rsteps x k n) x k
theorem rst_lt {n : Nat} (x k : Nat) (h : n < 4294967296) : rst n x k < 4294967296 := by
  unfold rst
  split
  · exact xlt (by omega) (by omega)
  · omega
theorem rsteps_lt {n : Nat} (x k : Nat) (h : n < 4294967296) : rsteps x k n < 4294967296 := by
  induction k with
  | zero => exact h
  | succ k ih => exact rst_lt _ _ ih
theorem rsteps_iter (x n k : Nat) : iter st k (n ^^^ x) = rsteps x k n ^^^ (x / 2 ^ k) := by
  induction k with
  | zero => show n ^^^ x = n ^^^ x / 1; rw [Nat.div_one]
  | succ k ih =>
    show st (iter st k (n ^^^ x)) = rst (rsteps x k n) x k ^^^ (x / 2 ^ (k + 1))
    rw [ih, st_xor]
    generalize rsteps x k n = m
    have e : x / 2 ^ (k + 1) = x / 2 ^ k / 2 := by rw [Nat.pow_succ, Nat.div_div_eq_div_mul]
    rw [e]
    unfold rst
    generalize x / 2 ^ k = y
    unfold st
    rcases Nat.mod_two_eq_zero_or_one m with a | a <;> rcases Nat.mod_two_eq_zero_or_one y with b | b <;> simp [a, b]
    · rw [Nat.xor_assoc, Nat.xor_comm (y / 2)]
    · rw [Nat.xor_assoc, Nat.xor_comm (y / 2), xself]
theorem cb_rsteps (n : Nat) (x : UInt8) : cb n x.toNat = rsteps x.toNat 8 n := by
  rw [cb_iter, rsteps_iter, Nat.div_eq_of_lt (by have := x.toNat_lt; omega), Nat.xor_zero]

/-! Two texts whose difference lies within four bytes have unlike sums. -/
theorem st_zero {e : Nat} (h : e < 4294967296) (h0 : st e = 0) : e = 0 := by
  unfold st at h0
  split at h0
  · have h1 : e / 2 = 3988292384 := by
      have h2 := xself 3988292384 (e / 2)
      rw [Nat.xor_comm 3988292384 (e / 2), h0, Nat.xor_zero] at h2
      exact h2.symm
    omega
  · omega
theorem iter_zero (k : Nat) : ∀ {e : Nat}, e < 4294967296 → iter st k e = 0 → e = 0 := by
  induction k with
  | zero => intro e _ h; exact h
  | succ k ih => intro e he h; exact ih he (st_zero (iter_lt k he) h)
theorem cb_xor (n e x d : Nat) : cb (n ^^^ e) (x ^^^ d) = cb n x ^^^ iter st 8 (e ^^^ d) := by
  rw [cb_iter, cb_iter, ← iter_xor]
  congr 1
  rw [Nat.xor_assoc, Nat.xor_assoc, xlc e x d]
theorem crcL_xor (post : List UInt8) : ∀ (n e : Nat), crcL (n ^^^ e) post = crcL n post ^^^ iter st (8 * post.length) e := by
  induction post with
  | nil => intro n e; rfl
  | cons x r ih =>
    intro n e
    show crcL (cb (n ^^^ e) x.toNat) r = crcL (cb n x.toNat) r ^^^ iter st (8 * (r.length + 1)) e
    have h := cb_xor n e x.toNat 0
    rw [Nat.xor_zero, Nat.xor_zero] at h
    rw [h, ih, Nat.mul_add, iter_add]
theorem st_shift (k : Nat) : ∀ e, iter st k (2 ^ k * e) = e := by
  induction k with
  | zero => intro e; show 1 * e = e; rw [Nat.one_mul]
  | succ k ih =>
    intro e
    rw [iter_add k 1, show iter st 1 (2 ^ (k + 1) * e) = 2 ^ k * e from ?_]
    · exact ih e
    · show st (2 ^ (k + 1) * e) = _
      rw [Nat.pow_succ, Nat.mul_comm (2 ^ k) 2, Nat.mul_assoc, st_even]
theorem xeq {a b : Nat} (h : a ^^^ b = 0) : a = b := by rw [← xself a b, h, Nat.xor_zero]
theorem iter8_eq {u v : Nat} (hu : u < 4294967296) (hv : v < 16777216) (h : iter st 8 u = v) : u = 256 * v := by
  have h2 := st_shift 8 v
  have h3 : iter st 8 (u ^^^ 2 ^ 8 * v) = 0 := by rw [iter_xor, h, h2, Nat.xor_self]
  exact xeq (iter_zero 8 (xlt hu (by omega)) h3)
theorem xor_out {a b c : Nat} (h : a ^^^ b = c) : a = b ^^^ c := by rw [← h, Nat.xor_comm a b, xself]
theorem four_zero {d0 d1 d2 d3 : Nat} (h0 : d0 < 256) (h1 : d1 < 256) (h2 : d2 < 256) (h3 : d3 < 256)
    (h : iter st 8 (iter st 8 (iter st 8 (iter st 8 d0 ^^^ d1) ^^^ d2) ^^^ d3) = 0) : d0 = 0 ∧ d1 = 0 ∧ d2 = 0 ∧ d3 = 0 := by
  have l0 : iter st 8 d0 < 4294967296 := iter_lt 8 (by omega)
  have l1 : iter st 8 (iter st 8 d0 ^^^ d1) < 4294967296 := iter_lt 8 (xlt l0 (by omega))
  have l2 : iter st 8 (iter st 8 (iter st 8 d0 ^^^ d1) ^^^ d2) < 4294967296 := iter_lt 8 (xlt l1 (by omega))
  have a3 := iter_zero 8 (xlt l2 (show d3 < 4294967296 by omega)) h
  have a2 := xor_out (iter8_eq (xlt l1 (show d2 < 4294967296 by omega)) (show d3 < 16777216 by omega) (xeq a3))
  have m2 : d2 ^^^ 256 * d3 < 16777216 := Nat.xor_lt_two_pow (n := 24) (by omega) (by omega)
  have a1 := xor_out (iter8_eq (xlt l0 (show d1 < 4294967296 by omega)) m2 a2)
  have m2' : d2 ^^^ 256 * d3 < 65536 := Nat.xor_lt_two_pow (n := 16) (by omega) (by omega)
  generalize hz : d2 ^^^ 256 * d3 = z at *
  have m1 : d1 ^^^ 256 * z < 16777216 := Nat.xor_lt_two_pow (n := 24) (by omega) (by omega)
  have a0 := iter8_eq (show d0 < 4294967296 by omega) m1 a1
  generalize hy : d1 ^^^ 256 * z = y at *
  have y0 : y = 0 := by omega
  subst y0
  have := xeq hy
  have z0 : z = 0 := by omega
  subst z0
  have := xeq hz
  omega
theorem crc_differs (pre post : List UInt8) (x0 x1 x2 x3 y0 y1 y2 y3 : UInt8) (d0 d1 d2 d3 : Nat) (h0 : d0 < 256) (h1 : d1 < 256) (h2 : d2 < 256) (h3 : d3 < 256)
    (e0 : y0.toNat = x0.toNat ^^^ d0) (e1 : y1.toNat = x1.toNat ^^^ d1) (e2 : y2.toNat = x2.toNat ^^^ d2) (e3 : y3.toNat = x3.toNat ^^^ d3) (hd : ¬ (d0 = 0 ∧ d1 = 0 ∧ d2 = 0 ∧ d3 = 0)) :
    more 0 (pre ++ [x0, x1, x2, x3] ++ post) ≠ more 0 (pre ++ [y0, y1, y2, y3] ++ post) := by
  intro h
  unfold more at h
  have h' : crcL (cpl 0) (pre ++ [x0, x1, x2, x3] ++ post) = crcL (cpl 0) (pre ++ [y0, y1, y2, y3] ++ post) := by rw [← cpl_cpl (crcL (cpl 0) (pre ++ [x0, x1, x2, x3] ++ post)), h, cpl_cpl]
  rw [crcL_append, crcL_append, crcL_append, crcL_append] at h'
  generalize crcL (cpl 0) pre = s at h'
  have c0 : cb s y0.toNat = cb s x0.toNat ^^^ iter st 8 d0 := by have := cb_xor s 0 x0.toNat d0; rwa [Nat.xor_zero, Nat.zero_xor, ← e0] at this
  have c1 := cb_xor (cb s x0.toNat) (iter st 8 d0) x1.toNat d1
  have c2 := cb_xor (cb (cb s x0.toNat) x1.toNat) (iter st 8 (iter st 8 d0 ^^^ d1)) x2.toNat d2
  have c3 := cb_xor (cb (cb (cb s x0.toNat) x1.toNat) x2.toNat) (iter st 8 (iter st 8 (iter st 8 d0 ^^^ d1) ^^^ d2)) x3.toNat d3
  rw [← c0, ← e1] at c1
  rw [← c1, ← e2] at c2
  rw [← c2, ← e3] at c3
  rw [show crcL s [y0, y1, y2, y3] = cb (cb (cb (cb s y0.toNat) y1.toNat) y2.toNat) y3.toNat from rfl, c3, crcL_xor] at h'
  rw [show crcL s [x0, x1, x2, x3] = cb (cb (cb (cb s x0.toNat) x1.toNat) x2.toNat) x3.toNat from rfl] at h'
  generalize hE : iter st 8 (iter st 8 (iter st 8 (iter st 8 d0 ^^^ d1) ^^^ d2) ^^^ d3) = E at *
  have hz : iter st (8 * post.length) E = 0 := by
    generalize crcL (cb (cb (cb (cb s x0.toNat) x1.toNat) x2.toNat) x3.toNat) post = c at h'
    have h6 := xself c (iter st (8 * post.length) E)
    rw [← h', Nat.xor_self] at h6
    exact h6.symm
  have l3 : E < 4294967296 := by
    rw [← hE]
    exact iter_lt 8 (xlt (iter_lt 8 (xlt (iter_lt 8 (xlt (iter_lt 8 (by omega)) (by omega))) (by omega))) (by omega))
  have := iter_zero _ l3 hz
  exact hd (four_zero h0 h1 h2 h3 (hE.trans this))
end Go.Proofs.Ytpfmadinijofeaa
end
