import Derived.Test.YtpfmadinijofeaaProg
import Derived.Test.YtpfmadinijofeaaMSl2
import Derived.Test.YtpfmadinijofeaaMSl3
import Derived.RangeFuncBox
import Derived.RangeFuncLeaves
import Derived.Shelf.Abstract
import Derived.WalkKit
import Derived.OwnWalkIn
import Derived.TacticsInMore
import Derived.LoopNIn
import Derived.LoopIn
import Derived.RegionIn
import Derived.Maps.AppendAt
import Derived.Test.YtpfmadinijofeaaMSl1
import Derived.Test.YtpfmadinijofeaaRows
import Derived.Test.YtpfmadinijofeaaMSl4
set_option linter.unusedVariables false
section
/- Conditions of functions, printed by a program of this claim's own (vcgen.py) out of the loaded code; each is proved to be enough. -/
set_option maxRecDepth 100000
namespace Go.Proofs.Ytpfmadinijofeaa
open Go.RowKit
namespace GDk
def env : Env := ⟨[(3, ⟨.int .i64, 1, .int .i64 0, 8, [.int .i64]⟩), (4, ⟨.bool, 1, .bool false, 1, [.bool]⟩), (5, ⟨.int .u8, 1, .int .u8 0, 1, [.int .u8]⟩), (22, ⟨.slice 5, 1, .slice none 0 0, 24, [.slice]⟩), (24, ⟨.ptr, 1, .pointer none, 8, [.ptr]⟩), (44, ⟨.slice 22, 1, .slice none 0 0, 24, [.slice]⟩), (60, ⟨.slice 3, 1, .slice none 0 0, 24, [.slice]⟩), (64, ⟨.slice 4, 1, .slice none 0 0, 24, [.slice]⟩), (94, ⟨.slice 110, 1, .slice none 0 0, 24, [.slice]⟩), (95, ⟨.map 3 110, 1, .map none, 8, [.map]⟩), (97, ⟨.struct [(0, 94), (1, 95), (2, 3), (3, 4)], 4, .agg #[.slice none 0 0, .map none, .int .i64 0, .bool false], 48, [.slice, .map, .int .i64, .bool]⟩), (110, ⟨.arr 64 5, 64, .agg (List.replicate 64 (.int .u8 0)).toArray, 64, [.bytes 64]⟩)], [(36, [.lf (.slice)]), (53, [.lf (.int .i64)]), (54, [.lf (.slice)]), (55, [.lf (.any)]), (56, [.lf (.bool)]), (68, [.lf (.slice)]), (69, [.lf (.any)])], []⟩
theorem ty3 : TyOk Try.prog 3 ⟨.int .i64, 1, .int .i64 0, 8, [.int .i64]⟩ := tyok (by kernel_rfl) (by kernel_rfl)
theorem ty4 : TyOk Try.prog 4 ⟨.bool, 1, .bool false, 1, [.bool]⟩ := tyok (by kernel_rfl) (by kernel_rfl)
theorem ty5 : TyOk Try.prog 5 ⟨.int .u8, 1, .int .u8 0, 1, [.int .u8]⟩ := tyok (by kernel_rfl) (by kernel_rfl)
theorem ty22 : TyOk Try.prog 22 ⟨.slice 5, 1, .slice none 0 0, 24, [.slice]⟩ := tyok (by kernel_rfl) (by kernel_rfl)
theorem ty24 : TyOk Try.prog 24 ⟨.ptr, 1, .pointer none, 8, [.ptr]⟩ := tyok (by kernel_rfl) (by kernel_rfl)
theorem ty44 : TyOk Try.prog 44 ⟨.slice 22, 1, .slice none 0 0, 24, [.slice]⟩ := tyok (by kernel_rfl) (by kernel_rfl)
theorem ty60 : TyOk Try.prog 60 ⟨.slice 3, 1, .slice none 0 0, 24, [.slice]⟩ := tyok (by kernel_rfl) (by kernel_rfl)
theorem ty64 : TyOk Try.prog 64 ⟨.slice 4, 1, .slice none 0 0, 24, [.slice]⟩ := tyok (by kernel_rfl) (by kernel_rfl)
theorem ty94 : TyOk Try.prog 94 ⟨.slice 110, 1, .slice none 0 0, 24, [.slice]⟩ := tyok (by kernel_rfl) (by kernel_rfl)
theorem ty95 : TyOk Try.prog 95 ⟨.map 3 110, 1, .map none, 8, [.map]⟩ := tyok (by kernel_rfl) (by kernel_rfl)
theorem ty97 : TyOk Try.prog 97 ⟨.struct [(0, 94), (1, 95), (2, 3), (3, 4)], 4, .agg #[.slice none 0 0, .map none, .int .i64 0, .bool false], 48, [.slice, .map, .int .i64, .bool]⟩ := tyok (by kernel_rfl) (by kernel_rfl)
theorem ty110 : TyOk Try.prog 110 ⟨.arr 64 5, 64, .agg (List.replicate 64 (.int .u8 0)).toArray, 64, [.bytes 64]⟩ := tyok (by kernel_rfl) (by kernel_rfl)
theorem fn36 : FnOk Try.prog 36 := fnok Try.func36 (by kernel_rfl) (by kernel_rfl)
theorem fn53 : FnOk Try.prog 53 := fnok Try.func53 (by kernel_rfl) (by kernel_rfl)
theorem fn54 : FnOk Try.prog 54 := fnok Try.func54 (by kernel_rfl) (by kernel_rfl)
theorem fn55 : FnOk Try.prog 55 := fnok Try.func55 (by kernel_rfl) (by kernel_rfl)
theorem fn56 : FnOk Try.prog 56 := fnok Try.func56 (by kernel_rfl) (by kernel_rfl)
theorem fn68 : FnOk Try.prog 68 := fnok Try.func68 (by kernel_rfl) (by kernel_rfl)
theorem fn69 : FnOk Try.prog 69 := fnok Try.func69 (by kernel_rfl) (by kernel_rfl)
theorem envOk : EOk Try.prog env := ⟨(by simp only [env, List.forall_mem_cons, List.not_mem_nil, false_implies, implies_true, and_true]; exact ⟨ty3, ty4, ty5, ty22, ty24, ty44, ty60, ty64, ty94, ty95, ty97, ty110⟩), (by simp only [env, List.forall_mem_cons, List.not_mem_nil, false_implies, implies_true, and_true]; exact ⟨fn36, fn53, fn54, fn55, fn56, fn68, fn69⟩), by kernel_rfl, (fun _ h => by cases h)⟩
/-- purser/disk.New -/
def dnew_vc (x0 : Int) (w : World) (K : Value → World → Prop) : Prop :=
  br (decide (x0 < 1)) (
    K (.tuple #[.pointer none, .int .i64 1]) w
  ) (
    br (decide (x0 > 8192)) (
      K (.tuple #[.pointer none, .int .i64 1]) w
    ) (
      (0 : Int) ≤ x0 ∧ x0 ≤ x0 ∧ ((64 : Nat) : Int) * x0 ≤ 281474976710656 ∧ x0 ≤ 9223372036854775807 ∧
      newO w (.cells (madeCells (Value.cells (.agg (List.replicate 64 (.int .u8 0)).toArray)) (x0.toNat * 64)) 110) fun g w_2 =>
      newO w_2 (.map #[] 0) fun g_2 w_3 =>
      newO w_3 (.cells #[.slice (some ⟨g, 0, none⟩) x0.toNat x0.toNat, .map (some g_2), .int .i64 0, .bool false] 97) fun g_3 w_4 =>
      K (.tuple #[.pointer (some ⟨g_3, 0, none⟩), .int .i64 0]) w_4
    )
  )
def dnew_notes : Notes := ⟨[], [], [], []⟩
theorem dnew_calls (x0 : Int) (w : World) (K : Value → World → Prop) (h : dnew_vc x0 w K) : Calls Try.prog 13 #[.int .i64 x0] w fun e w' => ∃ v, e = .returned v ∧ K v w' :=
  calls_of_fvc envOk Try.func13 dnew_notes [] [.int .i64 x0] w K (use_vc h (by as_aux_lemma => kernel_rfl))
/-- (*purser/disk.Disk).may -/
def dmay_vc (p0 : Option Addr) (x1 : Int) (x2 : Int) (w : World) (K : Value → World → Prop) : Prop :=
  br (Option.isNone p0) (
    K (.int .i64 1) w
  ) (
    withP p0 fun g12 o12 =>
    ∃ (b14 : Bool), w.cell? ⟨g12, o12 + 3, none⟩ = some (.bool b14) ∧
    br b14 (
      K (.int .i64 12) w
    ) (
      br (decide (x1 < 0)) (
        K (.int .i64 1) w
      ) (
        br (decide (x2 < 0)) (
          K (.int .i64 1) w
        ) (
          withP p0 fun g25 o25 =>
          ∃ (a27 : Option Addr) (n27 : Nat) (c27 : Nat), w.cell? ⟨g25, o25, none⟩ = some (.slice a27 n27 c27) ∧
          br (decide (x1 > ((n27 : Nat) : Int))) (
            K (.int .i64 1) w
          ) (
            withP p0 fun g34 o34 =>
            ∃ (a36 : Option Addr) (n36 : Nat) (c36 : Nat), w.cell? ⟨g34, o34, none⟩ = some (.slice a36 n36 c36) ∧
            br (decide (x2 > (IntKind.i64.wrap (((n36 : Nat) : Int) - x1)))) (
              K (.int .i64 1) w
            ) (
              K (.int .i64 0) w
            )
          )
        )
      )
    )
  )
def dmay_notes : Notes := ⟨[], [], [], []⟩
theorem dmay_calls (p0 : Option Addr) (x1 : Int) (x2 : Int) (w : World) (K : Value → World → Prop) (h : dmay_vc p0 x1 x2 w K) : Calls Try.prog 53 #[.pointer p0, .int .i64 x1, .int .i64 x2] w fun e w' => ∃ v, e = .returned v ∧ K v w' :=
  calls_of_fvc envOk Try.func53 dmay_notes [] [.pointer p0, .int .i64 x1, .int .i64 x2] w K (use_vc h (by as_aux_lemma => kernel_rfl))
/-- (*purser/disk.Disk).Size -/
def dsize_vc (p0 : Option Addr) (w : World) (K : Value → World → Prop) : Prop :=
  br (Option.isNone p0) (
    K (.int .i64 0) w
  ) (
    withP p0 fun g6 o6 =>
    ∃ (a8 : Option Addr) (n8 : Nat) (c8 : Nat), w.cell? ⟨g6, o6, none⟩ = some (.slice a8 n8 c8) ∧
    K (.int .i64 ((n8 : Nat) : Int)) w
  )
def dsize_notes : Notes := ⟨[], [], [], []⟩
theorem dsize_calls (p0 : Option Addr) (w : World) (K : Value → World → Prop) (h : dsize_vc p0 w K) : Calls Try.prog 58 #[.pointer p0] w fun e w' => ∃ v, e = .returned v ∧ K v w' :=
  calls_of_fvc envOk Try.func58 dsize_notes [] [.pointer p0] w K (use_vc h (by as_aux_lemma => kernel_rfl))
/-- (*purser/disk.Disk).Read -/
def dread_vc (p0 : Option Addr) (x1 : Int) (x2 : Int) (w : World) (K : Value → World → Prop) : Prop :=
  Calls Try.prog 53 #[.pointer p0, .int .i64 x1, .int .i64 x2] w fun e w_2 => KeepG [] w w_2 ∧
  ∃ (x16 : Int),
  e = .returned (.int .i64 x16) ∧
  br (decide (x16 ≠ 0)) (
    K (.tuple #[.slice none 0 0, .int .i64 x16]) w_2
  ) (
    ∃ (I : Option Addr → Nat → Nat → Int → World → Prop) (μ : Option Addr → Nat → Nat → Int → World → Nat),
    I none 0 0 0 w_2 ∧
    ∀ (a9 : Option Addr) (n9 : Nat) (c9 : Nat) (x21 : Int) (w_3 : World), I a9 n9 c9 x21 w_3 →
    br (decide (x21 < x2)) (
      withP p0 fun g26 o26 =>
      ∃ (mb28 : Option Nat), w_3.cell? ⟨g26, o26 + 1, none⟩ = some (.map mb28) ∧
      ∃ bs32_0 : List UInt8, bs32_0.length = 64 ∧
      ∃ b32_ok : Bool,
      (∃ r, MLk w_3 mb28 (IntKind.i64.wrap (x1 + x21)) r ∧ r.getD (.agg (List.replicate 64 (.int .u8 0)).toArray) = (.agg (bs32_0.map bV).toArray) ∧ r.isSome = b32_ok) ∧
      newO w_3 (.cells (List.replicate 64 (.int .u8 0)).toArray 110) fun g w_4 =>
      cond (Nat.beq (bs32_0.map bV).length 64) (cond (allOne (bs32_0.map bV)) (
        stO [] w_4 g 0 (bs32_0.map bV) fun w_5 =>
        br (!b32_ok) (
          withP p0 fun g38 o38 =>
          ∃ (a40 : Option Addr) (n40 : Nat) (c40 : Nat), w_5.cell? ⟨g38, o38, none⟩ = some (.slice a40 n40 c40) ∧
          withP a40 fun g44 o44 =>
          (0 : Int) ≤ IntKind.i64.wrap (x1 + x21) ∧ IntKind.i64.wrap (x1 + x21) < (((n40 : Nat) : Int) : Int) ∧
          ∃ bs45_0 : List UInt8, bs45_0.length = 64 ∧
          cellsAt w_5 g44 (o44 + (IntKind.i64.wrap (x1 + x21)).toNat * 64) (bs45_0.map bV) ∧
          cond (Nat.beq (bs45_0.map bV).length 64) (cond (allOne (bs45_0.map bV)) (
            stO [] w_5 g 0 (bs45_0.map bV) fun w_6 =>
            appO Try.prog [] w_6 5 1 1 22 a9 n9 c9 (.slice (some ⟨g, 0, none⟩) 64 64) fun m48_2 a48_2 c48_2 w_10 =>
            I a48_2 (n9 + m48_2) c48_2 (IntKind.i64.wrap (x21 + 1)) w_10 ∧ μ a48_2 (n9 + m48_2) c48_2 (IntKind.i64.wrap (x21 + 1)) w_10 < μ a9 n9 c9 x21 w_3
          ) False) False
        ) (
          appO Try.prog [] w_5 5 1 1 22 a9 n9 c9 (.slice (some ⟨g, 0, none⟩) 64 64) fun m48_3 a48_3 c48_3 w_11 =>
          I a48_3 (n9 + m48_3) c48_3 (IntKind.i64.wrap (x21 + 1)) w_11 ∧ μ a48_3 (n9 + m48_3) c48_3 (IntKind.i64.wrap (x21 + 1)) w_11 < μ a9 n9 c9 x21 w_3
        )
      ) False) False
    ) (
      K (.tuple #[.slice a9 n9 c9, .int .i64 0]) w_3
    )
  )
def dread_notes : Notes := ⟨[], [(6, ⟨[(9, .lf (.slice)), (21, .lf (.int .i64))], [], [22, 23, 10, 25, 26, 27, 28, 29, 30, 31, 32, 24, 33, 34, 11, 12, 35, 36, 37, 38, 39, 40, 41, 42, 43, 44, 45, 46, 47, 48, 9, 49, 21], []⟩)], [], []⟩
theorem dread_calls (p0 : Option Addr) (x1 : Int) (x2 : Int) (w : World) (K : Value → World → Prop) (h : dread_vc p0 x1 x2 w K) : Calls Try.prog 18 #[.pointer p0, .int .i64 x1, .int .i64 x2] w fun e w' => ∃ v, e = .returned v ∧ K v w' :=
  calls_of_fvc envOk Try.func18 dread_notes [] [.pointer p0, .int .i64 x1, .int .i64 x2] w K (use_vc h (by as_aux_lemma => kernel_rfl))
/-- (*purser/disk.Disk).put -/
def dput_vc (p0 : Option Addr) (x1 : Int) (a2 : Option Addr) (n2 : Nat) (c2 : Nat) (w : World) (K : Value → World → Prop) : Prop :=
  drewO w fun w_2 =>
  withP p0 fun g8 o8 =>
  ∃ (mb10 : Option Nat), w_2.cell? ⟨g8, o8 + 1, none⟩ = some (.map mb10) ∧
  withP a2 fun g13 o13 =>
  64 ≤ n2 ∧
  ∃ bs14_0 : List UInt8, bs14_0.length = 64 ∧
  cellsAt w_2 g13 o13 (bs14_0.map bV) ∧
  mapO w_2 mb10 (fun m => putM m x1 (.agg (bs14_0.map bV).toArray)) fun w_3 =>
  withP p0 fun g16 o16 =>
  ∃ (x18 : Int), w_3.cell? ⟨g16, o16 + 2, none⟩ = some (.int .i64 x18) ∧
  br (decide (x18 > 0)) (
    withP p0 fun g21 o21 =>
    ∃ (x23 : Int), w_3.cell? ⟨g21, o21 + 2, none⟩ = some (.int .i64 x23) ∧
    withP p0 fun g25 o25 =>
    stO [] w_3 g25 (o25 + 2) [.int .i64 (IntKind.i64.wrap (x23 - 1))] fun w_4 =>
    withP p0 fun g29 o29 =>
    ∃ (x31 : Int), w_4.cell? ⟨g29, o29 + 2, none⟩ = some (.int .i64 x31) ∧
    withP p0 fun g33 o33 =>
    stO [] w_4 g33 (o33 + 3) [.bool (decide (x31 = 0))] fun w_5 =>
    withP p0 fun g36_2 o36_2 =>
    ∃ (b38_2 : Bool), w_5.cell? ⟨g36_2, o36_2 + 3, none⟩ = some (.bool b38_2) ∧
    K (.bool (!b38_2)) w_5
  ) (
    withP p0 fun g36_3 o36_3 =>
    ∃ (b38_3 : Bool), w_3.cell? ⟨g36_3, o36_3 + 3, none⟩ = some (.bool b38_3) ∧
    K (.bool (!b38_3)) w_3
  )
def dput_notes : Notes := ⟨[(1, ⟨[0, 1, 3, 7, 0, 0, 32, 96, 255], [8], [0, 1, 2, 3, 4, 5, 6, 7]⟩)], [], [], []⟩
theorem dput_calls (p0 : Option Addr) (x1 : Int) (a2 : Option Addr) (n2 : Nat) (c2 : Nat) (w : World) (K : Value → World → Prop) (h : dput_vc p0 x1 a2 n2 c2 w K) : Calls Try.prog 56 #[.pointer p0, .int .i64 x1, .slice a2 n2 c2] w fun e w' => ∃ v, e = .returned v ∧ K v w' :=
  calls_of_fvc envOk Try.func56 dput_notes [] [.pointer p0, .int .i64 x1, .slice a2 n2 c2] w K (use_vc h (by as_aux_lemma => kernel_rfl))
/-- (*purser/disk.Disk).Write -/
def dwrite_vc (p0 : Option Addr) (x1 : Int) (a2 : Option Addr) (n2 : Nat) (c2 : Nat) (w : World) (K : Value → World → Prop) : Prop :=
  (64 : Int) ≠ 0 ∧
  Calls Try.prog 53 #[.pointer p0, .int .i64 x1, .int .i64 (IntKind.i64.wrap (Int.tdiv ((n2 : Nat) : Int) 64))] w fun e w_2 => KeepG [] w w_2 ∧
  ∃ (x15 : Int),
  e = .returned (.int .i64 x15) ∧
  br (decide (x15 ≠ 0)) (
    K (.int .i64 x15) w_2
  ) (
    (64 : Int) ≠ 0 ∧
    br (decide ((Int.tmod ((n2 : Nat) : Int) 64) ≠ 0)) (
      K (.int .i64 1) w_2
    ) (
      Calls Try.prog 55 #[.slice a2 n2 c2, .int .i64 64] w_2 fun e_2 w_3 => KeepG [] w_2 w_3 ∧
      ∃ (v24 : Value),
      e_2 = .returned (v24) ∧
      Calls Try.prog 54 #[v24] w_3 fun e_3 w_4 => KeepG [] w_3 w_4 ∧
      ∃ (a25 : Option Addr) (n25 : Nat) (c25 : Nat),
      e_3 = .returned (.slice a25 n25 c25) ∧
      ∃ (I : Int → World → Prop) (μ : Int → World → Nat),
      I 0 w_4 ∧
      ∀ (x27 : Int) (w_5 : World), I x27 w_5 →
      br (decide (x27 < ((n25 : Nat) : Int))) (
        withP a25 fun g30 o30 =>
        (0 : Int) ≤ x27 ∧ x27 < (((n25 : Nat) : Int) : Int) ∧
        ∃ (a31 : Option Addr) (n31 : Nat) (c31 : Nat), w_5.cell? ⟨g30, o30 + x27.toNat * 1, none⟩ = some (.slice a31 n31 c31) ∧
        Calls Try.prog 56 #[.pointer p0, .int .i64 (IntKind.i64.wrap (x1 + x27)), .slice a31 n31 c31] w_5 fun e_4 w_6 => KeepG [] w_5 w_6 ∧
        ∃ (b37 : Bool),
        e_4 = .returned (.bool b37) ∧
        br (!b37) (
          K (.int .i64 12) w_6
        ) (
          I (IntKind.i64.wrap (x27 + 1)) w_6 ∧ μ (IntKind.i64.wrap (x27 + 1)) w_6 < μ x27 w_5
        )
      ) (
        K (.int .i64 0) w_5
      )
    )
  )
def dwrite_notes : Notes := ⟨[], [(7, ⟨[(27, .lf (.int .i64))], [], [28, 29, 30, 31, 8, 9, 32, 33, 34, 35, 36, 37, 38, 6, 39, 27], []⟩)], [], []⟩
theorem dwrite_calls (p0 : Option Addr) (x1 : Int) (a2 : Option Addr) (n2 : Nat) (c2 : Nat) (w : World) (K : Value → World → Prop) (h : dwrite_vc p0 x1 a2 n2 c2 w K) : Calls Try.prog 17 #[.pointer p0, .int .i64 x1, .slice a2 n2 c2] w fun e w' => ∃ v, e = .returned v ∧ K v w' :=
  calls_of_fvc envOk Try.func17 dwrite_notes [] [.pointer p0, .int .i64 x1, .slice a2 n2 c2] w K (use_vc h (by as_aux_lemma => kernel_rfl))
/-- (*purser/disk.Disk).Sync -/
def dsync_vc (p0 : Option Addr) (w : World) (K : Value → World → Prop) : Prop :=
  Calls Try.prog 53 #[.pointer p0, .int .i64 0, .int .i64 0] w fun e w_2 => KeepG [] w w_2 ∧
  ∃ (x7 : Int),
  e = .returned (.int .i64 x7) ∧
  br (decide (x7 ≠ 0)) (
    K (.int .i64 x7) w_2
  ) (
    withP p0 fun g12 o12 =>
    ∃ (mb14 : Option Nat), w_2.cell? ⟨g12, o12 + 1, none⟩ = some (.map mb14) ∧
    rngO w_2 mb14 fun g w_3 =>
    ∃ (I : World → Prop) (μ : World → Nat),
    I w_3 ∧
    ∀ (w_4 : World), I w_4 →
    nxtO w_4 g (fun w_5 =>
      withP p0 fun g29 o29 =>
      ∃ (mb31 : Option Nat), w_5.cell? ⟨g29, o29 + 1, none⟩ = some (.map mb31) ∧
      ((mb31 = none ∧
        K (.int .i64 0) w_5
      ) ∨ (mapO w_5 mb31 (fun _ => []) fun w_6 =>
        K (.int .i64 0) w_6
      ))
    ) fun x16_k v16 w_7 =>
    ∃ bs18_0 : List UInt8, bs18_0.length = 64 ∧
    ∃ x18_k : Int,
    IterLast w_7 g x18_k (.agg (bs18_0.map bV).toArray) ∧
    newO w_7 (.cells (List.replicate 64 (.int .u8 0)).toArray 110) fun g_2 w_8 =>
    cond (Nat.beq (bs18_0.map bV).length 64) (cond (allOne (bs18_0.map bV)) (
      stO [] w_8 g_2 0 (bs18_0.map bV) fun w_9 =>
      drewO w_9 fun w_10 =>
      withP p0 fun g22 o22 =>
      ∃ (a24 : Option Addr) (n24 : Nat) (c24 : Nat), w_10.cell? ⟨g22, o22, none⟩ = some (.slice a24 n24 c24) ∧
      ∃ bs26_0 : List UInt8, bs26_0.length = 64 ∧
      cellsAt w_10 g_2 0 (bs26_0.map bV) ∧
      withP a24 fun g27 o27 =>
      (0 : Int) ≤ x18_k ∧ x18_k < (((n24 : Nat) : Int) : Int) ∧
      cond (Nat.beq (bs26_0.map bV).length 64) (cond (allOne (bs26_0.map bV)) (
        stO [] w_10 g27 (o27 + x18_k.toNat * 64) (bs26_0.map bV) fun w_11 =>
        I w_11 ∧ μ w_11 < μ w_4
      ) False) False
    ) False) False
  )
def dsync_notes : Notes := ⟨[(7, ⟨[0, 1, 3, 7, 0, 0, 63, 127], [7], [0, 1, 2, 3, 4, 5, 6]⟩)], [(5, ⟨[], [], [16, 17, 18, 19, 20, 5, 4, 21, 22, 23, 24, 25, 26, 27], []⟩)], [], []⟩
theorem dsync_calls (p0 : Option Addr) (w : World) (K : Value → World → Prop) (h : dsync_vc p0 w K) : Calls Try.prog 65 #[.pointer p0] w fun e w' => ∃ v, e = .returned v ∧ K v w' :=
  calls_of_fvc envOk Try.func65 dsync_notes [] [.pointer p0] w K (use_vc h (by as_aux_lemma => kernel_rfl))
/-- (*purser/disk.Disk).Dirty -/
def ddirty_vc (p0 : Option Addr) (w : World) (K : Value → World → Prop) : Prop :=
  br (Option.isNone p0) (
    K (.slice none 0 0) w
  ) (
    withP p0 fun g6 o6 =>
    ∃ (mb8 : Option Nat), w.cell? ⟨g6, o6 + 1, none⟩ = some (.map mb8) ∧
    Calls Try.prog 69 #[.map mb8] w fun e w_2 => KeepG [] w w_2 ∧
    ∃ (v9 : Value),
    e = .returned (v9) ∧
    Calls Try.prog 68 #[v9] w_2 fun e_2 w_3 => KeepG [] w_2 w_3 ∧
    ∃ (a10 : Option Addr) (n10 : Nat) (c10 : Nat),
    e_2 = .returned (.slice a10 n10 c10) ∧
    K (.slice a10 n10 c10) w_3
  )
def ddirty_notes : Notes := ⟨[], [], [], []⟩
theorem ddirty_calls (p0 : Option Addr) (w : World) (K : Value → World → Prop) (h : ddirty_vc p0 w K) : Calls Try.prog 36 #[.pointer p0] w fun e w' => ∃ v, e = .returned v ∧ K v w' :=
  calls_of_fvc envOk Try.func36 ddirty_notes [] [.pointer p0] w K (use_vc h (by as_aux_lemma => kernel_rfl))
/-- (*purser/disk.Disk).Cut -/
def dcut_vc (p0 : Option Addr) (x1 : Int) (w : World) (K : Value → World → Prop) : Prop :=
  br (!(Option.isNone p0)) (
    withP p0 fun g9 o9 =>
    stO [] w g9 (o9 + 2) [.int .i64 (max x1 0)] fun w_2 =>
    K (.tuple #[]) w_2
  ) (
    K (.tuple #[]) w
  )
def dcut_notes : Notes := ⟨[], [], [], []⟩
theorem dcut_calls (p0 : Option Addr) (x1 : Int) (w : World) (K : Value → World → Prop) (h : dcut_vc p0 x1 w K) : Calls Try.prog 37 #[.pointer p0, .int .i64 x1] w fun e w' => ∃ v, e = .returned v ∧ K v w' :=
  calls_of_fvc envOk Try.func37 dcut_notes [] [.pointer p0, .int .i64 x1] w K (use_vc h (by as_aux_lemma => kernel_rfl))
/-- (*purser/disk.Disk).Off -/
def doff_vc (p0 : Option Addr) (w : World) (K : Value → World → Prop) : Prop :=
  br (Option.isNone p0) (
    K (.bool true) w
  ) (
    withP p0 fun g7 o7 =>
    ∃ (b9 : Bool), w.cell? ⟨g7, o7 + 3, none⟩ = some (.bool b9) ∧
    K (.bool b9) w
  )
def doff_notes : Notes := ⟨[], [], [], []⟩
theorem doff_calls (p0 : Option Addr) (w : World) (K : Value → World → Prop) (h : doff_vc p0 w K) : Calls Try.prog 38 #[.pointer p0] w fun e w' => ∃ v, e = .returned v ∧ K v w' :=
  calls_of_fvc envOk Try.func38 doff_notes [] [.pointer p0] w K (use_vc h (by as_aux_lemma => kernel_rfl))
/-- (*purser/disk.Disk).Crash -/
def dcrash_vc (p0 : Option Addr) (a1 : Option Addr) (n1 : Nat) (c1 : Nat) (w : World) (K : Value → World → Prop) : Prop :=
  br (Option.isNone p0) (
    K (.tuple #[]) w
  ) (
    Calls Try.prog 36 #[.pointer p0] w fun e w_2 => KeepG [] w w_2 ∧
    ∃ (a9 : Option Addr) (n9 : Nat) (c9 : Nat),
    e = .returned (.slice a9 n9 c9) ∧
    ∃ (I : Int → World → Prop) (μ : Int → World → Nat),
    I 0 w_2 ∧
    ∀ (x11 : Int) (w_3 : World), I x11 w_3 →
    br (decide (x11 < ((n9 : Nat) : Int))) (
      withP a9 fun g14 o14 =>
      (0 : Int) ≤ x11 ∧ x11 < (((n9 : Nat) : Int) : Int) ∧
      ∃ (x15 : Int), w_3.cell? ⟨g14, o14 + x11.toNat * 1, none⟩ = some (.int .i64 x15) ∧
      br (decide (x11 < ((n1 : Nat) : Int))) (
        withP a1 fun g23 o23 =>
        (0 : Int) ≤ x11 ∧ x11 < (((n1 : Nat) : Int) : Int) ∧
        ∃ (b24 : Bool), w_3.cell? ⟨g23, o23 + x11.toNat * 1, none⟩ = some (.bool b24) ∧
        br b24 (
          drewO w_3 fun w_4 =>
          withP p0 fun g27 o27 =>
          ∃ (a29 : Option Addr) (n29 : Nat) (c29 : Nat), w_4.cell? ⟨g27, o27, none⟩ = some (.slice a29 n29 c29) ∧
          withP p0 fun g32 o32 =>
          ∃ (mb34 : Option Nat), w_4.cell? ⟨g32, o32 + 1, none⟩ = some (.map mb34) ∧
          ∃ bs36_0 : List UInt8, bs36_0.length = 64 ∧
          (∃ r, MLk w_4 mb34 x15 r ∧ r.getD (.agg (List.replicate 64 (.int .u8 0)).toArray) = (.agg (bs36_0.map bV).toArray)) ∧
          withP a29 fun g37 o37 =>
          (0 : Int) ≤ x15 ∧ x15 < (((n29 : Nat) : Int) : Int) ∧
          cond (Nat.beq (bs36_0.map bV).length 64) (cond (allOne (bs36_0.map bV)) (
            stO [] w_4 g37 (o37 + x15.toNat * 64) (bs36_0.map bV) fun w_5 =>
            I (IntKind.i64.wrap (x11 + 1)) w_5 ∧ μ (IntKind.i64.wrap (x11 + 1)) w_5 < μ x11 w_3
          ) False) False
        ) (
          I (IntKind.i64.wrap (x11 + 1)) w_3 ∧ μ (IntKind.i64.wrap (x11 + 1)) w_3 < μ x11 w_3
        )
      ) (
        I (IntKind.i64.wrap (x11 + 1)) w_3 ∧ μ (IntKind.i64.wrap (x11 + 1)) w_3 < μ x11 w_3
      )
    ) (
      withP p0 fun g40 o40 =>
      ∃ (mb42 : Option Nat), w_3.cell? ⟨g40, o40 + 1, none⟩ = some (.map mb42) ∧
      ((mb42 = none ∧
        withP p0 fun g45 o45 =>
        stO [] w_3 g45 (o45 + 2) [.int .i64 0] fun w_7 =>
        withP p0 fun g47 o47 =>
        stO [] w_7 g47 (o47 + 3) [.bool false] fun w_8 =>
        K (.tuple #[]) w_8
      ) ∨ (mapO w_3 mb42 (fun _ => []) fun w_9 =>
        withP p0 fun g45_2 o45_2 =>
        stO [] w_9 g45_2 (o45_2 + 2) [.int .i64 0] fun w_10 =>
        withP p0 fun g47_2 o47_2 =>
        stO [] w_10 g47_2 (o47_2 + 3) [.bool false] fun w_11 =>
        K (.tuple #[]) w_11
      ))
    )
  )
def dcrash_notes : Notes := ⟨[(5, ⟨[0, 1, 3, 7, 0, 0, 32, 96, 224, 0, 992, 2047, 4095], [12], [0, 1, 2, 3, 4, 5, 6, 7, 8, 9, 10, 11]⟩)], [(2, ⟨[(11, .lf (.int .i64))], [], [12, 13, 14, 15, 4, 5, 16, 17, 18, 19, 20, 21, 22, 23, 24, 25, 26, 27, 28, 29, 30, 31, 32, 33, 34, 35, 36, 37, 38, 11], []⟩)], [], []⟩
theorem dcrash_calls (p0 : Option Addr) (a1 : Option Addr) (n1 : Nat) (c1 : Nat) (w : World) (K : Value → World → Prop) (h : dcrash_vc p0 a1 n1 c1 w K) : Calls Try.prog 39 #[.pointer p0, .slice a1 n1 c1] w fun e w' => ∃ v, e = .returned v ∧ K v w' :=
  calls_of_fvc envOk Try.func39 dcrash_notes [] [.pointer p0, .slice a1 n1 c1] w K (use_vc h (by as_aux_lemma => kernel_rfl))
end GDk
end Go.Proofs.Ytpfmadinijofeaa
end
section
/- The sorted keys of a disk's cache: the library's contracts at this program. -/
namespace Go.Proofs.Ytpfmadinijofeaa
open Go.RowKit Go.Maps Go.Sort Go.Shelf
shelf_lay_g SlLaysZI.n7 Ggz 7 at Try 69 as Try.keysDisk
shelf_lay_g SlLaysZI.n6 Ggz 6 at Try 68 as Try.sortedI
shelf_lay_g SlLaysM.n5 Slgm 5 at Try 85 as Try.sortI
theorem sortsID (m : Nat) : AnyZI.SortsIn Try.prog Try.sortedI_ren Fence.wide m :=
  ⟨fun blk off cap ss W hH hblk hsz => callsIn_wide.2 (AnyM.slices_Sort_int Try.sortI blk off cap ss W hH hblk hsz),
   fun p cap W => callsIn_wide.2 (AnyM.slices_Sort_int_none Try.sortI p cap W)⟩
theorem keysDisk_calls (mb : Option Nat) (w : World) : Calls Try.prog 69 #[.map mb] w fun e w' => e = .returned (.func (.func 86) #[] #[.pointer (some ⟨w.heap.size, 0, none⟩)]) ∧ w' = w.alloc (.cells #[.map mb] 95) :=
  (callsIn_wide (n := 5)).1 (AnyZI.keys_in Try.keysDisk Fence.wide 5 trivial rfl mb w)
theorem sortDisk_calls (w : World) (Bm b : Nat) (m : List (Int × Value)) (hBm : Bm < w.heap.size) (hc : w.cell? ⟨Bm, 0, none⟩ = some (.map (some b))) (h : MapAt w b m)
    (hr : ∀ p ∈ m, -9223372036854775808 ≤ p.1 ∧ p.1 ≤ 9223372036854775807) (hl : m.length ≤ 1000000) :
    Calls Try.prog 68 #[.func (.func 86) #[] #[.pointer (some ⟨Bm, 0, none⟩)]] w fun e w' => ∃ a c, e = .returned (.slice a (sortK m).length c) ∧
      Own w' w.heap.size 3 1 (.slice a (sortK m).length c) (sortK m).length ((sortK m).map (Value.int .i64)) ∧ (a = none ↔ sortK m = []) ∧ Below w.heap.size w w' :=
  sortK_calls (ρK := Try.keysDisk_ren) (ρS := Try.sortedI_ren) { Try.keysDisk with } Try.sortedI Try.underlying3 (sortsID 4) (enters_of Try.func85 (by kernel_rfl) rfl) (enters_of Try.func86 (by kernel_rfl) rfl) w Bm b m hBm hc h hr hl
/-- 'slices.Sorted(maps.Keys(m))': a new slice with the keys, ascending. -/
theorem keysDisk_new {w : World} {mb : Nat} {m : List (Int × Value)} (h : MapAt w mb m) (hr : ∀ p ∈ m, -9223372036854775808 ≤ p.1 ∧ p.1 ≤ 9223372036854775807) (hl : m.length ≤ 1000000) {gs : List Nat} {w0 : World} {K : Value → World → Prop} (B : Bs w0 w)
    (k : ∀ a c w2, Own w2 w.heap.size 3 1 (.slice a (sortK m).length c) (sortK m).length ((sortK m).map (Value.int .i64)) → (a = none ↔ sortK m = []) → Below w.heap.size w w2 → Bs w0 w2 → K (.slice a (sortK m).length c) w2) :
    Calls Try.prog 69 #[.map (some mb)] w fun e w1 => KeepG gs w w1 ∧ ∃ v : Value, e = .returned v ∧ Calls Try.prog 68 #[v] w1 fun e w2 => KeepG gs w1 w2 ∧ ∃ (a : Option Addr) (n c : Nat), e = .returned (.slice a n c) ∧ K (.slice a n c) w2 := by
  refine (keysDisk_calls (some mb) w).mono ?_
  rintro e w1 ⟨rfl, rfl⟩
  have b1 : Below w.heap.size w (w.alloc (.cells #[.map (some mb)] 95)) := Below_one _
  refine ⟨keepG_below b1, _, rfl, ?_⟩
  have hc : (w.alloc (.cells #[.map (some mb)] 95)).cell? ⟨w.heap.size, 0, none⟩ = some (.map (some mb)) := by rw [cell_of_row _ _ _ _ _ _ (al_new rfl)]; rfl
  refine (sortDisk_calls _ w.heap.size mb m (by simp) hc (h.below b1) hr hl).mono ?_
  rintro e w2 ⟨a, c, rfl, ho, hn, hb⟩
  have hb' : Below w.heap.size w w2 := b1.trans (hb.mono b1.size)
  exact ⟨keepG_below hb, _, _, _, rfl, k a c w2 (ho.base_le fun j hj => Nat.le_trans b1.size (ho.lt j hj).1) hn hb' (B.to hb')⟩
end Go.Proofs.Ytpfmadinijofeaa
end
section
/- 'slices.Collect(slices.Chunk(b, 64))' where b's length is a multiple of 64: the pieces, one behind the other; walked. -/
namespace Go.Proofs.Ytpfmadinijofeaa
open Go.RowKit Go.Shelf
attribute [local go_sem] Oper.semAt_some
/-- The k-th piece. -/
def pieceV (g off k : Nat) : Value := .slice (some ⟨g, off + k * 64, none⟩) 64 64
set_option maxRecDepth 100000 in
set_option maxHeartbeats 4000000 in
theorem chunk1_in (F : Fence) (n : Nat) (hf : F.fn 76) (hro : F.round = none) (hn : 1 ≤ n) (l Bs Bn n₀ g off c m : Nat) (a : Option Addr) (ha : 0 < m → a = some ⟨g, off, none⟩) (hm : m ≤ 1000000) (hcap : m * 64 ≤ c) (hBs0 : Bs < n₀) (hBn0 : Bn < n₀) (J Jx : List Nat → World → Prop)
    (hJ : ∀ s A, J s A → J s A.drew) (hY : ∀ pre x W, J pre W → pre.length < m → YieldAt F (n - 1) Try.prog l #[pieceV g off x] W fun e W' =>
      (e = .returned (.bool true) ∧ J (pre ++ [x]) W' ∧ Below n₀ W W') ∨ (e = .returned (.bool false) ∧ Jx (pre ++ [x]) W'))
    (W : World) (hBs : W.cell? ⟨Bs, 0, none⟩ = some (.slice a (m * 64) c)) (hBn : W.cell? ⟨Bn, 0, none⟩ = some (.int .i64 64)) (h0 : J [] W) :
    CallsIn F n Try.prog 76 #[.func (.yield l) #[] #[], .pointer (some ⟨Bs, 0, none⟩), .pointer (some ⟨Bn, 0, none⟩)] W fun e W' => (∃ v, e = .returned v) ∧
      ((∃ ys, ys = List.range m ∧ J ys W') ∨ (∃ pre, True ∧ Jx pre W')) := by
  refine callsIn_of_wp Try.func76 rfl hf ?_ hro
  simp only [Try.ntmps76, List.size_toArray, List.length_cons, List.length_nil, Nat.reduceAdd, Nat.reduceSub, Array.replicate_succ, Array.replicate_zero, List.push_toArray, List.append_toArray, List.nil_append, List.cons_append]
  gi_wp2
  gi_loopw [4] (fun i wr => ∃ k : Nat, k ≤ m ∧ i = .int .i64 ((k * 64 : Nat) : Int) ∧ J (List.range k) wr ∧ Below n₀ W wr)
    (fun i _ => m * 64 - (intOf i).toNat)
  case atStart => exact ⟨0, Nat.zero_le _, rfl, h0, Below.refl _ _⟩
  case round =>
    obtain ⟨k, hk, rfl, hJs, hnx⟩ := hrel
    have hcs : wr.cell? ⟨Bs, 0, none⟩ = some (.slice a (m * 64) c) := (hnx.cell (p := ⟨Bs, 0, none⟩) hBs0).trans hBs
    have hcn : wr.cell? ⟨Bn, 0, none⟩ = some (.int .i64 64) := (hnx.cell (p := ⟨Bn, 0, none⟩) hBn0).trans hBn
    by_cases hlt : k < m
    · obtain rfl := ha (by omega)
      obtain ⟨fn, tmps, assign, body, hy, hR⟩ := hY _ k wr.drew (hJ _ _ hJs) (by rw [List.length_range]; exact hlt)
      unfold pieceV at hy
      have hd1 : wr.drew.cell? ⟨Bs, 0, none⟩ = some (.slice (some ⟨g, off, none⟩) (m * 64) c) := hcs
      have hd2 : wr.drew.cell? ⟨Bn, 0, none⟩ = some (.int .i64 64) := hcn
      gi_wp2
      gi_region
      all_goals (first | simp only [if_neg (show ¬ (((m * 64 - k * 64 : Nat)) : Int) < 64 by omega)] | simp only [Int.min_eq_left (show (64 : Int) ≤ (((m * 64 - k * 64 : Nat)) : Int) by omega)])
      all_goals gi_wp2
      all_goals (
        refine hR.mono ?_
        rintro e W3 (⟨rfl, hJ3, hk3⟩ | ⟨rfl, hJx3⟩)
        · have hcn3 : W3.cell? ⟨Bn, 0, none⟩ = some (.int .i64 64) := (hk3.cell (p := ⟨Bn, 0, none⟩) hBn0).trans hcn
          have hdr : Below n₀ W wr.drew := ⟨hnx.os, hnx.tape, hnx.output, hnx.size, hnx.block⟩
          gi_wp2
          go_roundw
          case rel => exact ⟨k + 1, by omega, by simp; omega, by rw [List.range_succ]; exact hJ3, hdr.trans hk3⟩
          case measure => simp [intOf]; omega
        · gi_wp2
          refine bodyPost_ret (results_none rfl _ _ _) rfl ?_
          exact ⟨⟨_, rfl⟩, .inr ⟨_, trivial, hJx3⟩⟩)
    · obtain rfl : k = m := by omega
      gi_wp2
      go_end0
      exact ⟨⟨_, rfl⟩, .inl ⟨_, rfl, hJs⟩⟩
set_option maxHeartbeats 1000000 in
theorem chunk_in (F : Fence) (n : Nat) (hf : F.fn 55) (hro : F.round = none) (a : Option Addr) (len cap : Nat) (w : World) :
    CallsIn F n Try.prog 55 #[.slice a len cap, .int .i64 64] w fun e w' => e = .returned (.func (.func 76) #[] #[.pointer (some ⟨w.heap.size, 0, none⟩), .pointer (some ⟨w.heap.size + 1, 0, none⟩)]) ∧
      w' = (w.alloc (.cells #[.slice a len cap] 22)).alloc (.cells #[.int .i64 64] 3) := by
  refine callsIn_of_wp Try.func55 rfl hf ?_ hro
  simp only [Try.ntmps55, List.size_toArray, List.length_cons, List.length_nil, Nat.reduceAdd, Nat.reduceSub, Array.replicate_succ, Array.replicate_zero, List.push_toArray, List.append_toArray, List.nil_append, List.cons_append]
  gi_wp2
  go_ret
  exact ⟨by simp, rfl⟩
theorem chunk_stops (F : Fence) (n : Nat) (hf : F.fn 76) (hro : F.round = none) (hn : 1 ≤ n) (Bs Bn n₀ g off c m : Nat) (a : Option Addr) (ha : 0 < m → a = some ⟨g, off, none⟩) (hm : m ≤ 1000000) (hcap : m * 64 ≤ c) (hBs0 : Bs < n₀) (hBn0 : Bn < n₀) (w : World) (hn₀ : n₀ ≤ w.heap.size)
    (hBs : w.cell? ⟨Bs, 0, none⟩ = some (.slice a (m * 64) c)) (hBn : w.cell? ⟨Bn, 0, none⟩ = some (.int .i64 64)) :
    SeqStopsK F n Try.prog 76 #[.pointer (some ⟨Bs, 0, none⟩), .pointer (some ⟨Bn, 0, none⟩)] (fun k : Nat => #[.slice (some ⟨g, off + k * 64, none⟩) 64 64]) (Below n₀) (fun ys => ys = List.range m) (fun _ => True) m w := fun l J Jx W hW hJ _ hY h0 =>
  chunk1_in F n hf hro hn l Bs Bn n₀ g off c m a ha hm hcap hBs0 hBn0 J Jx (fun s A h => hJ s A A.drew none h ⟨rfl, rfl, rfl, Nat.le_refl _, fun _ _ _ => rfl⟩ (fun r e => by cases e)) hY W
    ((hW.cell (p := ⟨Bs, 0, none⟩) (by show Bs < _; omega)).trans hBs) ((hW.cell (p := ⟨Bn, 0, none⟩) (by show Bn < _; omega)).trans hBn) h0
theorem infoB : (Try.prog.info? 22).map (fun i => (i.zero, i.size, i.bytes)) = some (some (.slice none 0 0), 1, 24) := by kernel_rfl
set_option maxRecDepth 100000 in
set_option maxHeartbeats 2000000 in
theorem appSeq_in (F : Fence) (n : Nat) (hA : F.fn 75) (hf : F.fn 76) (hro : F.round = none) (hn : 3 ≤ n) (Bs Bn g off c m : Nat) (a : Option Addr) (ha : 0 < m → a = some ⟨g, off, none⟩) (hm : m ≤ 1000000) (hcap : m * 64 ≤ c) (w : World) (hBs0 : Bs < w.heap.size) (hBn0 : Bn < w.heap.size)
    (hBs : w.cell? ⟨Bs, 0, none⟩ = some (.slice a (m * 64) c)) (hBn : w.cell? ⟨Bn, 0, none⟩ = some (.int .i64 64)) :
    CallsIn F n Try.prog 75 #[.slice none 0 0, .func (.func 76) #[] #[.pointer (some ⟨Bs, 0, none⟩), .pointer (some ⟨Bn, 0, none⟩)]] w fun e W' => ∃ v, e = .returned v ∧ W'.ownsRow w.heap.size 22 1 v m ((List.range m).map (pieceV g off)) ∧ (v = .slice none 0 0 ↔ m = 0) ∧ Below w.heap.size w W' := by
  have h1 : 1 ≤ n := by omega
  obtain ⟨i0, hi, hz0, hz1, hz2⟩ := info_parts infoB
  refine callsIn_of_wp_marks Try.func75 rfl hA ?_ hro
  simp only [Try.ntmps75, List.size_toArray, List.length_cons, List.length_nil, Nat.reduceAdd, Nat.reduceSub, Array.replicate_succ, Array.replicate_zero, List.push_toArray, List.append_toArray, List.nil_append, List.cons_append]
  gi_wp2
  have bO := Boxed.new w 44 (.slice none 0 0)
  have hB0 : Below w.heap.size w (w.alloc (.cells #[.slice none 0 0] 44)) := (Below.refl _ w).alloc (Nat.le_refl _) _
  refine wpIn_rangeFunc_ownG hro h1 (gf := 76) (lb := #[.pointer (some ⟨Bs, 0, none⟩), .pointer (some ⟨Bn, 0, none⟩)]) rfl hf (enters_of Try.func76 (by kernel_rfl) rfl)
    (chunk_stops F (n - 1) hf hro (by omega) Bs Bn w.heap.size g off c m a ha hm hcap hBs0 hBn0 _ (by simp) ((hB0.cell (p := ⟨Bs, 0, none⟩) hBs0).trans hBs) ((hB0.cell (p := ⟨Bn, 0, none⟩) hBn0).trans hBn)) belowK_t (belowK_b (by simp)) (Below.refl _ _) (fun _ => rfl)
    (fun pre W => (∃ v, Boxed W w.heap.size 44 v ∧ W.ownsRow w.heap.size 22 1 v pre.length (pre.map (pieceV g off)) ∧ (v = .slice none 0 0 ↔ pre = [])) ∧ Below w.heap.size w W)
    (fun _ _ _ => False)
    (OwnFrom.and (Own.from (holdsRow_own w.heap.size w.heap.size 44 22 1 (fun pre => pre.length) (fun pre => pre.map (pieceV g off)) (fun pre v => v = .slice none 0 0 ↔ pre = [])) _) (ownFrom_below (Nat.le_refl _) (by simp)))
    (fun _ _ _ _ _ hs _ _ => hs)
    ⟨⟨_, bO, World.ownsRow_nil _ _ _ _, by simp⟩, hB0⟩
    (fun x => { tmps := #[.slice none 0 0, .func (.func 76) #[] #[.pointer (some ⟨Bs, 0, none⟩), .pointer (some ⟨Bn, 0, none⟩)], .pointer (some ⟨w.heap.size, 0, none⟩), undef, .slice none 0 0, .slice (some ⟨g, off + x * 64, none⟩) 64 64, .func (.func 76) #[] #[.pointer (some ⟨Bs, 0, none⟩), .pointer (some ⟨Bn, 0, none⟩)], Value.slice (some ⟨g, off + x * 64, none⟩) 64 64, undef, undef, undef, undef, undef], defers := [] }) ?assign ?body ?done ?stop
  case assign =>
    intro l x W K hK
    gi_wp2
    exact hK
  case body =>
    rintro l pre x W ⟨⟨v, hv, hrow, hnil⟩, hB⟩ hlt
    have hc := hv.cell
    gi_wp2_with (gi_at_builtin; refine wpListIn_append_own _ rfl _ _ 44 rfl w.heap.size 22 i0 (.slice none 0 0) 1 24 Try.underlying44 hi hz0 hz1 hz2 rfl (by decide) _ _ _ rfl (hrow.alloc _) ⟨W.heap.size, 0, none⟩ 1 1 [.slice (some ⟨g, off + x * 64, none⟩) 64 64] rfl rfl (cell_one_new _ _ _) (by simp [Value.oneCell']) (by unfold maxLen; omega) (by omega) (by have := hB.size; simp; omega) ?_; intro v' w1 hown' hgrow _; obtain ⟨g', cap', rfl⟩ := ownsRow_succ hown'; obtain ⟨hv1, hv2, hr2, hk2, hb2⟩ := hv.appended (by decide) hrow hB.size (Nat.le_refl _) hown' hgrow; have hc1 := hv1.cell; have hf1 := hv1.frozen)
    exact ⟨hk2.from _, hb2, ⟨_, hv2, by simpa [pieceV] using hr2, by simp⟩, hB.trans hb2⟩
  case done =>
    rintro D ys W hD rfl ⟨⟨v, hv, hrow, hnil⟩, hB⟩ hK
    have hc := hv.cell
    gi_wp2
    refine ⟨by simp, .inl ⟨_, _, rfl, run_takeDeferred hK, ?_⟩⟩
    exact ⟨_, results_tmp rfl _ _ _, v, rfl, by have := ownsRow_putObj hrow (.deferred none) hK rfl; rwa [List.length_range] at this, by rw [hnil]; simp, hB.trans (belowK_b (w := w) (Nat.le_refl _) W D _ _ (by simp at hD; omega) hK rfl rfl)⟩
  case stop =>
    rintro D c pre W _ _ h _
    exact h.elim
set_option maxHeartbeats 1000000 in
theorem collectB_in (F : Fence) (n : Nat) (hC : F.fn 54) (hA : F.fn 75) (hf : F.fn 76) (hro : F.round = none) (hn : 4 ≤ n) (Bs Bn g off c m : Nat) (a : Option Addr) (ha : 0 < m → a = some ⟨g, off, none⟩) (hm : m ≤ 1000000) (hcap : m * 64 ≤ c) (w : World) (hBs0 : Bs < w.heap.size) (hBn0 : Bn < w.heap.size)
    (hBs : w.cell? ⟨Bs, 0, none⟩ = some (.slice a (m * 64) c)) (hBn : w.cell? ⟨Bn, 0, none⟩ = some (.int .i64 64)) :
    CallsIn F n Try.prog 54 #[.func (.func 76) #[] #[.pointer (some ⟨Bs, 0, none⟩), .pointer (some ⟨Bn, 0, none⟩)]] w fun e W' => ∃ v, e = .returned v ∧ W'.ownsRow w.heap.size 22 1 v m ((List.range m).map (pieceV g off)) ∧ (v = .slice none 0 0 ↔ m = 0) ∧ Below w.heap.size w W' := by
  have h1 : 1 ≤ n := by omega
  refine callsIn_of_wp Try.func54 rfl hC ?_ hro
  simp only [Try.ntmps54, List.size_toArray, List.length_cons, List.length_nil, Nat.reduceAdd, Nat.reduceSub, Array.replicate_succ, Array.replicate_zero, List.push_toArray, List.append_toArray, List.nil_append, List.cons_append]
  gi_wp2_with (gi_at_call 75; refine (appSeq_in F (n - 1) hA hf hro (by omega) Bs Bn g off c m a ha hm hcap _ hBs0 hBn0 hBs hBn).mono ?_; rintro e w' ⟨v, rfl, hrow, hnil, hb⟩)
  go_ret
  exact ⟨v, rfl, hrow, hnil, hb⟩
end Go.Proofs.Ytpfmadinijofeaa
end
section
/- The program's disk: what it holds, what reads it; walked. -/
namespace Go.Proofs.Ytpfmadinijofeaa
open Go.RowKit
structure DkAt (w : World) (g gl mb : Nat) (S : DS) : Prop where
  blk : Bk w g #[.slice (some ⟨gl, 0, none⟩) S.n S.n, .map (some mb), .int .i64 S.left, .bool S.off] 97
  lst : Bk w gl (sArr S.n 64 fun i => (S.last i).map bV) 110
  map : ∃ m, MapAt w mb m ∧ ∀ k, lkM m k = cD S k
theorem allOne_b : ∀ bs : List UInt8, allOne (bs.map bV) = true
  | [] => rfl
  | b :: r => by
    rw [List.map_cons, allOne, allOne_b r]
    rfl
theorem condB {bs : List UInt8} (h : bs.length = 64) {A : Prop} (hA : A) : cond (Nat.beq (bs.map bV).length 64) (cond (allOne (bs.map bV)) A False) False := by
  rw [List.length_map, h, allOne_b]
  exact hA
theorem zero_sec : Value.agg (List.replicate 64 (.int .u8 0)).toArray = secV zero64 := by
  unfold secV zero64
  rw [List.map_replicate]
  rfl
section
variable {w w1 : World} {g gl mb : Nat} {S : DS}
theorem DkAt.c0 (h : DkAt w g gl mb S) : w.cell? ⟨g, 0, none⟩ = some (.slice (some ⟨gl, 0, none⟩) S.n S.n) := by rw [h.blk.cell]; rfl
theorem DkAt.c1 (h : DkAt w g gl mb S) : w.cell? ⟨g, 0 + 1, none⟩ = some (.map (some mb)) := by rw [h.blk.cell]; rfl
theorem DkAt.c2 (h : DkAt w g gl mb S) : w.cell? ⟨g, 0 + 2, none⟩ = some (.int .i64 S.left) := by rw [h.blk.cell]; rfl
theorem DkAt.c3 (h : DkAt w g gl mb S) : w.cell? ⟨g, 0 + 3, none⟩ = some (.bool S.off) := by rw [h.blk.cell]; rfl
theorem DkAt.lt (h : DkAt w g gl mb S) : g < w.heap.size ∧ gl < w.heap.size ∧ mb < w.heap.size := by
  obtain ⟨m, hm, _⟩ := h.map
  exact ⟨h.blk.lt, h.lst.lt, hm.lt⟩
theorem DkAt.ne (h : DkAt w g gl mb S) : g ≠ gl ∧ g ≠ mb ∧ gl ≠ mb := by
  obtain ⟨m, hm, _⟩ := h.map
  exact ⟨h.blk.ne h.lst (by decide), hm.ne_cells h.blk, hm.ne_cells h.lst⟩
theorem DkAt.keep (h : DkAt w g gl mb S) (h1 : w1.heap[g]? = w.heap[g]?) (h2 : w1.heap[gl]? = w.heap[gl]?) (h3 : w1.heap[mb]? = w.heap[mb]?) : DkAt w1 g gl mb S := by
  obtain ⟨m, hm, hl⟩ := h.map
  exact ⟨h.blk.keep h1, h.lst.keep h2, m, hm.keep h3, hl⟩
theorem DkAt.below (h : DkAt w g gl mb S) (b : Below w.heap.size w w1) : DkAt w1 g gl mb S := h.keep (b.block g h.lt.1) (b.block gl h.lt.2.1) (b.block mb h.lt.2.2)
theorem DkAt.fr {L : List Nat} (h : DkAt w g gl mb S) (b : Fr L w w1) (h1 : g ∉ L) (h2 : gl ∉ L) (h3 : mb ∉ L) : DkAt w1 g gl mb S := h.keep (b.block g h.lt.1 h1) (b.block gl h.lt.2.1 h2) (b.block mb h.lt.2.2 h3)
theorem DkAt.hit (h : DkAt w g gl mb S) {k : Nat} {s : List UInt8} (hk : S.cch k = some s) : ∃ r, MLk w (some mb) (k : Int) r ∧ r.getD (.agg (List.replicate 64 (.int .u8 0)).toArray) = .agg (s.map bV).toArray ∧ r.isSome = true := by
  obtain ⟨m, hm, hl⟩ := h.map
  exact ⟨_, ⟨m, hm, rfl⟩, by rw [hl, cD_nat, hk]; rfl, by rw [hl, cD_nat, hk]; rfl⟩
theorem DkAt.miss (h : DkAt w g gl mb S) {k : Nat} (hk : S.cch k = none) : ∃ r, MLk w (some mb) (k : Int) r ∧ r.getD (.agg (List.replicate 64 (.int .u8 0)).toArray) = .agg (zero64.map bV).toArray ∧ r.isSome = false := by
  obtain ⟨m, hm, hl⟩ := h.map
  exact ⟨_, ⟨m, hm, rfl⟩, by rw [hl, cD_nat, hk]; exact zero_sec, by rw [hl, cD_nat, hk]; rfl⟩
theorem DkAt.secs (h : DkAt w g gl mb S) (hW : DWf S) {i : Nat} (hi : i < S.n) : cellsAt w gl (0 + i * 64) ((S.last i).map bV) := by
  rw [Nat.zero_add]
  exact sArr_cells h.lst hi (by rw [List.length_map, hW.last])
/-! What changes it. -/
theorem DkAt.setLeft (h : DkAt w g gl mb S) (l : Int) {gs : List Nat} (hg : ∀ x ∈ gs, x ≠ g) {K : World → Prop} (k : ∀ w1, DkAt w1 g gl mb ⟨S.n, S.last, S.cch, l, S.off⟩ → Fr [g] w w1 → w1.heap.size = w.heap.size → K w1) : stO gs w g (0 + 2) [.int .i64 l] K := by
  obtain ⟨n1, n2, n3⟩ := h.ne
  obtain ⟨m, hm, hl⟩ := h.map
  exact stO_bk h.blk (by simp) hg fun w1 h1 f1 z1 => k w1 ⟨h1, h.lst.fr1 f1 (fun e => n1 e.symm), m, hm.fr f1 (by rw [List.mem_singleton]; exact fun e => n2 e.symm), hl⟩ f1 z1
theorem DkAt.setOff (h : DkAt w g gl mb S) (b : Bool) {gs : List Nat} (hg : ∀ x ∈ gs, x ≠ g) {K : World → Prop} (k : ∀ w1, DkAt w1 g gl mb ⟨S.n, S.last, S.cch, S.left, b⟩ → Fr [g] w w1 → w1.heap.size = w.heap.size → K w1) : stO gs w g (0 + 3) [.bool b] K := by
  obtain ⟨n1, n2, n3⟩ := h.ne
  obtain ⟨m, hm, hl⟩ := h.map
  exact stO_bk h.blk (by simp) hg fun w1 h1 f1 z1 => k w1 ⟨h1, h.lst.fr1 f1 (fun e => n1 e.symm), m, hm.fr f1 (by rw [List.mem_singleton]; exact fun e => n2 e.symm), hl⟩ f1 z1
theorem DkAt.setSec (h : DkAt w g gl mb S) (hW : DWf S) {i : Nat} (hi : i < S.n) {s : List UInt8} (hs : s.length = 64) {gs : List Nat} (hg : ∀ x ∈ gs, x ≠ gl) {K : World → Prop}
    (k : ∀ w1, DkAt w1 g gl mb ⟨S.n, fun j => if j = i then s else S.last j, S.cch, S.left, S.off⟩ → Fr [gl] w w1 → w1.heap.size = w.heap.size → K w1) : stO gs w gl (0 + i * 64) (s.map bV) K := by
  obtain ⟨n1, n2, n3⟩ := h.ne
  obtain ⟨m, hm, hl⟩ := h.map
  rw [Nat.zero_add]
  have hle : (i + 1) * 64 ≤ S.n * 64 := Nat.mul_le_mul_right 64 hi
  refine stO_part h.lst (by rw [sArr_size, List.length_map, hs]; omega) hg fun w1 h1 f1 z1 => k w1 ⟨h.blk.fr1 f1 n1, ?_, m, hm.fr f1 (by rw [List.mem_singleton]; exact fun e => n3 e.symm), hl⟩ f1 z1
  rw [sArr_setL (n := S.n) (k := 64) hi (by rw [List.length_map, hs]) (fun j _ => by rw [List.length_map, hW.last])] at h1
  rw [sArr_congr (enc' := fun j => (if j = i then s else S.last j).map bV) fun j _ => by split <;> rfl] at h1
  exact h1
theorem DkAt.putM (h : DkAt w g gl mb S) (i : Nat) (s : List UInt8) {K : World → Prop} (k : ∀ w1, DkAt w1 g gl mb ⟨S.n, S.last, fun j => if j = i then some s else S.cch j, S.left, S.off⟩ → Fr [mb] w w1 → w1.heap.size = w.heap.size → K w1) :
    mapO w (some mb) (fun m => putM m (i : Int) (.agg (s.map bV).toArray)) K := by
  obtain ⟨n1, n2, n3⟩ := h.ne
  obtain ⟨m, hm, hl⟩ := h.map
  refine ⟨mb, m, rfl, hm, fun w1 m1 f1 z1 => k w1 ⟨h.blk.fr1 f1 n2, h.lst.fr1 f1 n3, _, m1, fun j => ?_⟩ f1 z1⟩
  rw [lkM_put, hl]
  unfold cD
  by_cases e : (i : Int) = j
  · subst e
    rw [if_pos rfl, if_neg (by omega), Int.toNat_natCast]
    dsimp only
    rw [if_pos rfl]
    rfl
  · rw [if_neg e]
    by_cases hj : j < 0
    · rw [if_pos hj, if_pos hj]
    · rw [if_neg hj, if_neg hj]
      dsimp only
      rw [if_neg (by omega)]
theorem DkAt.clear (h : DkAt w g gl mb S) {K : World → Prop} (k : ∀ w1, DkAt w1 g gl mb ⟨S.n, S.last, fun _ => none, S.left, S.off⟩ → Fr [mb] w w1 → w1.heap.size = w.heap.size → K w1) : mapO w (some mb) (fun _ => []) K := by
  obtain ⟨n1, n2, n3⟩ := h.ne
  obtain ⟨m, hm, hl⟩ := h.map
  refine ⟨mb, m, rfl, hm, fun w1 m1 f1 z1 => k w1 ⟨h.blk.fr1 f1 n2, h.lst.fr1 f1 n3, _, m1, fun j => ?_⟩ f1 z1⟩
  unfold cD
  split <;> rfl
end
theorem dmay_ret {w : World} {g gl mb : Nat} {S : DS} (h : DkAt w g gl mb S) (hW : DWf S) (first n : Int) : Calls Try.prog 53 #[.pointer (some ⟨g, 0, none⟩), .int .i64 first, .int .i64 n] w (Ret (.int .i64 (mayE S first n)) w) := by
  refine ret_in (GDk.dmay_calls (some ⟨g, 0, none⟩) first n w (fun u w' => u = .int .i64 (mayE S first n) ∧ Below w.heap.size w w') ?_)
  unfold GDk.dmay_vc mayE
  have h1 := hW.n2
  refine br_f rfl ⟨S.off, h.c3, ?_⟩
  cases ho : S.off
  · rw [if_neg (by decide)]
    refine br_f rfl (br_dec (fun q => ⟨by rw [if_neg (by omega)], Bs.refl _⟩) fun q1 => br_dec (fun q => ⟨by rw [if_neg (by omega)], Bs.refl _⟩) fun q2 => ⟨some ⟨gl, 0, none⟩, S.n, S.n, h.c0, br_dec (fun q => ⟨by rw [if_neg (by omega)], Bs.refl _⟩) fun q3 => ⟨some ⟨gl, 0, none⟩, S.n, S.n, h.c0, ?_⟩⟩)
    rw [wr64 (by omega) (by omega)]
    exact br_dec (fun q => ⟨by rw [if_neg (by omega)], Bs.refl _⟩) fun q4 => ⟨by rw [if_pos ⟨by omega, by omega, by omega, by omega⟩], Bs.refl _⟩
  · rw [if_pos rfl]
    exact br_t rfl ⟨rfl, Bs.refl _⟩
theorem dmay_nil (first n : Int) (w : World) : Calls Try.prog 53 #[.pointer none, .int .i64 first, .int .i64 n] w (Ret (.int .i64 1) w) := by
  refine ret_in (GDk.dmay_calls none first n w (fun u w' => u = .int .i64 1 ∧ Below w.heap.size w w') ?_)
  unfold GDk.dmay_vc
  exact br_t rfl ⟨rfl, Bs.refl _⟩
theorem dsize_ret {w : World} {g gl mb : Nat} {S : DS} (h : DkAt w g gl mb S) : Calls Try.prog 58 #[.pointer (some ⟨g, 0, none⟩)] w (Ret (.int .i64 S.n) w) := by
  refine ret_in (GDk.dsize_calls (some ⟨g, 0, none⟩) w (fun u w' => u = .int .i64 S.n ∧ Below w.heap.size w w') ?_)
  unfold GDk.dsize_vc
  exact br_f rfl ⟨some ⟨gl, 0, none⟩, S.n, S.n, h.c0, rfl, Bs.refl _⟩
theorem dsize_nil (w : World) : Calls Try.prog 58 #[.pointer none] w (Ret (.int .i64 0) w) := by
  refine ret_in (GDk.dsize_calls none w (fun u w' => u = .int .i64 0 ∧ Below w.heap.size w w') ?_)
  unfold GDk.dsize_vc
  exact br_t rfl ⟨rfl, Bs.refl _⟩
theorem doff_ret {w : World} {g gl mb : Nat} {S : DS} (h : DkAt w g gl mb S) : Calls Try.prog 38 #[.pointer (some ⟨g, 0, none⟩)] w (Ret (.bool S.off) w) := by
  refine ret_in (GDk.doff_calls (some ⟨g, 0, none⟩) w (fun u w' => u = .bool S.off ∧ Below w.heap.size w w') ?_)
  unfold GDk.doff_vc
  exact br_f rfl ⟨S.off, h.c3, rfl, Bs.refl _⟩
theorem doff_nil (w : World) : Calls Try.prog 38 #[.pointer none] w (Ret (.bool true) w) := by
  refine ret_in (GDk.doff_calls none w (fun u w' => u = .bool true ∧ Below w.heap.size w w') ?_)
  unfold GDk.doff_vc
  exact br_t rfl ⟨rfl, Bs.refl _⟩
/-- New bytes. -/
def NewBs (w : World) (bs : List UInt8) (a : Option Addr) (n c : Nat) (w' : World) : Prop := n = bs.length ∧ Own w' w.heap.size 5 1 (.slice a n c) n (bs.map bV) ∧ Below w.heap.size w w'
theorem dread_new {w : World} {g gl mb : Nat} {S : DS} (h : DkAt w g gl mb S) (hW : DWf S) (first n : Int) :
    Calls Try.prog 18 #[.pointer (some ⟨g, 0, none⟩), .int .i64 first, .int .i64 n] w fun e w' => ∃ a m c, e = .returned (.tuple #[.slice a m c, .int .i64 (mayE S first n)]) ∧ NewBs w (readL S first n) a m c w' := by
  refine (GDk.dread_calls (some ⟨g, 0, none⟩) first n w (fun u w' => ∃ a m c, u = .tuple #[.slice a m c, .int .i64 (mayE S first n)] ∧ NewBs w (readL S first n) a m c w') ?_).mono (by rintro e w' ⟨v, rfl, a, m, c, rfl, h⟩; exact ⟨a, m, c, rfl, h⟩)
  unfold GDk.dread_vc readL
  refine callB (Bs.refl w) (dmay_ret h hW first n) fun w2 b2 B2 => ⟨_, rfl, br_dec (fun q => ⟨none, 0, 0, rfl, by rw [if_neg q]; rfl, by rw [if_neg q]; exact Own.nil _ _ _ _, B2⟩) fun q => ?_⟩
  have q : mayE S first n = 0 := Decidable.byContradiction q
  rw [if_pos q, q]
  obtain ⟨ho, h0, h1, h3, h4⟩ := mayE_zero q
  have hn2 := hW.n2
  obtain ⟨f, rfl⟩ := Int.eq_ofNat_of_zero_le h0
  obtain ⟨k, rfl⟩ := Int.eq_ofNat_of_zero_le h1
  rw [Int.toNat_natCast, Int.toNat_natCast]
  refine ⟨fun a m c x wy => ∃ i : Nat, x = i ∧ i ≤ k ∧ m = (readS S f i).length ∧ Own wy w.heap.size 5 1 (.slice a m c) m ((readS S f i).map bV) ∧ Bs w wy, fun _ _ _ x _ => k - x.toNat, ⟨0, rfl, by omega, rfl, Own.nil _ _ _ _, B2⟩, ?_⟩
  rintro a m c x wy ⟨i, rfl, hi, rfl, hO, By⟩
  refine br_dec (fun hlt => ?_) fun hge => ?_
  · have hik : i < k := by omega
    have hy := h.below By
    have hl := readS_len hW f i
    rw [wr64 (z := (f : Int) + i) (by omega) (by omega), wr64 (z := (i : Int) + 1) (by omega) (by omega), show (f : Int) + i = ((f + i : Nat) : Int) by omega]
    -- the piece that is put behind, whichever it is
    have fin : ∀ {wz : World} {g1 : Nat} {s : List UInt8}, s = nowS S (f + i) → Bk wz g1 (s.map bV).toArray 110 → Below wy.heap.size wy wz → Bs w wz →
        appO Try.prog [] wz 5 1 1 22 a (readS S f i).length c (.slice (some ⟨g1, 0, none⟩) 64 64) fun m48 a48 c48 w10 =>
          (∃ j : Nat, (i : Int) + 1 = j ∧ j ≤ k ∧ (readS S f i).length + m48 = (readS S f j).length ∧ Own w10 w.heap.size 5 1 (.slice a48 ((readS S f i).length + m48) c48) ((readS S f i).length + m48) ((readS S f j).map bV) ∧ Bs w w10) ∧ k - ((i : Int) + 1).toNat < k - (i : Int).toNat := fun {wz g1 s} hs hb by' Bz => by
      have h64 : s.length = 64 := by rw [hs]; exact hW.now _
      refine appB Bz (hO.below by' (Nat.le_refl _)) (Nat.le_refl _) Bz.size (src_block (n := 64) (size := 1) (cs := s.map bV) Try.underlying22 hb (by rw [List.length_map, h64]) (allOne_b s)) (by unfold maxLen; omega) (by omega) (fun q hq => by cases hq) fun a' c' w11 o11 gr11 B11 z11 => ⟨⟨i + 1, by omega, by omega, ?_, ?_, B11⟩, by omega⟩
      · rw [readS_len hW, readS_len hW]; omega
      · rw [readS_succ, List.map_append, ← hs]; exact o11
    cases hc : S.cch (f + i) with
    | some s =>
      have h64 := (hW.cch _ _ hc).2
      refine ⟨some mb, hy.c1, s, h64, true, hy.hit hc, newB By fun g1 w3 g10 sg1 n3 z3 b3 B3 => condB h64 (stB B3 g10 n3 (by rw [List.length_map, h64]; rfl) (fun q hq => by cases hq) fun w4 n4 f4 B4 z4 => br_f rfl ?_)⟩
      exact fin (by unfold nowS; rw [hc]; rfl) n4 (Bs.fr1 (show Bs wy w3 from b3) f4 (by omega)) B4
    | none =>
      refine ⟨some mb, hy.c1, zero64, rfl, false, hy.miss hc, newB By fun g1 w3 g10 sg1 n3 z3 b3 B3 => condB rfl (stB B3 g10 n3 (by rfl) (fun q hq => by cases hq) fun w4 n4 f4 B4 z4 => br_t rfl ?_)⟩
      have bx : Bs wy w4 := Bs.fr1 (show Bs wy w3 from b3) f4 (by omega)
      have h4' := hy.below bx
      refine ⟨some ⟨gl, 0, none⟩, S.n, S.n, h4'.c0, by omega, by omega, S.last (f + i), hW.last _, by rw [Int.toNat_natCast]; exact h4'.secs hW (by omega), condB (hW.last _) (stB B4 g10 n4 (by rw [List.length_map, hW.last]; rfl) (fun q hq => by cases hq) fun w5 n5 f5 B5 z5 => ?_)⟩
      exact fin (by unfold nowS; rw [hc]; rfl) n5 (Bs.fr1 bx f5 (by omega)) B5
  · obtain rfl : i = k := by omega
    exact ⟨a, _, c, rfl, rfl, hO, By⟩
theorem dread_nil (first n : Int) (w : World) : Calls Try.prog 18 #[.pointer none, .int .i64 first, .int .i64 n] w (Ret (.tuple #[.slice none 0 0, .int .i64 1]) w) := by
  refine ret_in (GDk.dread_calls none first n w (fun u w' => u = .tuple #[.slice none 0 0, .int .i64 1] ∧ Below w.heap.size w w') ?_)
  unfold GDk.dread_vc
  exact callB (Bs.refl w) (dmay_nil first n w) fun w2 b2 B2 => ⟨_, rfl, br_y (by decide) ⟨rfl, B2⟩⟩
end Go.Proofs.Ytpfmadinijofeaa
end
section
/- Loops over maps: how far they are. No program in sight. -/
namespace Go.Proofs.Ytpfmadinijofeaa
open Go.RowKit Go.MapKept
def iterLen (w : World) (g : Nat) : Nat := match w.heap[g]? with
  | some (.mapIter _ _ sb _) => sb.size
  | _ => 0
theorem IterAt.len {w : World} {g b : Nat} {m : List (Int × Value)} {seen : List Int} (h : IterAt w g b m seen) : iterLen w g = seen.length := by
  obtain ⟨es, clock, sb, hb, hs, hm, hi, L, hL, hsb, hsk⟩ := h
  unfold iterLen
  rw [hi]
  have h1 := congrArg List.length hsb
  have h2 := congrArg List.length hsk
  simp at h1 h2
  show sb.size = _
  omega
theorem nodup_sub : ∀ {l l' : List Int}, l.Nodup → (∀ x ∈ l, x ∈ l') → l.length ≤ l'.length
  | [], _, _, _ => Nat.zero_le _
  | x :: r, l', hn, h => by
    rw [List.nodup_cons] at hn
    have hx := h x (List.mem_cons_self ..)
    have h1 := List.length_erase_of_mem hx
    have h2 := nodup_sub (l := r) (l' := l'.erase x) hn.2 fun y hy => by
      have hne : y ≠ x := fun e => hn.1 (e ▸ hy)
      exact (List.mem_erase_of_ne hne).2 (h y (List.mem_cons_of_mem _ hy))
    have := List.length_pos_of_mem hx
    simp only [List.length_cons]
    omega
/-- What a loop over a map knows. -/
structure Loop (w : World) (g b : Nat) (m : List (Int × Value)) (seen : List Int) : Prop where
  at' : IterAt w g b m seen
  nodup : seen.Nodup
  sub : ∀ k ∈ seen, k ∈ m.map (·.1)
section
variable {w w1 : World} {g b : Nat} {m : List (Int × Value)} {seen : List Int}
theorem Loop.start (h : IterAt w g b m []) : Loop w g b m [] := ⟨h, List.nodup_nil, fun _ h => by cases h⟩
theorem Loop.step (h : Loop w g b m seen) {k : Int} {v : Value} (hm : (k, v) ∈ m) (hk : k ∉ seen) (h1 : IterAt w1 g b m (seen ++ [k])) : Loop w1 g b m (seen ++ [k]) :=
  ⟨h1, List.nodup_append.2 ⟨h.nodup, by simp, fun a ha b hb => by rw [List.mem_singleton] at hb; subst hb; exact fun e => hk (e ▸ ha)⟩, fun x hx => by
    rcases List.mem_append.1 hx with hx | hx
    · exact h.sub x hx
    · rw [List.mem_singleton] at hx; subst hx; exact List.mem_map.2 ⟨_, hm, rfl⟩⟩
theorem Loop.le (h : Loop w g b m seen) : seen.length ≤ m.length := by have := nodup_sub h.nodup h.sub; simpa using this
theorem Loop.more (h : Loop w g b m seen) {k : Int} {v : Value} (hm : (k, v) ∈ m) (hk : k ∉ seen) : seen.length < m.length := by
  have := nodup_sub (l := k :: seen) (l' := m.map (·.1)) (List.nodup_cons.2 ⟨hk, h.nodup⟩) fun x hx => by
    rcases List.mem_cons.1 hx with rfl | hx
    · exact List.mem_map.2 ⟨_, hm, rfl⟩
    · exact h.sub x hx
  simp at this
  omega
theorem Loop.keep (h : Loop w g b m seen) (hb : w1.heap[b]? = w.heap[b]?) (hg : w1.heap[g]? = w.heap[g]?) : Loop w1 g b m seen := ⟨h.at'.keep hb hg, h.nodup, h.sub⟩
theorem Loop.below (h : Loop w g b m seen) (hb : Below w.heap.size w w1) : Loop w1 g b m seen := h.keep (hb.block b h.at'.lt.2) (hb.block g h.at'.lt.1)
theorem Loop.box {x : Nat} {cs : Array Value} {t : TypeId} {fr : Nat × Nat} (h : Loop w g b m seen) (hx : w.heap[x]? = some (.cells cs t fr)) (hf : Fr [x] w w1) : Loop w1 g b m seen := by
  have h1 : b ≠ x := fun e => by
    obtain ⟨es, clock, sb, hb, _⟩ := h.at'
    rw [e, hx] at hb; cases hb
  have h2 : g ≠ x := fun e => by
    obtain ⟨es, clock, sb, hb, _, _, hi, _⟩ := h.at'
    rw [e, hx] at hi; cases hi
  exact h.keep (hf.block b h.at'.lt.2 (by rw [List.mem_singleton]; exact h1)) (hf.block g h.at'.lt.1 (by rw [List.mem_singleton]; exact h2))
end
end Go.Proofs.Ytpfmadinijofeaa
end
section
/- The program's disk: what writes it; walked. -/
namespace Go.Proofs.Ytpfmadinijofeaa
open Go.RowKit Go.Shelf
section
variable {w w1 w2 : World} {L : List Nat} {k : Nat}
theorem Fr.b (f : Fr L w w1) (b : Below w1.heap.size w1 w2) : Fr L w w2 := f.trans (Fr.ofBelow (L := L) b) (Gr.refl _ _)
theorem Fr.g (f : Fr L w w1) (f2 : Fr [k] w1 w2) (h : k ∈ L ∨ w.heap.size ≤ k) : Fr L w w2 := f.trans f2 fun j hj => by rw [List.mem_singleton] at hj; rw [hj]; exact h
theorem RowAt.frL {a : Option Addr} {vs : List Value} (h : RowAt w a vs) (f : Fr L w w1) (hn : ∀ q, a = some q → q.block ∉ L) : RowAt w1 a vs := by
  rcases h with h | ⟨b, off, ha, h⟩
  · exact .inl h
  · refine .inr ⟨b, off, ha, fun i v hv => ?_⟩
    have hc := h i v hv
    have hlt := block_lt_of_cell hc
    have hb := f.block b hlt (hn _ ha)
    unfold World.cell? at hc ⊢
    simp only [hb]
    exact hc
end
/-- A call's word: what it tells, the disk behind it, and that it wrote there alone. -/
def DDo (w : World) (g gl mb : Nat) (u : Value) (S' : DS) : Ending → World → Prop := fun e w' => e = .returned u ∧ DkAt w' g gl mb S' ∧ Fr [g, gl, mb] w w'
def DDoV (w : World) (g gl mb : Nat) (u : Value) (S' : DS) : Value → World → Prop := fun v w' => v = u ∧ DkAt w' g gl mb S' ∧ Fr [g, gl, mb] w w'
theorem ddo_in {P : Program} {f : FuncId} {av : Array Value} {w : World} {g gl mb : Nat} {u : Value} {S' : DS} (h : Calls P f av w fun e w' => ∃ v, e = .returned v ∧ DDoV w g gl mb u S' v w') : Calls P f av w (DDo w g gl mb u S') :=
  h.mono (by rintro e w' ⟨v, rfl, rfl, hh⟩; exact ⟨rfl, hh⟩)
theorem ddo_no {w wx : World} {g gl mb : Nat} {S S' : DS} {u v : Value} (h : DkAt w g gl mb S) (B : Bs w wx) (hv : v = u) (hd : S' = S) : DDoV w g gl mb u S' v wx := by
  subst hv; subst hd
  exact ⟨rfl, h.below B, Fr.ofBelow B⟩
theorem made_secs (n : Nat) : madeCells (List.replicate 64 (Value.int .u8 0)).toArray (n * 64) = sArr n 64 fun _ => zero64.map bV := by
  have hz : zero64.map bV = List.replicate 64 (Value.int .u8 0) := by unfold zero64; rw [List.map_replicate]; rfl
  refine sArr_of (fun i _ => by rw [hz, List.length_replicate]) (by simp [madeCells]) fun i c hi hc => ?_
  have hle : (i + 1) * 64 ≤ n * 64 := Nat.mul_le_mul_right 64 hi
  rw [hz, List.getElem?_replicate, if_pos hc]
  have hm : (i * 64 + c) % 64 < 64 := Nat.mod_lt _ (by decide)
  unfold madeCells
  rw [Array.getElem?_map, Array.getElem?_range, if_pos (by omega)]
  simp only [Option.map_some, List.size_toArray, List.length_replicate]
  congr 1
  rw [getElem!_pos _ _ (by rw [List.size_toArray, List.length_replicate]; exact hm), List.getElem_toArray]
  exact List.getElem_replicate _
theorem dnew_new (n : Nat) (h1 : 1 ≤ n) (h2 : n ≤ 8192) (w : World) : Calls Try.prog 13 #[.int .i64 n] w fun e w' => ∃ g gl mb, e = .returned (.tuple #[.pointer (some ⟨g, 0, none⟩), .int .i64 0]) ∧ DkAt w' g gl mb (newS n) ∧ w.heap.size ≤ g ∧ w.heap.size ≤ gl ∧ w.heap.size ≤ mb ∧ Below w.heap.size w w' := by
  refine (GDk.dnew_calls n w (fun u w' => ∃ g gl mb, u = .tuple #[.pointer (some ⟨g, 0, none⟩), .int .i64 0] ∧ DkAt w' g gl mb (newS n) ∧ w.heap.size ≤ g ∧ w.heap.size ≤ gl ∧ w.heap.size ≤ mb ∧ Below w.heap.size w w') ?_).mono (by rintro e w' ⟨v, rfl, g, gl, mb, rfl, h⟩; exact ⟨g, gl, mb, rfl, h⟩)
  unfold GDk.dnew_vc
  refine br_n (by omega) (br_n (by omega) ⟨by omega, by omega, by omega, by omega, newB (Bs.refl w) fun gl w2 gl0 sgl n2 z2 b2 B2 => newB B2 fun mb w3 mb0 smb n3 z3 b3 B3 => newB B3 fun g w4 g0 sg n4 z4 b4 B4 => ⟨g, gl, mb, rfl, ⟨?_, ?_, [], MapAt.below ⟨#[], 0, n3, MapKept.stamped_empty 0, rfl⟩ b4, fun k => ?_⟩, g0, gl0, mb0, B4⟩⟩)
  · rw [Int.toNat_natCast] at n4
    exact n4
  · rw [Int.toNat_natCast] at n2
    have n2' : Bk w2 gl (madeCells (List.replicate 64 (Value.int .u8 0)).toArray (n * 64)) 110 := n2
    rw [made_secs] at n2'
    exact (n2'.below b3).below b4
  · unfold cD
    split <;> rfl
theorem dnew_no (n : Int) (h : n < 1 ∨ n > 8192) (w : World) : Calls Try.prog 13 #[.int .i64 n] w (Ret (.tuple #[.pointer none, .int .i64 1]) w) := by
  refine ret_in (GDk.dnew_calls n w (fun u w' => u = .tuple #[.pointer none, .int .i64 1] ∧ Below w.heap.size w w') ?_)
  unfold GDk.dnew_vc
  exact br_dec (fun _ => ⟨rfl, Bs.refl _⟩) fun q => br_y (by omega) ⟨rfl, Bs.refl _⟩
theorem dput_any {w : World} {g gl mb : Nat} {S : DS} (h : DkAt w g gl mb S) (hW : DWf S) {k : Nat} {s : List UInt8} {gp op c : Nat} (hs : s.length = 64) (hc : cellsAt w gp op (s.map bV)) :
    Calls Try.prog 56 #[.pointer (some ⟨g, 0, none⟩), .int .i64 (k : Int), .slice (some ⟨gp, op, none⟩) 64 c] w (DDo w g gl mb (.bool (!(putK S k s).off)) (putK S k s)) := by
  refine ddo_in (GDk.dput_calls (some ⟨g, 0, none⟩) (k : Int) (some ⟨gp, op, none⟩) 64 c w (DDoV w g gl mb (.bool (!(putK S k s).off)) (putK S k s)) ?_)
  unfold GDk.dput_vc
  have hl0 := hW.left0
  have hlM := hW.leftM
  refine drewB (Bs.refl w) fun w2 b2 B2 e2 => ⟨some mb, (h.below b2).c1, Nat.le_refl _, s, hs, cellsAt_below hc b2 (Nat.le_refl _), (h.below b2).putM k s fun w3 h3 f3 z3 => ⟨S.left, h3.c2, ?_⟩⟩
  have F3 : Fr [g, gl, mb] w w3 := (Fr.ofBelow b2).trans f3 fun j hj => .inl (by simp at hj; simp [hj])
  refine br_dec (fun hl => ⟨S.left, h3.c2, ?_⟩) fun hl => ⟨S.off, h3.c3, ?_⟩
  · rw [wr64 (by omega) (by omega)]
    refine h3.setLeft (S.left - 1) (fun q hq => by cases hq) fun w4 h4 f4 z4 => ⟨S.left - 1, h4.c2, h4.setOff (decide (S.left - 1 = 0)) (fun q hq => by cases hq) fun w5 h5 f5 z5 => ⟨decide (S.left - 1 = 0), h5.c3, ?_, ?_, ?_⟩⟩
    · unfold putK
      dsimp only
      rw [if_pos hl]
    · unfold putK
      rw [if_pos hl, if_pos hl]
      exact h5
    · exact (F3.g f4 (.inl (by simp))).g f5 (.inl (by simp))
  · refine ⟨?_, ?_, F3⟩
    · unfold putK
      dsimp only
      rw [if_neg hl]
    · unfold putK
      rw [if_neg hl, if_neg hl]
      exact h3
/-- 'slices.Collect(slices.Chunk(b, 64))', as one step. -/
theorem chunksB_new {w : World} {a : Option Addr} {c m gb off : Nat} (ha : 0 < m → a = some ⟨gb, off, none⟩) (hm : m ≤ 1000000) (hcap : m * 64 ≤ c) {gs : List Nat} {K : Option Addr → Nat → Nat → World → Prop}
    (k : ∀ a' c' w2, Own w2 w.heap.size 22 1 (.slice a' m c') m ((List.range m).map (pieceV gb off)) → Below w.heap.size w w2 → K a' m c' w2) :
    Calls Try.prog 55 #[.slice a (m * 64) c, .int .i64 64] w fun e w1 => KeepG gs w w1 ∧ ∃ v : Value, e = .returned v ∧ Calls Try.prog 54 #[v] w1 fun e w2 => KeepG gs w1 w2 ∧ ∃ (a : Option Addr) (n c : Nat), e = .returned (.slice a n c) ∧ K a n c w2 := by
  refine ((callsIn_wide (n := 5)).1 (chunk_in Fence.wide 5 trivial rfl a (m * 64) c w)).mono ?_
  rintro e w1 ⟨rfl, rfl⟩
  have b1 : Below w.heap.size w (w.alloc (.cells #[.slice a (m * 64) c] 22)) := Below_one _
  have b2 : Below w.heap.size w ((w.alloc (.cells #[.slice a (m * 64) c] 22)).alloc (.cells #[.int .i64 64] 3)) := b1.alloc b1.size _
  refine ⟨keepG_below b2, _, rfl, ?_⟩
  have h0 : ((w.alloc (.cells #[.slice a (m * 64) c] 22)).alloc (.cells #[.int .i64 64] 3)).cell? ⟨w.heap.size, 0, none⟩ = some (.slice a (m * 64) c) := by
    rw [cell_of_row _ _ _ _ _ _ ((Below.heap_alloc _ _ _ (by simp)).trans (al_new rfl))]; rfl
  have h1 : ((w.alloc (.cells #[.slice a (m * 64) c] 22)).alloc (.cells #[.int .i64 64] 3)).cell? ⟨w.heap.size + 1, 0, none⟩ = some (.int .i64 64) := by
    rw [cell_of_row _ _ _ _ _ _ (al_new (by simp))]; rfl
  refine ((callsIn_wide (n := 5)).1 (collectB_in Fence.wide 5 trivial trivial trivial rfl (by omega) w.heap.size (w.heap.size + 1) gb off c m a ha hm hcap _ (by rw [World.size_alloc, World.size_alloc]; omega) (by rw [World.size_alloc, World.size_alloc]; omega) h0 h1)).mono ?_
  rintro e w2 ⟨v, rfl, hr, hn, hb⟩
  have ho := Own.ofRow hr
  obtain ⟨a', c', rfl⟩ := ho.isSlice
  have hb' : Below w.heap.size w w2 := b2.trans (hb.mono b2.size)
  exact ⟨keepG_below hb, a', m, c', rfl, k a' c' w2 (ho.base_le fun j hj => Nat.le_trans b2.size (ho.lt j hj).1) hb'⟩
theorem tdiv64 (n : Nat) : Int.tdiv (n : Int) 64 = ((n / 64 : Nat) : Int) := by rw [Int.tdiv_eq_ediv_of_nonneg (by omega)]; omega
theorem tmod64 (n : Nat) : Int.tmod (n : Int) 64 = ((n % 64 : Nat) : Int) := by rw [Int.tmod_eq_emod_of_nonneg (by omega)]; omega
theorem dwrite_any {w : World} {g gl mb : Nat} {S : DS} (h : DkAt w g gl mb S) (hW : DWf S) {a : Option Addr} {c : Nat} {bs : List UInt8} (hr : RowAt w a (bs.map bV)) (hl : bs.length ≤ 60000000) (hcap : bs.length ≤ c) (ha : ∀ q, a = some q → q.block ∉ [g, gl, mb]) (first : Int) :
    Calls Try.prog 17 #[.pointer (some ⟨g, 0, none⟩), .int .i64 first, .slice a bs.length c] w (DDo w g gl mb (.int .i64 (writeE S first bs)) (writeD S first bs)) := by
  refine ddo_in (GDk.dwrite_calls (some ⟨g, 0, none⟩) first a bs.length c w (DDoV w g gl mb (.int .i64 (writeE S first bs)) (writeD S first bs)) ?_)
  unfold GDk.dwrite_vc
  rw [tdiv64, tmod64, wr64 (z := ((bs.length / 64 : Nat) : Int)) (by omega) (by omega)]
  refine ⟨by decide, callB (Bs.refl w) (dmay_ret h hW first _) fun w2 b2 B2 => ⟨_, rfl, br_dec (fun q => ddo_no h B2 (by unfold writeE; rw [if_pos q]) (by unfold writeD; rw [if_neg fun r => q r.1])) fun q => ⟨by decide, br_dec (fun q2 => ddo_no h B2 (by unfold writeE; rw [if_neg q, if_pos (by omega)]) (by unfold writeD; rw [if_neg fun r => by have := r.2; omega])) fun q2 => ?_⟩⟩⟩
  have q : mayE S first ((bs.length / 64 : Nat) : Int) = 0 := Decidable.byContradiction q
  obtain ⟨ho, h0, h1, h3, h4⟩ := mayE_zero q
  have hn2 := hW.n2
  obtain ⟨f, rfl⟩ := Int.eq_ofNat_of_zero_le h0
  obtain ⟨m, hm⟩ : ∃ m, bs.length = m * 64 := ⟨bs.length / 64, by omega⟩
  have hmd : bs.length / 64 = m := by omega
  have hE : writeE S (f : Int) bs = if (wrS S f (pieceB bs) m).off = true then 12 else 0 := by
    unfold writeE
    rw [if_neg (fun r => r q), if_neg (by omega), hmd, Int.toNat_natCast]
  have hD : writeD S (f : Int) bs = wrS S f (pieceB bs) m := by
    unfold writeD
    rw [if_pos ⟨q, by omega⟩, hmd, Int.toNat_natCast]
  rw [hE, hD]
  obtain ⟨gb, off, hgo⟩ : ∃ gb off, 0 < m → a = some ⟨gb, off, none⟩ := by
    rcases hr with e | ⟨b, o, e, _⟩
    · refine ⟨0, 0, fun hp => ?_⟩
      rw [List.map_eq_nil_iff] at e
      rw [e] at hm
      simp at hm
      omega
    · exact ⟨b, o, fun _ => e⟩
  rw [hm]
  refine chunksB_new (m := m) (c := c) hgo (by omega) (by omega) fun a' c' w4 hO b4 => ?_
  have B4 := B2.to b4
  have h4' := h.below B4
  obtain ⟨l1, l2, l3⟩ := h.lt
  have hs2 := B2.size
  refine ⟨fun x wx => ∃ i : Nat, x = i ∧ i ≤ m ∧ (wrS S f (pieceB bs) i).off = false ∧ DkAt wx g gl mb (wrS S f (pieceB bs) i) ∧ Fr [g, gl, mb] w wx ∧ Fr [g, gl, mb] w4 wx, fun x _ => m - x.toNat, ⟨0, rfl, by omega, ho, h4', Fr.ofBelow B4, Fr.refl _ _⟩, ?_⟩
  rintro x wx ⟨i, rfl, hi, hoff, hx, fx, fx4⟩
  have hWi : DWf (wrS S f (pieceB bs) i) := hW.wr (first := f) (f := pieceB bs) (m := i) (fun k hk => pieceB_len hm (by omega)) (by omega)
  refine br_dec (fun hlt => ?_) fun hge => ?_
  · have him : i < m := by omega
    have hOx : Own wx w2.heap.size 22 1 (.slice a' m c') m ((List.range m).map (pieceV gb off)) := hO.keep fun k hk => by
      obtain ⟨k1, k2⟩ := hO.lt k hk
      exact fx4.block k k2 (by simp; omega)
    have hpl := pieceB_len hm him
    rcases hOx.row with e | ⟨pb, po, rfl, hc⟩
    · have := congrArg List.length e
      simp at this
      omega
    have hci := hc i (pieceV gb off i) (by simp [him])
    have ea := hgo (by omega)
    have hrx : RowAt wx a (bs.map bV) := hr.frL fx ha
    have hpc : cellsAt wx gb (off + i * 64) ((pieceB bs i).map bV) := by
      refine cellsAt_of fun j v hv => ?_
      rcases hrx with e | ⟨b, o, e, hcb⟩
      · rw [List.map_eq_nil_iff] at e
        rw [e] at hm
        simp at hm
        omega
      · rw [ea] at e
        injection e with e
        injection e with e1 e2 _
        subst e1; subst e2
        have hj : j < 64 := by
          have := (List.getElem?_eq_some_iff.1 hv).1
          rw [List.length_map, hpl] at this
          exact this
        have := hcb (i * 64 + j) v (by
          rw [List.getElem?_map] at hv ⊢
          unfold pieceB at hv
          rw [List.getElem?_take_of_lt hj, List.getElem?_drop] at hv
          exact hv)
        rwa [← Nat.add_assoc] at this
    rw [wr64 (z := (f : Int) + i) (by omega) (by omega), wr64 (z := (i : Int) + 1) (by omega) (by omega), show (f : Int) + i = ((f + i : Nat) : Int) by omega]
    refine ⟨by omega, by omega, some ⟨gb, off + i * 64, none⟩, 64, 64, by rw [Int.toNat_natCast, Nat.mul_one]; exact hci, (dput_any hx hWi hpl hpc).mono ?_⟩
    rintro e w6 ⟨rfl, h6, f6⟩
    have hst : wrS S f (pieceB bs) (i + 1) = putK (wrS S f (pieceB bs) i) (f + i) (pieceB bs i) := by rw [wrS, if_neg (by rw [hoff]; decide)]
    rw [← hst] at h6 ⊢
    have f6w := fx.trans f6 (Gr.refl _ _)
    refine ⟨keepG_nil _ _, _, rfl, ?_⟩
    cases hq : (wrS S f (pieceB bs) (i + 1)).off
    · exact br_f rfl ⟨⟨i + 1, by omega, by omega, hq, h6, f6w, fx4.trans f6 (Gr.refl _ _)⟩, by dsimp only; omega⟩
    · have hall := wrS_stay hq (j := m) (by omega)
      rw [hall, if_pos hq]
      exact br_t rfl ⟨rfl, h6, f6w⟩
  · obtain rfl : i = m := by omega
    rw [if_neg (by rw [hoff]; decide)]
    exact ⟨rfl, hx, fx⟩
theorem dwrite_nil (first : Int) (w : World) : Calls Try.prog 17 #[.pointer none, .int .i64 first, .slice none 0 0] w (Ret (.int .i64 1) w) := by
  refine ret_in (GDk.dwrite_calls none first none 0 0 w (fun u w' => u = .int .i64 1 ∧ Below w.heap.size w w') ?_)
  unfold GDk.dwrite_vc
  exact ⟨by decide, callB (Bs.refl w) (dmay_nil first _ w) fun w2 b2 B2 => ⟨_, rfl, br_y (by decide) ⟨rfl, B2⟩⟩⟩
theorem dcut_any {w : World} {g gl mb : Nat} {S : DS} (h : DkAt w g gl mb S) (n : Int) : Calls Try.prog 37 #[.pointer (some ⟨g, 0, none⟩), .int .i64 n] w (DDo w g gl mb (.tuple #[]) (cutD S n)) := by
  refine ddo_in (GDk.dcut_calls (some ⟨g, 0, none⟩) n w (DDoV w g gl mb (.tuple #[]) (cutD S n)) ?_)
  unfold GDk.dcut_vc
  exact br_t rfl (h.setLeft (max n 0) (fun q hq => by cases hq) fun w2 h2 f2 z2 => ⟨rfl, h2, f2.mono fun k hk => .inl (by simp at hk; simp [hk])⟩)
theorem dcut_nil (n : Int) (w : World) : Calls Try.prog 37 #[.pointer none, .int .i64 n] w (Ret (.tuple #[]) w) := by
  refine ret_in (GDk.dcut_calls none n w (fun u w' => u = .tuple #[] ∧ Below w.heap.size w w') ?_)
  unfold GDk.dcut_vc
  exact br_f rfl ⟨rfl, Bs.refl _⟩
end Go.Proofs.Ytpfmadinijofeaa
end
section
/- Rows of ints. No program in sight. -/
namespace Go.Proofs.Ytpfmadinijofeaa
open Go.RowKit Go.ChangeShapes
def iV (z : Int) : Value := .int .i64 z
def ints (zs : List Int) : Prop := ∀ z ∈ zs, -9223372036854775808 ≤ z ∧ z ≤ 9223372036854775807
theorem RowAt.int {w : World} {a : Option Addr} {zs : List Int} (h : RowAt w a (zs.map iV)) {k : Nat} (hk : k < zs.length) : ∃ b off, a = some ⟨b, off, none⟩ ∧ w.cell? ⟨b, off + k, none⟩ = some (.int .i64 zs[k]) := by
  rcases h with h | ⟨b, off, ha, h⟩
  · rw [List.map_eq_nil_iff] at h; subst h; simp at hk
  · exact ⟨b, off, ha, h k _ (by rw [List.getElem?_map, List.getElem?_eq_getElem hk]; rfl)⟩
theorem one_iV {zs : List Int} : ∀ u ∈ zs.map iV, u.oneCell' = true := by
  intro u hu
  obtain ⟨x, _, rfl⟩ := List.mem_map.1 hu
  rfl
theorem min_takeI (zs : List Int) (n : Nat) : min (zs.length : Int) (n : Int) = ((zs.take n).length : Int) := by
  rw [List.length_take]; omega
variable {P : Program} {W : World} {H : Type} {enc : TypeId × Value → H}
theorem row_of_ints {a : Addr} {zs : List Int} {len : Nat} (hl : len ≤ zs.length) (hc : ∀ i, i < zs.length → W.cell? (a.add i) = some (.int .i64 (zs.getD i 0))) : (zs.take len).length = len ∧ RowAt W (some a) ((zs.take len).map iV) := by
  refine ⟨by simp; omega, ?_⟩
  cases hz : zs with
  | nil => exact .inl (by simp)
  | cons z0 r =>
    rw [← hz]
    have h0 := hc 0 (by rw [hz]; simp)
    have ha := addr_plain h0
    refine .inr ⟨a.block, a.off, by rw [← ha], fun i v hv => ?_⟩
    rw [List.getElem?_map, List.getElem?_take] at hv
    split at hv
    · rcases hq : zs[i]? with _ | z
      · rw [hq] at hv; cases hv
      · rw [hq] at hv
        simp only [Option.map_some, Option.some.injEq] at hv
        have hi : i < zs.length := (List.getElem?_eq_some_iff.1 hq).1
        have h1 := hc i hi
        rw [ha, Addr.add_lit, List.getD_eq_getElem?_getD, hq] at h1
        rw [← hv]
        exact h1
    · cases hv
theorem open_i64s {t e : TypeId} {v : Value} {d : DataW H} {p : List MemPlace} (ht : P.underlying t = some (.slice e)) (he : P.underlying e = some (.int .i64)) (hc : P.cellsOf e = 1)
    (hv : ∃ a l c, v = .slice a l c) (h : DataW.Trod enc P W 0 (fun _ => true) true t v d p) : ∃ (zs : List Int) (a : Option Addr) (c : Nat), v = .slice a zs.length c ∧ zs.length ≤ c ∧ c ≤ maxLen ∧ RowAt W a (zs.map iV) ∧ ints zs := by
  obtain ⟨a, l, c, rfl⟩ := hv
  obtain ⟨fuel, hf⟩ := h
  rcases open_ints ht he hc hf with ⟨hcs, _⟩ | ⟨x, l', c', zs, hcs, _, hl, hm, hz, _, hcell, hwz⟩
  · simp [Value.cells] at hcs
    obtain ⟨rfl, rfl, rfl⟩ := hcs
    exact ⟨[], none, 0, rfl, Nat.le_refl _, by decide, .inl rfl, fun _ h => by cases h⟩
  · simp [Value.cells] at hcs
    obtain ⟨rfl, rfl, rfl⟩ := hcs
    simp only [if_true] at hz
    obtain ⟨h1, h2⟩ := row_of_ints (len := l) (by omega) hcell
    exact ⟨zs.take l, some x, c, by rw [h1], by rw [h1]; exact hl, hm, h2, fun z hz => i64_range (hwz z (List.mem_of_mem_take hz))⟩
end Go.Proofs.Ytpfmadinijofeaa
end
section
/- The program's disk: what lasts, behind a sync and behind a crash; walked. -/
namespace Go.Proofs.Ytpfmadinijofeaa
open Go.RowKit Go.Shelf Go.Maps Go.Sort
theorem cD_some {S : DS} {k : Int} {v : Value} (h : cD S k = some v) : ∃ (i : Nat) (s : List UInt8), k = i ∧ S.cch i = some s ∧ v = secV s := by
  unfold cD at h
  split at h
  · cases h
  · rename_i hk
    rw [Option.map_eq_some_iff] at h
    obtain ⟨s, hs, rfl⟩ := h
    exact ⟨k.toNat, s, by omega, hs, rfl⟩
theorem cD_mem {S : DS} {m : List (Int × Value)} (hn : (m.map (·.1)).Nodup) (hl : ∀ k, lkM m k = cD S k) (k : Int) : k ∈ m.map (·.1) ↔ 0 ≤ k ∧ (S.cch k.toNat).isSome = true := by
  constructor
  · intro h
    obtain ⟨p, hp, rfl⟩ := List.mem_map.1 h
    have h1 := lkM_of_mem hn (k := p.1) (v := p.2) hp
    rw [hl] at h1
    obtain ⟨i, s, hi, hs, _⟩ := cD_some h1
    rw [hi, Int.toNat_natCast, hs]
    exact ⟨by omega, rfl⟩
  · rintro ⟨h0, h1⟩
    obtain ⟨s, hs⟩ := Option.isSome_iff_exists.1 h1
    have := hl k
    unfold cD at this
    rw [if_neg (by omega), hs] at this
    exact List.mem_map.2 ⟨_, lkM_mem this, rfl⟩
theorem sortK_dirty {S : DS} (hW : DWf S) {m : List (Int × Value)} (hn : (m.map (·.1)).Nodup) (hl : ∀ k, lkM m k = cD S k) : sortK m = dirtyI S := by
  unfold sortK
  have hnd : (dirtyI S).Nodup := (dirtyI_sorted S).imp fun h => by omega
  have hp : (m.map (·.1)).Perm (dirtyI S) := (List.perm_ext_iff_of_nodup hn hnd).2 fun k => by rw [mem_dirtyI hW, cD_mem hn hl]
  rw [mergeSort_of_perm_i hp]
  exact List.mergeSort_of_pairwise ((dirtyI_sorted S).imp fun h => by simp [leI]; omega)
theorem dirty_range {S : DS} (hW : DWf S) {m : List (Int × Value)} (hn : (m.map (·.1)).Nodup) (hl : ∀ k, lkM m k = cD S k) : (∀ p ∈ m, -9223372036854775808 ≤ p.1 ∧ p.1 ≤ 9223372036854775807) ∧ m.length ≤ 8192 := by
  have hn2 := hW.n2
  have h1 : ∀ k ∈ m.map (·.1), 0 ≤ k ∧ k < 8192 := fun k hk => by
    obtain ⟨h0, h1⟩ := (cD_mem hn hl k).1 hk
    obtain ⟨s, hs⟩ := Option.isSome_iff_exists.1 h1
    have := (hW.cch _ s hs).1
    omega
  refine ⟨fun p hp => by have := h1 p.1 (List.mem_map.2 ⟨p, hp, rfl⟩); omega, ?_⟩
  have hsub := nodup_sub (l := m.map (·.1)) (l' := (List.range 8192).map fun (i : Nat) => (i : Int)) hn fun k hk => by
    have := h1 k hk
    exact List.mem_map.2 ⟨k.toNat, List.mem_range.2 (by omega), by omega⟩
  simpa using hsub
def NewIntsD (w : World) (zs : List Int) (a : Option Addr) (n c : Nat) (w' : World) : Prop := n = zs.length ∧ Own w' w.heap.size 3 1 (.slice a n c) n (zs.map iV) ∧ Below w.heap.size w w'
theorem ddirty_new {w : World} {g gl mb : Nat} {S : DS} (h : DkAt w g gl mb S) (hW : DWf S) :
    Calls Try.prog 36 #[.pointer (some ⟨g, 0, none⟩)] w fun e w' => ∃ a n c, e = .returned (.slice a n c) ∧ NewIntsD w (dirtyI S) a n c w' := by
  refine (GDk.ddirty_calls (some ⟨g, 0, none⟩) w (fun u w' => ∃ a n c, u = .slice a n c ∧ NewIntsD w (dirtyI S) a n c w') ?_).mono (by rintro e w' ⟨v, rfl, a, n, c, rfl, h⟩; exact ⟨a, n, c, rfl, h⟩)
  unfold GDk.ddirty_vc
  obtain ⟨m, hm, hl⟩ := h.map
  obtain ⟨hr, hlen⟩ := dirty_range hW hm.nodup hl
  refine br_f rfl ⟨some mb, h.c1, keysDisk_new (K := fun u w' => ∃ a n c, u = .slice a n c ∧ NewIntsD w (dirtyI S) a n c w') hm hr (by omega) (Bs.refl w) fun a c w2 ho hn b2 B2 => ?_⟩
  rw [sortK_dirty hW hm.nodup hl] at ho ⊢
  exact ⟨a, _, c, rfl, rfl, ho, B2⟩
theorem ddirty_nil (w : World) : Calls Try.prog 36 #[.pointer none] w (Ret (.slice none 0 0) w) := by
  refine ret_in (GDk.ddirty_calls none w (fun u w' => u = .slice none 0 0 ∧ Below w.heap.size w w') ?_)
  unfold GDk.ddirty_vc
  exact br_t rfl ⟨rfl, Bs.refl _⟩
def seenS (S : DS) (seen : List Int) : DS := ⟨S.n, fun i => if (i : Int) ∈ seen then nowS S i else S.last i, S.cch, S.left, S.off⟩
theorem seenS_wf {S : DS} (h : DWf S) (seen : List Int) : DWf (seenS S seen) :=
  ⟨h.n1, h.n2, fun i => by
    show (if (i : Int) ∈ seen then nowS S i else S.last i).length = 64
    split
    · exact h.now i
    · exact h.last i, h.cch, h.left0, h.leftM⟩
theorem off_of {S : DS} (q : syncE S ≠ 0) : syncD S = S := by
  unfold syncE at q
  unfold syncD
  by_cases ho : S.off = true
  · rw [if_pos ho]
  · rw [if_neg ho] at q; exact absurd rfl q
theorem dsync_any {w : World} {g gl mb : Nat} {S : DS} (h : DkAt w g gl mb S) (hW : DWf S) : Calls Try.prog 65 #[.pointer (some ⟨g, 0, none⟩)] w (DDo w g gl mb (.int .i64 (syncE S)) (syncD S)) := by
  refine ddo_in (GDk.dsync_calls (some ⟨g, 0, none⟩) w (DDoV w g gl mb (.int .i64 (syncE S)) (syncD S)) ?_)
  unfold GDk.dsync_vc
  have hm0 : mayE S 0 0 = syncE S := by
    unfold mayE syncE
    split
    · rfl
    · rw [if_pos ⟨by omega, by omega, by omega, by omega⟩]
  refine callB (Bs.refl w) (dmay_ret h hW 0 0) fun w2 b2 B2 => ⟨_, rfl, ?_⟩
  rw [hm0]
  refine br_dec (fun q => ddo_no h B2 rfl (off_of q)) fun q => ?_
  have q : syncE S = 0 := Decidable.byContradiction q
  have ho : ¬ S.off = true := fun r => by unfold syncE at q; rw [if_pos r] at q; omega
  have hS : syncD S = ⟨S.n, nowS S, fun _ => none, S.left, S.off⟩ := by unfold syncD; rw [if_neg ho]
  rw [q, hS]
  have h2 := h.below B2
  obtain ⟨l1, l2, l3⟩ := h.lt
  obtain ⟨n1, n2, n3⟩ := h.ne
  have hs2 := B2.size
  obtain ⟨m, hm, hl⟩ := h2.map
  have hn := hm.nodup
  refine ⟨some mb, h2.c1, mb, m, rfl, hm, fun g2 w3 sg2 hit b3 z3 => ?_⟩
  have B3 := B2.to b3
  refine ⟨fun wx => ∃ seen, Loop wx g2 mb m seen ∧ DkAt wx g gl mb (seenS S seen) ∧ Fr [g, gl, mb] w wx ∧ w3.heap.size ≤ wx.heap.size, fun wx => m.length - iterLen wx g2, ⟨[], Loop.start hit, ?_, Fr.ofBelow B3, Nat.le_refl _⟩, ?_⟩
  · have := h2.below b3
    exact this
  rintro wx ⟨seen, hL, hx, fx, hsx⟩
  refine ⟨mb, m, seen, hL.at', fun hall => ?_, fun k v w7 hkv hks hit1 hf1 hz1 => ?_⟩
  · refine ⟨some mb, hx.c1, .inr (hx.clear fun w6 h6 f6 z6 => ⟨rfl, ?_, fx.g f6 (.inl (by simp))⟩)⟩
    have hlast : (seenS S seen).last = nowS S := by
      funext i
      show (if (i : Int) ∈ seen then nowS S i else S.last i) = nowS S i
      by_cases hi : (i : Int) ∈ seen
      · rw [if_pos hi]
      · rw [if_neg hi]
        unfold nowS
        cases hc : S.cch i with
        | none => rfl
        | some s =>
          have hlk := hl (i : Int)
          rw [cD_nat, hc] at hlk
          exact absurd (hall _ (lkM_mem hlk)) hi
    have h6' : DkAt w6 g gl mb ⟨S.n, (seenS S seen).last, fun _ => none, S.left, S.off⟩ := h6
    rw [hlast] at h6'
    exact h6'
  · have hv := lkM_of_mem hn hkv
    have hv' := hv
    rw [hl] at hv'
    obtain ⟨i, s, rfl, hs, rfl⟩ := cD_some hv'
    obtain ⟨hin, h64⟩ := hW.cch i s hs
    have hL1 := hL.step hkv hks hit1
    have hx7 : DkAt w7 g gl mb (seenS S seen) := hx.fr hf1 (by rw [List.mem_singleton]; omega) (by rw [List.mem_singleton]; omega) (by rw [List.mem_singleton]; omega)
    have fx7 : Fr [g, gl, mb] w w7 := fx.g hf1 (.inr (by omega))
    refine ⟨s, h64, (i : Int), ⟨mb, m, seen, hit1, hv⟩, newB (Bs.refl w7) fun g3 w8 g30 sg3 n8 z8 b8 B8 => condB h64 (stB B8 g30 n8 (by rw [List.length_map, h64]; rfl) (fun q hq => by cases hq) fun w9 n9 f9 B9 z9 => drewB B9 fun w10 b10 B10 e10 => ?_)⟩
    have h10 := hx7.below B10
    have n10 : Bk w10 g3 (s.map bV).toArray 110 := n9.below b10
    refine ⟨some ⟨gl, 0, none⟩, S.n, S.n, h10.c0, s, h64, cellsAt_row n10 (by rw [List.drop_zero, List.take_length]), by omega, by omega, condB h64 ?_⟩
    have hstep : (⟨S.n, fun j => if j = i then s else (seenS S seen).last j, S.cch, S.left, S.off⟩ : DS) = seenS S (seen ++ [(i : Int)]) := by
      unfold seenS
      congr 1
      funext j
      dsimp only
      by_cases e : j = i
      · subst e
        rw [if_pos rfl, if_pos (by simp)]
        unfold nowS
        rw [hs]
        rfl
      · rw [if_neg e]
        by_cases hj : (j : Int) ∈ seen
        · rw [if_pos hj, if_pos (by simp [hj])]
        · rw [if_neg hj, if_neg (by simp [hj]; omega)]
    rw [Int.toNat_natCast]
    refine h10.setSec (seenS_wf hW seen) hin h64 (fun q hq => by cases hq) fun w11 h11 f11 z11 => ?_
    have h11' : DkAt w11 g gl mb ⟨S.n, fun j => if j = i then s else (seenS S seen).last j, S.cch, S.left, S.off⟩ := h11
    rw [hstep] at h11'
    have hL11 : Loop w11 g2 mb m (seen ++ [(i : Int)]) := (hL1.below B10).box h10.lst f11
    refine ⟨⟨_, hL11, h11', (fx7.b B10).g f11 (.inl (by simp)), by have := B10.size; omega⟩, ?_⟩
    have hmore := hL.more hkv hks
    dsimp only
    rw [hL11.at'.len, hL.at'.len]
    simp
    omega
theorem dsync_nil (w : World) : Calls Try.prog 65 #[.pointer none] w (Ret (.int .i64 1) w) := by
  refine ret_in (GDk.dsync_calls none w (fun u w' => u = .int .i64 1 ∧ Below w.heap.size w w') ?_)
  unfold GDk.dsync_vc
  exact callB (Bs.refl w) (dmay_nil 0 0 w) fun w2 b2 B2 => ⟨_, rfl, br_y (by decide) ⟨rfl, B2⟩⟩
/-- So many of the cache have been looked at. -/
def crS (S : DS) (kept : List Bool) (k : Nat) : DS := ⟨S.n, fun i => if i ∈ (dirtyL S).take k ∧ kept.getD (rk (dirtyS S) i) false = true then nowS S i else S.last i, S.cch, S.left, S.off⟩
theorem crS_wf {S : DS} (h : DWf S) (kept : List Bool) (k : Nat) : DWf (crS S kept k) :=
  ⟨h.n1, h.n2, fun i => by
    show (if i ∈ (dirtyL S).take k ∧ kept.getD (rk (dirtyS S) i) false = true then nowS S i else S.last i).length = 64
    split
    · exact h.now i
    · exact h.last i, h.cch, h.left0, h.leftM⟩
theorem crS_no {S : DS} {kept : List Bool} {k i : Nat} (hk : (dirtyL S)[k]? = some i) (hn : kept.getD k false = false) : crS S kept (k + 1) = crS S kept k := by
  obtain ⟨h1, h2, h3⟩ := filt_get (dirtyS S) S.n k i hk
  unfold crS
  congr 1
  funext j
  by_cases e : j = i
  · subst e
    rw [if_neg fun q => by rw [← h1, hn] at q; exact absurd q.2 (by decide), if_neg fun q => by rw [← h1, hn] at q; exact absurd q.2 (by decide)]
  · have hiff : j ∈ (dirtyL S).take (k + 1) ↔ j ∈ (dirtyL S).take k := by
      rw [List.take_add_one, hk, List.mem_append]
      simp [e]
    simp only [hiff]
theorem crS_yes {S : DS} {kept : List Bool} {k i : Nat} {s : List UInt8} (hk : (dirtyL S)[k]? = some i) (hy : kept.getD k false = true) (hs : S.cch i = some s) :
    (⟨S.n, fun j => if j = i then s else (crS S kept k).last j, S.cch, S.left, S.off⟩ : DS) = crS S kept (k + 1) := by
  obtain ⟨h1, h2, h3⟩ := filt_get (dirtyS S) S.n k i hk
  unfold crS
  congr 1
  funext j
  dsimp only
  by_cases e : j = i
  · subst e
    rw [if_pos rfl, if_pos ⟨by rw [List.take_add_one, hk, List.mem_append]; simp, by rw [← h1]; exact hy⟩]
    unfold nowS
    rw [hs]
    rfl
  · rw [if_neg e]
    have hiff : j ∈ (dirtyL S).take (k + 1) ↔ j ∈ (dirtyL S).take k := by
      rw [List.take_add_one, hk, List.mem_append]
      simp [e]
    simp only [hiff]
theorem crS_all {S : DS} (hW : DWf S) (kept : List Bool) : (crS S kept (dirtyL S).length).last = (crashD S kept).last := by
  funext i
  show (if i ∈ (dirtyL S).take (dirtyL S).length ∧ kept.getD (rk (dirtyS S) i) false = true then nowS S i else S.last i) = if dirtyS S i = true ∧ kept.getD (rk (dirtyS S) i) false = true then nowS S i else S.last i
  have hiff : i ∈ (dirtyL S).take (dirtyL S).length ↔ dirtyS S i = true := by
    rw [List.take_length]
    unfold dirtyL
    rw [List.mem_filter, List.mem_range]
    refine ⟨fun q => q.2, fun q => ⟨?_, q⟩⟩
    obtain ⟨s, hs⟩ := Option.isSome_iff_exists.1 q
    exact (hW.cch i s hs).1
  simp only [hiff]
theorem getD_b {l : List Bool} {i : Nat} (h : i < l.length) : l.getD i false = l[i] := by rw [List.getD_eq_getElem?_getD, List.getElem?_eq_getElem h]; rfl
theorem RowAt.bool {w : World} {a : Option Addr} {bs : List Bool} (h : RowAt w a (bs.map Value.bool)) {k : Nat} (hk : k < bs.length) : ∃ b off, a = some ⟨b, off, none⟩ ∧ w.cell? ⟨b, off + k, none⟩ = some (.bool bs[k]) := by
  rcases h with h | ⟨b, off, ha, h⟩
  · rw [List.map_eq_nil_iff] at h; subst h; simp at hk
  · exact ⟨b, off, ha, h k _ (by simp [hk])⟩
theorem dcrash_g {w : World} {g gl mb : Nat} {S : DS} (h : DkAt w g gl mb S) (hW : DWf S) {a : Option Addr} {c : Nat} {kept : List Bool} (hr : ∀ w1, Fr [g, gl, mb] w w1 → RowAt w1 a (kept.map Value.bool)) :
    Calls Try.prog 39 #[.pointer (some ⟨g, 0, none⟩), .slice a kept.length c] w (DDo w g gl mb (.tuple #[]) (crashD S kept)) := by
  refine ddo_in (GDk.dcrash_calls (some ⟨g, 0, none⟩) a kept.length c w (DDoV w g gl mb (.tuple #[]) (crashD S kept)) ?_)
  unfold GDk.dcrash_vc
  have hlen := dirtyL_le hW
  have hlI : (dirtyI S).length = (dirtyL S).length := by unfold dirtyI; rw [List.length_map]
  obtain ⟨l1, l2, l3⟩ := h.lt
  refine br_f rfl ((ddirty_new h hW).mono ?_)
  rintro e w2 ⟨ad, nd, cd, rfl, rfl, od, bd⟩
  refine ⟨keepG_nil _ _, ad, _, cd, rfl, fun x wx => ∃ k : Nat, x = k ∧ k ≤ (dirtyL S).length ∧ DkAt wx g gl mb (crS S kept k) ∧ Fr [g, gl, mb] w wx ∧ Fr [g, gl, mb] w2 wx, fun x _ => (dirtyL S).length - x.toNat, ⟨0, rfl, by omega, ?_, Fr.ofBelow bd, Fr.refl _ _⟩, ?_⟩
  · have h2 := h.below bd
    have : crS S kept 0 = S := by
      unfold crS
      simp
    rw [this]
    exact h2
  rintro x wx ⟨k, rfl, hk, hx, fx, fx2⟩
  refine br_dec (fun hlt => ?_) fun hge => ?_
  · have hkl : k < (dirtyL S).length := by omega
    have hodx : Own wx w.heap.size 3 1 (.slice ad (dirtyI S).length cd) (dirtyI S).length ((dirtyI S).map iV) := od.keep fun j hj => by
      obtain ⟨j1, j2⟩ := od.lt j hj
      exact fx2.block j j2 (by simp; omega)
    obtain ⟨b0, o0, rfl, hc⟩ := hodx.row.int (k := k) (by omega)
    have hg := List.getElem?_eq_getElem hkl
    obtain ⟨r1, r2, r3⟩ := filt_get (dirtyS S) S.n k _ hg
    have hat : (dirtyI S)[k] = (((dirtyL S)[k] : Nat) : Int) := by unfold dirtyI; simp
    rw [wr64 (z := (k : Int) + 1) (by omega) (by omega)]
    refine ⟨by omega, by omega, (((dirtyL S)[k] : Nat) : Int), by rw [Int.toNat_natCast, Nat.mul_one, hc, hat], ?_⟩
    have no : kept.getD k false = false → (∃ j : Nat, (k : Int) + 1 = j ∧ j ≤ (dirtyL S).length ∧ DkAt wx g gl mb (crS S kept j) ∧ Fr [g, gl, mb] w wx ∧ Fr [g, gl, mb] w2 wx) ∧ (dirtyL S).length - ((k : Int) + 1).toNat < (dirtyL S).length - (k : Int).toNat := fun q => ⟨⟨k + 1, by omega, by omega, by rw [crS_no hg q]; exact hx, fx, fx2⟩, by omega⟩
    refine br_dec (fun hkk => ?_) fun hkk => no (by rw [List.getD_eq_getElem?_getD, List.getElem?_eq_none (by omega)]; rfl)
    have hkl2 : k < kept.length := by omega
    obtain ⟨b1, o1, rfl, hb⟩ := (hr _ fx).bool hkl2
    refine ⟨by omega, by omega, kept[k], by rw [Int.toNat_natCast, Nat.mul_one]; exact hb, ?_⟩
    cases hkb : kept[k]
    · exact br_f rfl (no (by rw [getD_b hkl2, hkb]))
    · obtain ⟨s, hs⟩ := Option.isSome_iff_exists.1 r3
      have h64 := (hW.cch _ s hs).2
      refine br_t rfl (drewB (Bs.refl wx) fun w4 b4 B4 e4 => ?_)
      have h4 := hx.below b4
      refine ⟨some ⟨gl, 0, none⟩, S.n, S.n, h4.c0, some mb, h4.c1, s, h64, ?_, by omega, by omega, condB h64 ?_⟩
      · obtain ⟨r, q1, q2, _⟩ := h4.hit (k := (dirtyL S)[k]) (s := s) hs
        exact ⟨r, q1, q2⟩
      rw [Int.toNat_natCast]
      refine h4.setSec (crS_wf hW kept k) r2 h64 (fun q hq => by cases hq) fun w5 h5 f5 z5 => ?_
      have h5' : DkAt w5 g gl mb ⟨S.n, fun j => if j = (dirtyL S)[k] then s else (crS S kept k).last j, S.cch, S.left, S.off⟩ := h5
      rw [crS_yes hg (by rw [getD_b hkl2, hkb]) hs] at h5'
      exact ⟨⟨k + 1, by omega, by omega, h5', (fx.b b4).g f5 (.inl (by simp)), (fx2.b b4).g f5 (.inl (by simp))⟩, by dsimp only; omega⟩
  · obtain rfl : k = (dirtyL S).length := by omega
    refine ⟨some mb, hx.c1, .inr (hx.clear fun w6 h6 f6 z6 => h6.setLeft 0 (fun q hq => by cases hq) fun w7 h7 f7 z7 => h7.setOff false (fun q hq => by cases hq) fun w8 h8 f8 z8 => ⟨rfl, ?_, ((fx.g f6 (.inl (by simp))).g f7 (.inl (by simp))).g f8 (.inl (by simp))⟩)⟩
    have h8' : DkAt w8 g gl mb ⟨S.n, (crS S kept (dirtyL S).length).last, fun _ => none, 0, false⟩ := h8
    rw [crS_all hW] at h8'
    exact h8'
theorem dcrash_any {w : World} {g gl mb : Nat} {S : DS} (h : DkAt w g gl mb S) (hW : DWf S) {a : Option Addr} {c : Nat} {kept : List Bool} (hr : RowAt w a (kept.map Value.bool)) (ha : ∀ q, a = some q → q.block ∉ [g, gl, mb]) :
    Calls Try.prog 39 #[.pointer (some ⟨g, 0, none⟩), .slice a kept.length c] w (DDo w g gl mb (.tuple #[]) (crashD S kept)) := dcrash_g h hW fun _ f => hr.frL f ha
theorem dcrash_nil (a : Option Addr) (n c : Nat) (w : World) : Calls Try.prog 39 #[.pointer none, .slice a n c] w (Ret (.tuple #[]) w) := by
  refine ret_in (GDk.dcrash_calls none a n c w (fun u w' => u = .tuple #[] ∧ Below w.heap.size w w') ?_)
  unfold GDk.dcrash_vc
  exact br_t rfl ⟨rfl, Bs.refl _⟩
end Go.Proofs.Ytpfmadinijofeaa
end
section
/- The table of nibbles, as the program makes it. -/
namespace Go.Proofs.Ytpfmadinijofeaa
open Go.RowKit
def V32 (n : Nat) : Value := .int .u32 n
def tabCells (k : Nat) : Array Value := ((tbl.take k ++ List.replicate (16 - k) 0).map V32).toArray
theorem tabCells_zero : tabCells 0 = #[Value.int IntKind.u32 0, Value.int IntKind.u32 0, Value.int IntKind.u32 0, Value.int IntKind.u32 0,
            Value.int IntKind.u32 0, Value.int IntKind.u32 0, Value.int IntKind.u32 0, Value.int IntKind.u32 0,
            Value.int IntKind.u32 0, Value.int IntKind.u32 0, Value.int IntKind.u32 0, Value.int IntKind.u32 0,
            Value.int IntKind.u32 0, Value.int IntKind.u32 0, Value.int IntKind.u32 0, Value.int IntKind.u32 0] := by rfl
theorem tabCells_16 : tabCells 16 = #[Value.int IntKind.u32 0, Value.int IntKind.u32 498536548, Value.int IntKind.u32 997073096, Value.int IntKind.u32 651767980, Value.int IntKind.u32 1994146192, Value.int IntKind.u32 1802195444, Value.int IntKind.u32 1303535960, Value.int IntKind.u32 1342533948, Value.int IntKind.u32 3988292384, Value.int IntKind.u32 4027552580, Value.int IntKind.u32 3604390888, Value.int IntKind.u32 3412177804, Value.int IntKind.u32 2607071920, Value.int IntKind.u32 2262029012, Value.int IntKind.u32 2685067896, Value.int IntKind.u32 3183342108] := by rfl
theorem tabCells_at (k : Nat) (h : k < 16) : (tabCells k)[k]? = some (.int .u32 0) := by
  have e : (tbl.take k ++ List.replicate (16 - k) 0)[k]? = some 0 := (by decide : ∀ k, k < 16 → (tbl.take k ++ List.replicate (16 - k) 0)[k]? = some 0) k h
  unfold tabCells
  rw [List.getElem?_toArray, List.getElem?_map, e]; rfl
theorem tabCells_step (k : Nat) (h : k < 16) : (tabCells k).setIfInBounds k (V32 (iter st 4 k)) = tabCells (k + 1) := by
  have e : (tbl.take k ++ List.replicate (16 - k) 0).set k (iter st 4 k) = tbl.take (k + 1) ++ List.replicate (16 - (k + 1)) 0 := (by decide : ∀ k, k < 16 → (tbl.take k ++ List.replicate (16 - k) 0).set k (iter st 4 k) = tbl.take (k + 1) ++ List.replicate (16 - (k + 1)) 0) k h
  unfold tabCells
  rw [← e, List.map_set]; simp
set_option maxHeartbeats 400000 in
theorem table_any (w : World) :
    Calls Try.prog 99 #[] w fun e w' => e = .returned (.agg (tabCells 16)) ∧ Below w.heap.size w w' := by
  go_enter Try.func99, Try.ntmps99
  go_wp2
  go_loopw [2,3,4,5,6,7,8] (fun t2 t3 t4 t5 t6 t7 t8 wr => ∃ k : Nat, k ≤ 16 ∧ t4 = .int .i64 k ∧ wr = (w.alloc (Obj.cells (tabCells 0) 154)).alloc (Obj.cells (tabCells k) 154)) (fun t2 t3 t4 t5 t6 t7 t8 wr => 16 - (intOf t4).toNat)
  case atStart => 
    exact ⟨0, by omega, rfl, by simp only [tabCells_zero]⟩
  case round =>
    obtain ⟨k, hk, rfl, rfl⟩ := hrel
    by_cases hlt : k < 16
    · have hcell := tabCells_at k hlt
      go_wp2
      go_loop [3,9,10,11,12,13,14,15,16,17,18,19] (fun t3 t9 t10 t11 t12 t13 t14 t15 t16 t17 t18 t19 => ∃ j : Nat, j ≤ 4 ∧ t9 = .int .i64 j ∧ t3 = V32 (iter st j k)) (fun t3 t9 t10 t11 t12 t13 t14 t15 t16 t17 t18 t19 => 4 - (intOf t9).toNat)
      case atStart => exact ⟨0, by omega, rfl, rfl⟩
      case round => 
        obtain ⟨j, hj, rfl, rfl⟩ := hrel
        have h0 : iter st j k < 4294967296 := iter_lt j (by omega)
        have h1 : iter st (j + 1) k = st (iter st j k) := rfl
        have H1 := hid h1; clear h1
        generalize hn : iter st j k = n at *
        have Hn := hid hn; clear hn
        unfold V32
        by_cases hltj : j < 4
        · have hb : bits BinOp.and IntKind.u32 (n : Int) 1 = ((n % 2 : Nat) : Int) := by rw [show (1 : Int) = ((1 : Nat) : Int) from rfl, u32_and_nat _ _ h0 (by omega), nat_mask1]
          have hx : bits BinOp.xor IntKind.u32 (n / 2) 3988292384 = ((n / 2 ^^^ 3988292384 : Nat) : Int) := by rw [show (3988292384 : Int) = ((3988292384 : Nat) : Int) from rfl, show (n : Int) / 2 = ((n / 2 : Nat) : Int) from rfl, u32_xor_nat _ _ (by omega) (by omega)]
          have HB := hid hb; clear hb
          have HX := hid hx; clear hx
          go_wp2
          · go_round
            case rel => 
              refine ⟨j + 1, by omega, by go_num, ?_⟩
              have hb1 : (bits BinOp.and IntKind.u32 (n : Int) 1 == 1) = true := by assumption
              rw [HB.out] at hb1
              rw [H1.out, HX.out]; unfold st; rw [if_pos (by simp at hb1; omega)]
            case measure => simp [intOf]; omega
          · go_round
            case rel => 
              refine ⟨j + 1, by omega, by go_num, ?_⟩
              have hb1 : (bits BinOp.and IntKind.u32 (n : Int) 1 == 1) = false := by assumption
              rw [HB.out] at hb1
              rw [H1.out]; unfold st; rw [if_neg (by simp at hb1; omega)]; rfl
            case measure => simp [intOf]; omega
        · go_wp2
          have hstep := tabCells_step k hlt
          rw [show (4 : Nat) = j by omega, Hn.out] at hstep
          go_roundw
          case rel => 
              refine ⟨k + 1, by omega, by go_num, ?_⟩
              rw [← hstep]; rfl
          case measure => simp [intOf]; omega
    · obtain rfl : k = 16 := by omega
      have hw1 := heap_alloc2_new w (Obj.cells (tabCells 0) 154) (Obj.cells (tabCells 16) 154)
      have hw0 := heap_alloc2_old w (Obj.cells (tabCells 0) 154) (Obj.cells (tabCells 16) 154)
      have hb : Below w.heap.size w ((w.alloc (Obj.cells (tabCells 0) 154)).alloc (Obj.cells (tabCells 16) 154)) := ((Below.refl _ _).alloc (Nat.le_refl _) _).alloc (by simp) _
      generalize (w.alloc (Obj.cells (tabCells 0) 154)).alloc (Obj.cells (tabCells 16) 154) = W at *
      have H1 := hid hw1
      have H0 := hid hw0
      clear hw1 hw0
      go_wp2_with (first | (refine wpList_load_row rfl 154 (.tmp 1) rfl (w.heap.size + 1) rfl 154 (tabCells 16) (0, 0) _ H1.out Try.underlying154 rfl (by kernel_rfl) ?_) | (refine wpList_store_row rfl 154 (.tmp 0) (.tmp 24) rfl w.heap.size (tabCells 16) rfl rfl 154 (tabCells 0) H0.out (by kernel_rfl) rfl (by kernel_rfl) ?_))
      refine bodyPost_ret (results_cell_row rfl _ _ w.heap.size 154 (tabCells 16) (0, 0) _ rfl (setRow_heap _ _ _ _ _ _ H0.out) Try.underlying154 rfl (by kernel_rfl)) rfl ⟨rfl, ?_⟩
      exact hb.trans ⟨rfl, rfl, rfl, by simp, fun k hk => by simp [World.setRow, Array.getElem?_modify]; omega⟩
end Go.Proofs.Ytpfmadinijofeaa
end
section
/- 'More' and 'Sum' of crc: what they come to. -/
namespace Go.Proofs.Ytpfmadinijofeaa
open Go.RowKit
theorem tabCells_get (k : Nat) (h : k < 16) : (tabCells 16)[k]? = some (V32 (tbl.getD k 0)) := by
  unfold tabCells
  rw [List.getElem?_toArray, List.getElem?_map, show (tbl.take 16 ++ List.replicate (16 - 16) 0) = tbl from rfl, List.getD_eq_getElem?_getD]
  rcases hq : tbl[k]? with _ | x
  · rw [List.getElem?_eq_none_iff] at hq
    have : tbl.length = 16 := rfl
    omega
  · rfl
theorem crcL_snoc (n : Nat) (bs : List UInt8) (k : Nat) (h : k < bs.length) : crcL n (bs.take (k + 1)) = cb (crcL n (bs.take k)) bs[k].toNat := by
  rw [List.take_succ_eq_append_getElem h, crcL_append]; rfl
theorem u32_xor_step (y t : Nat) (hy : y < 4294967296) (ht : t < 4294967296) : bits BinOp.xor IntKind.u32 ((y : Int) / 16) (t : Int) = (((y / 16) ^^^ t : Nat) : Int) := by
  rw [show (y : Int) / 16 = ((y / 16 : Nat) : Int) from rfl, u32_xor_nat _ _ (by omega) ht]
theorem u32_not (n : Nat) (h : n < 4294967296) : bits BinOp.xor IntKind.u32 IntKind.u32.max (n : Int) = ((cpl n : Nat) : Int) := by
  rw [show IntKind.u32.max = ((4294967295 : Nat) : Int) from rfl, u32_xor_nat _ _ (by omega) h]; rfl
set_option maxHeartbeats 400000 in
theorem more_any (n : Nat) (a : Option Addr) (cap : Nat) (bs : List UInt8) (w : World) (hn : n < 4294967296) (hl : bs.length ≤ maxLen) (hr : RowAt w a (bs.map bV)) :
    Calls Try.prog 88 #[.int .u32 n, .slice a bs.length cap] w fun e w' => e = .returned (.int .u32 (more n bs)) ∧ Below w.heap.size w w' := by
  unfold maxLen at hl
  have HR := hid hr; clear hr
  go_enter Try.func88, Try.ntmps88
  go_wp2_with (first | (go_at_call 99; refine (table_any _).mono ?_; rintro e W ⟨rfl, hb⟩) | (rw [← tabCells_zero]; refine wpList_store_row rfl 154 (.tmp 5) (.tmp 9) rfl _ (tabCells 16) rfl rfl 154 (tabCells 0) (heap_alloc_new _ _) (by kernel_rfl) rfl (by kernel_rfl) ?_))
  have hg : ((W.alloc (Obj.cells (tabCells 0) 154)).setRow W.heap.size (tabCells 16)).heap[W.heap.size]? = some (.cells (tabCells 16) 154 (0, 0)) := setRow_heap _ _ _ _ _ _ (heap_alloc_new _ _)
  have hw : Below w.heap.size w ((W.alloc (Obj.cells (tabCells 0) 154)).setRow W.heap.size (tabCells 16)) := Below_setRow (hb.alloc hb.size _) hb.size _
  generalize (W.alloc (Obj.cells (tabCells 0) 154)).setRow W.heap.size (tabCells 16) = W2 at *
  generalize W.heap.size = g at *
  have HG := hid hg; clear hg
  have HW := hid hw; clear hw hb
  have HR2 := hid (HR.out.below HW.out (Nat.le_refl _)); clear HR
  have hc := u32_not n hn
  rw [hc]; clear hc
  go_loop [6,8,15,16,17,18,19,20,21,22,23,24,25,26,27,28,29,30,31,32,33,34,35,14] (fun t6 _ _ _ _ _ _ _ _ _ _ _ _ _ _ _ _ _ _ _ _ _ _ t14 => ∃ k : Nat, k ≤ bs.length ∧ t14 = .int .i64 k ∧ t6 = V32 (crcL (cpl n) (bs.take k))) (fun t6 _ _ _ _ _ _ _ _ _ _ _ _ _ _ _ _ _ _ _ _ _ _ t14 => bs.length - (intOf t14).toNat)
  case atStart => exact ⟨0, by omega, rfl, rfl⟩
  case round =>
    obtain ⟨k, hk, rfl, rfl⟩ := hrel
    have h0 : crcL (cpl n) (bs.take k) < 4294967296 := crcL_lt _ (cpl_lt hn)
    by_cases hlt : k < bs.length
    · have hsn := hid (crcL_snoc (cpl n) bs k hlt)
      generalize hm : crcL (cpl n) (bs.take k) = m at *
      have Hm := hid hm; clear hm
      obtain ⟨b, off, rfl, hc⟩ := HR2.out.byte hlt
      have hx := (bs[k]).toNat_lt
      generalize hxx : (bs[k]).toNat = x at *
      have e1 := u32_xor_nat m x h0 (by omega)
      have l1 := xlt h0 (show x < 4294967296 by omega)
      generalize hy1 : m ^^^ x = y at *
      have c1 : W2.cell? ⟨g, y % 16, none⟩ = some (.int .u32 (tbl.getD (y % 16) 0 : Nat)) := (cell_of_row _ _ _ _ _ _ HG.out).trans (tabCells_get _ (Nat.mod_lt _ (by omega)))
      have e2 := u32_xor_step y (tbl.getD (y % 16) 0) l1 (tbl_lt _)
      have l2 := nib_lt l1
      have hy2 : nib y = (y / 16) ^^^ tbl.getD (y % 16) 0 := rfl
      rw [← hy2] at e2
      generalize hy3 : tbl.getD (y % 16) 0 = t1 at *
      generalize hy4 : nib y = z at *
      have c2 : W2.cell? ⟨g, z % 16, none⟩ = some (.int .u32 (tbl.getD (z % 16) 0 : Nat)) := (cell_of_row _ _ _ _ _ _ HG.out).trans (tabCells_get _ (Nat.mod_lt _ (by omega)))
      have e3 := u32_xor_step z (tbl.getD (z % 16) 0) l2 (tbl_lt _)
      have hy5 : nib z = (z / 16) ^^^ tbl.getD (z % 16) 0 := rfl
      rw [← hy5] at e3
      generalize hy6 : tbl.getD (z % 16) 0 = t2 at *
      have hfin : cb m x = nib z := by unfold cb; rw [hy1, hy4]
      rw [hfin] at hsn
      generalize nib z = z3 at *
      clear hxx hy1 hy2 hy3 hy4 hy5 hy6 hfin
      unfold V32
      go_wp2
      go_round
      case rel => exact ⟨k + 1, by omega, by go_num, by rw [hsn.out]⟩
      case measure => simp [intOf]; omega
    · obtain rfl : k = bs.length := by omega
      rw [List.take_length] at h0 ⊢
      have hfin : more n bs = cpl (crcL (cpl n) bs) := rfl
      generalize crcL (cpl n) bs = m at *
      have hc := u32_not m h0
      have Hf := hid hfin; clear hfin
      unfold V32
      go_wp2
      go_ret
      exact ⟨by rw [Hf.out]; rfl, HW.out⟩
theorem crcP_snoc (n : Nat) (ps : List (List UInt8)) (k : Nat) (h : k < ps.length) : crcP n (ps.take (k + 1)) = more (crcP n (ps.take k)) ps[k] := by
  rw [List.take_succ_eq_append_getElem h]; unfold crcP; rw [List.foldl_append]; rfl
set_option maxHeartbeats 400000 in
theorem csum_any (a : Option Addr) (cap : Nat) (ps : List (List UInt8)) (w : World) (hl : ps.length ≤ maxLen) (hr : PartsAt w a ps) :
    Calls Try.prog 73 #[.slice a ps.length cap] w fun e w' => e = .returned (.int .u32 (crcP 0 ps)) ∧ Below w.heap.size w w' := by
  unfold maxLen at hl
  have HR := hid hr; clear hr
  go_enter Try.func73, Try.ntmps73
  go_wp2
  go_loopw [3,5,9,10,11,12,13,14,15,8] (fun t3 _ _ _ _ _ _ _ _ t8 wr => ∃ k : Nat, k ≤ ps.length ∧ t8 = .int .i64 k ∧ t3 = V32 (crcP 0 (ps.take k)) ∧ Below w.heap.size w wr) (fun t3 _ _ _ _ _ _ _ _ t8 wr => ps.length - (intOf t8).toNat)
  case atStart => exact ⟨0, by omega, rfl, rfl, Below.refl _ _⟩
  case round =>
    obtain ⟨k, hk, rfl, rfl, hb⟩ := hrel
    have h0 : crcP 0 (ps.take k) < 4294967296 := crcP_lt _ (by omega)
    by_cases hlt : k < ps.length
    · obtain ⟨b, off, v, c, rfl, hc, hr, hvc, hm⟩ := (HR.out.below hb (Nat.le_refl _)).part hlt
      have hsn := hid (crcP_snoc 0 ps k hlt)
      generalize crcP 0 (ps.take k) = m at *
      generalize ps[k] = p at *
      have HP := hid hr; clear hr
      have HB := hid hb; clear hb
      unfold V32
      go_wp2_with (go_at_call 88; refine (more_any _ _ _ _ _ h0 hm HP.out).mono ?_; rintro e W ⟨rfl, hbW⟩)
      go_roundw
      case rel => exact ⟨k + 1, by omega, by go_num, by rw [hsn.out], HB.out.trans (hbW.mono HB.out.size)⟩
      case measure => simp [intOf]; omega
    · obtain rfl : k = ps.length := by omega
      rw [List.take_length] at h0 ⊢
      unfold V32
      go_wp2
      go_ret
      exact ⟨rfl, hb⟩
end Go.Proofs.Ytpfmadinijofeaa
end
section
/- Small words: one byte more, new bytes, what a disk's blocks keep. -/
namespace Go.Proofs.Ytpfmadinijofeaa
open Go.RowKit
theorem numByte (n x : Nat) (hx : x ≤ 7) : IntKind.u8.wrap (Int.fdiv (n : Int) (2 ^ (min (IntKind.i64.wrap (8 * (x : Int))).toNat (IntKind.bits .u64)))) = ((UInt8.ofNat (n / 2 ^ (8 * x) % 256)).toNat : Int) := by
  rw [wr64 (by omega) (by omega), show (8 * (x : Int)).toNat = 8 * x by omega, show min (8 * x) (IntKind.bits .u64) = 8 * x from Nat.min_eq_left (show 8 * x ≤ 64 by omega)]
  rw [ofNat_toNat (Nat.mod_lt _ (by omega)), IntKind.wrap_u8]
  have e : ((2 : Int) ^ (8 * x)) = ((2 ^ (8 * x) : Nat) : Int) := by rw [Int.natCast_pow]; rfl
  rw [e]
  clear e
  generalize 2 ^ (8 * x) = p
  rw [Int.fdiv_eq_ediv_of_nonneg _ (Int.natCast_nonneg p), ← Int.natCast_ediv]
  omega
/-- One byte more. -/
theorem appU {w0 w : World} {n1 n c : Nat} {a : Option Addr} {xs : List UInt8} {b : UInt8} {v : Value} {gs : List Nat} {K : Nat → Option Addr → Nat → World → Prop} (B : Bs w0 w) (o : Own w n1 5 1 (.slice a n c) n (xs.map bV)) (h1 : w0.heap.size ≤ n1) (h2 : n1 ≤ w.heap.size) (hl : n ≤ 1000000000)
    (hv : v = bV b) (hg : ∀ g ∈ gs, g < n1)
    (k : ∀ a' c' w2, Own w2 n1 5 1 (.slice a' (n + 1) c') (n + 1) ((xs ++ [b]).map bV) → Bs w0 w2 → w.heap.size ≤ w2.heap.size → K 1 a' c' w2) :
    newO w (.cells #[v] 5) fun g w1 => appO Try.prog gs w1 5 1 1 22 a n c (.slice (some ⟨g, 0, none⟩) 1 1) K := by
  subst hv
  refine newB B fun g w1 g0 sg n1' z1 b1 B1 => appB B1 (o.below b1 (Nat.le_refl _)) h1 (Nat.le_trans h2 b1.size) (src_block (cs := [bV b]) Try.underlying22 n1' rfl rfl) (by unfold maxLen; omega) (by omega) (fun g hg' e => by have := (o.lt g e).1; have := hg g hg'; omega) fun a' c' w2 o2 g2 B2 z2 => k a' c' w2 ?_ B2 (Nat.le_trans b1.size z2)
  rw [List.map_append]
  exact o2
theorem own_lit {w : World} {g base : Nat} {bs : List UInt8} (h : w.heap[g]? = some (.cells (bs.map bV).toArray 5 (0, 0))) (hg : base ≤ g) (hl : bs.length ≤ maxLen) : Own w base 5 1 (.slice (some ⟨g, 0, none⟩) bs.length bs.length) bs.length (bs.map bV) :=
  ⟨by simp, .inr ⟨g, 0, bs.length, (bs.map bV).toArray, rfl, hg, h, Nat.le_refl _, hl, by simp, by rw [Nat.mul_one]; exact List.take_of_length_le (by simp)⟩⟩
theorem srcB {w : World} {a : Option Addr} {c : Nat} {bs : List UInt8} (h : RowAt w a (bs.map bV)) : Src Try.prog 1 22 (.slice a bs.length c) bs.length (bs.map bV) w := by
  have hs := Src.ofRow (P := Try.prog) (w := w) Try.underlying22 a c (bs.map bV) h (fun u hu => by obtain ⟨x, _, rfl⟩ := List.mem_map.1 hu; rfl)
  rwa [List.length_map] at hs
def NewB (w0 : World) (n1 : Nat) (bs : List UInt8) (e : Ending) (w' : World) : Prop := ∃ a c, e = .returned (.slice a bs.length c) ∧ Own w' n1 5 1 (.slice a bs.length c) bs.length (bs.map bV) ∧ Bs w0 w'
theorem DkAt.bs {w w1 : World} {g gl mb : Nat} {S : DS} (h : DkAt w g gl mb S) (B : Bs w w1) : DkAt w1 g gl mb S := h.below B
theorem RowAt.bs {w w1 : World} {a : Option Addr} {vs : List Value} (h : RowAt w a vs) (B : Bs w w1) : RowAt w1 a vs := h.below B (Nat.le_refl _)
theorem zerosB_succ (n : Nat) : zerosB (n + 1) = zerosB n ++ [0] := List.replicate_succ'
theorem zerosB_len (n : Nat) : (zerosB n).length = n := List.length_replicate
theorem box_ne {w : World} {g gl mb g1 : Nat} {S : DS} (h : DkAt w g gl mb S) (hg : w.heap.size ≤ g1) : ∀ k ∈ [g1], k ∉ [g, gl, mb] := fun k hk hm => by
  have := h.lt
  simp at hk hm
  omega
theorem step_val (x : Int) (y : UInt8) : bitsV .or .i64 (IntKind.i64.wrap (x * 2 ^ (min (8 : Int).toNat (IntKind.bits .i64)))) (IntKind.i64.wrap (y.toNat : Int)) = stepI x y.toNat := rfl
theorem RowAt.keepB {w w1 : World} {a : Option Addr} {vs : List Value} (h : RowAt w a vs) (hk : ∀ q, a = some q → w1.heap[q.block]? = w.heap[q.block]?) : RowAt w1 a vs := by
  rcases h with h | ⟨b, off, rfl, hc⟩
  · exact .inl h
  · refine .inr ⟨b, off, rfl, fun i v hv => ?_⟩
    rw [← hc i v hv]
    simp only [World.cell?]
    rw [hk _ rfl]
theorem row_base {w : World} {a : Option Addr} {c : Nat} {bs : List UInt8} (h : RowAt w a (bs.map bV)) (hl : bs.length ≤ c) (l : Nat) : RowAt w (sliceBase a c l 1) ((bs.drop l).map bV) := by
  unfold sliceBase
  split
  · left; rw [List.drop_of_length_le (by omega)]; rfl
  · rcases h with h | ⟨b, off, rfl, hc⟩
    · left
      have : bs = [] := by simpa using h
      subst this; simp
    · have := RowAt.drop (w := w) (.inr ⟨b, off, rfl, hc⟩) l
      rw [List.map_drop]
      simpa [Addr.add_lit] using this
/-- A disk of one's own. -/
structure D1 (w wx : World) (g gl mb : Nat) (S : DS) : Prop where
  t : DkAt wx g gl mb S
  wf : DWf S
  bs : Bs w wx
  g0 : ∀ k ∈ [g, gl, mb], w.heap.size ≤ k
section
variable {w wx wy : World} {g gl mb : Nat} {S S' : DS}
theorem D1.below (h : D1 w wx g gl mb S) (b : Below wx.heap.size wx wy) : D1 w wy g gl mb S := ⟨h.t.below b, h.wf, h.bs.to b, h.g0⟩
theorem D1.to (h : D1 w wx g gl mb S) (t : DkAt wy g gl mb S') (f : Fr [g, gl, mb] wx wy) (hW : DWf S') : D1 w wy g gl mb S' := ⟨t, hW, h.bs.fr f h.g0, h.g0⟩
theorem D1.lt (h : D1 w wx g gl mb S) : ∀ k ∈ [g, gl, mb], k < wx.heap.size := fun k hk => by
  have := h.t.lt
  simp at hk
  omega
theorem D1.box (h : D1 w wx g gl mb S) {g1 : Nat} (hg : ∀ k ∈ [g, gl, mb], k ≠ g1) (hg0 : w.heap.size ≤ g1) (x : BoxSt g1 wx wy) : D1 w wy g gl mb S :=
  ⟨h.t.fr x.1 (fun e => hg g (by simp) (List.mem_singleton.1 e)) (fun e => hg gl (by simp) (List.mem_singleton.1 e)) (fun e => hg mb (by simp) (List.mem_singleton.1 e)), h.wf, h.bs.box hg0 x, h.g0⟩
/-- A block that is not the disk's is left as it was. -/
theorem D1.k1 (h : D1 w wx g gl mb S) {gs : List Nat} (hg : ∀ k ∈ gs, k < w.heap.size ∨ wx.heap.size ≤ k) {wz wy : World} (f : Fr [g, gl, mb] wz wy) : KeepG gs wz wy := keepG_fr f fun k hk hm => by
  have h1 := h.lt k hm
  have h2 := h.g0 k hm
  have := hg k hk
  omega
theorem own_ap {n1 n c : Nat} {a : Option Addr} {xs : List Value} {e : TypeId} (h : D1 w wx g gl mb S) (o : Own wy n1 e 1 (.slice a n c) n xs) (hn : wx.heap.size ≤ n1) : ∀ q, a = some q → q.block ∉ [g, gl, mb] := fun q hq hm => by
  subst hq
  have := (o.lt q.block rfl).1
  have := h.lt q.block hm
  omega
end
theorem d1_new (n : Nat) (h1 : 1 ≤ n) (h2 : n ≤ 8192) (w : World) {R : Ending → World → Prop} (k : ∀ g gl mb w', D1 w w' g gl mb (newS n) → R (.returned (.tuple #[.pointer (some ⟨g, 0, none⟩), .int .i64 0])) w') : Calls Try.prog 13 #[.int .i64 n] w fun e w' => KeepG [] w w' ∧ R e w' := by
  refine (dnew_new n h1 h2 w).mono ?_
  rintro e w' ⟨g, gl, mb, rfl, t, g0, gl0, mb0, b⟩
  exact ⟨keepG_nil _ _, k g gl mb w' ⟨t, newS_wf h1 h2, b, fun k hk => by simp at hk; omega⟩⟩
end Go.Proofs.Ytpfmadinijofeaa
end
section
/- A writer, and a reader, at work since a world: what else has turned. -/
namespace Go.Proofs.Ytpfmadinijofeaa
open Go.RowKit
/-- Since w0 only the writer's blocks, and new ones, have turned. -/
structure WP (w0 : World) (K0 : List Nat) (w : World) (g : Nat) (bs : List UInt8) (bad : Bool) : Prop where
  ex : ∃ K, WAt w K g bs bad ∧ Gr K0 K w0.heap.size
  fr : Fr K0 w0 w
  un : Under K0 w0.heap.size
section
variable {w0 w w1 w2 : World} {K0 : List Nat} {g : Nat} {bs bs' : List UInt8} {bad bad' : Bool}
theorem WP.start (h : WAt w K0 g bs bad) : WP w K0 w g bs bad := ⟨⟨K0, h, Gr.refl _ _⟩, Fr.refl _ _, h.under⟩
theorem WP.make {t : TypeId} (h : w.heap[g]? = some (.cells #[.slice none 0 0, .bool false] 139 (0, 0))) (ht : t = 139) : WP w [g] w g [] false :=
  WP.start (by have := WAt.make (v := .slice none 0 0) (bs := []) h (Own.nil _ _ _ _); simpa [Value.ownBlock] using this)
theorem WP.below (h : WP w0 K0 w g bs bad) (b : Below w.heap.size w w1) : WP w0 K0 w1 g bs bad := by
  obtain ⟨⟨K, h1, h2⟩, h3, h4⟩ := h
  exact ⟨⟨K, h1.keep (fun k hk => b.block k (h1.under k hk)) b.size, h2⟩, h3.trans (Fr.ofBelow (L := K0) b) (Gr.refl _ _), h4⟩
/-- A box that is newer than the base was written. -/
theorem WP.newbox (h : WP w0 K0 w g bs bad) (b : Below w.heap.size w w1) {x : Nat} (sx : w.heap.size = x) (hx : BoxSt x w1 w2) : WP w0 K0 w2 g bs bad := by
  obtain ⟨⟨K, h1, h2⟩, h3, h4⟩ := h
  have z := b.size
  have z2 := hx.2
  have z3 := h3.size
  refine ⟨⟨K, h1.keep (fun k hk => (hx.1.block k (by have := h1.under k hk; omega) (by rw [List.mem_singleton]; have := h1.under k hk; omega)).trans (b.block k (h1.under k hk))) (by omega), h2⟩, ?_, h4⟩
  exact (h3.trans (Fr.ofBelow (L := K0) b) (Gr.refl _ _)).trans hx.1 (fun k hk => by rw [List.mem_singleton] at hk; exact .inr (by omega))
theorem WP.keep (h : WP w0 K0 w g bs bad) {b : Nat} (hb : b < w0.heap.size) (hn : b ∉ K0) : w.heap[b]? = w0.heap[b]? := h.fr.block b hb hn
theorem WP.old {wb : World} (h : WP w0 K0 w g bs bad) (B : Bs wb w0) (hf : From wb.heap.size K0) : Bs wb w := B.trans (h.fr.below hf B.size)
theorem WP.call (h : WP w0 K0 w g bs bad) {P : Program} {f : FuncId} {av : Array Value} {gs : List Nat} {R : Ending → World → Prop} (hc : ∀ K, WAt w K g bs bad → Gr K0 K w0.heap.size → Calls P f av w (W1 w K g bs' bad')) (hg : ∀ x ∈ gs, x < w0.heap.size ∧ x ∉ K0)
    (k : ∀ w1, WP w0 K0 w1 g bs' bad' → w.heap.size ≤ w1.heap.size → R (.returned (.tuple #[])) w1) : Calls P f av w fun e w1 => KeepG gs w w1 ∧ R e w1 := by
  obtain ⟨⟨K, h1, h2⟩, h3, h4⟩ := h
  refine (hc K h1 h2).mono ?_
  rintro e w1 ⟨rfl, K', h5, f5, g5⟩
  refine ⟨keepG_fr f5 fun x hx hm => ?_, k w1 ⟨⟨K', h5, h2.trans g5 h3.size⟩, h3.trans f5 h2, h4⟩ f5.size⟩
  rcases h2 x hm with h | h
  · exact (hg x hx).2 h
  · have := (hg x hx).1; omega
/-- The same, with boxes that are newer than the base: told of the writer's blocks. -/
theorem WP.out {K : List Nat} (h : WP w K w1 g bs bad) : W1 w K g bs bad (.returned (.tuple #[])) w1 := by
  obtain ⟨⟨K', h1, h2⟩, h3, h4⟩ := h
  exact ⟨rfl, K', h1, h3, h2⟩
/-- A new base. -/
theorem WP.rebase (h : WP w0 K0 w g bs bad) : ∃ K, WP w K w g bs bad ∧ Gr K0 K w0.heap.size := by
  obtain ⟨⟨K, h1, h2⟩, h3, h4⟩ := h
  exact ⟨K, WP.start h1, h2⟩
/-- A new base behind a box that was made and filled. -/
theorem WP.rebox (h : WP w0 K0 w g bs bad) (b : Below w.heap.size w w1) {x : Nat} (sx : w.heap.size = x) (hs : w1.heap.size = x + 1) (hx : BoxSt x w1 w2) :
    ∃ K, WP w2 K w2 g bs bad ∧ Gr K0 K w0.heap.size ∧ x ∉ K ∧ x < w2.heap.size := by
  obtain ⟨⟨K, h1, h2⟩, h3, h4⟩ := h
  have z2 := hx.2
  have z3 := h3.size
  refine ⟨K, WP.start (h1.keep (fun k hk => (hx.1.block k (by have := h1.under k hk; omega) (by rw [List.mem_singleton]; have := h1.under k hk; omega)).trans (b.block k (h1.under k hk))) (by omega)), h2, fun hm => ?_, by omega⟩
  have := h1.under x hm
  omega
theorem WP.join {K : List Nat} (h : WP w0 K0 w g bs bad) (h2 : WP w K w1 g bs' bad') (hg : Gr K0 K w0.heap.size) : WP w0 K0 w1 g bs' bad' := by
  obtain ⟨⟨K', k1, k2⟩, k3, k4⟩ := h2
  exact ⟨⟨K', k1, hg.trans k2 h.fr.size⟩, h.fr.trans k3 hg, h.un⟩
end
/-- Since w0 only the reader's blocks, and new ones, have turned. -/
structure RP (w0 : World) (L : List Nat) (w : World) (g : Nat) (bs : List UInt8) (e : Int) : Prop where
  at' : RdAt w L g bs e
  fr : Fr L w0 w
  un : Under L w0.heap.size
section
variable {w0 w w1 w2 : World} {L : List Nat} {g : Nat} {bs : List UInt8} {e : Int}
theorem RP.start (h : RdAt w L g bs e) : RP w L w g bs e := ⟨h, Fr.refl _ _, h.under⟩
theorem RP.below (h : RP w0 L w g bs e) (b : Below w.heap.size w w1) : RP w0 L w1 g bs e := ⟨h.at'.below b, h.fr.trans (Fr.ofBelow (L := L) b) (Gr.refl _ _), h.un⟩
theorem RP.newbox (h : RP w0 L w g bs e) (b : Below w.heap.size w w1) {x : Nat} (sx : w.heap.size = x) (hx : BoxSt x w1 w2) : RP w0 L w2 g bs e := by
  have z := b.size
  have z3 := h.fr.size
  exact ⟨(h.at'.below b).fr hx.1 (fun k h1 h2 => by rw [List.mem_singleton] at h2; have := h.at'.under k h1; omega), (h.fr.trans (Fr.ofBelow (L := L) b) (Gr.refl _ _)).trans hx.1 (fun k hk => by rw [List.mem_singleton] at hk; exact .inr (by omega)), h.un⟩
theorem RP.box (h : RP w0 L w g bs e) {x : Nat} (hx : BoxSt x w w1) (hn : x ∉ L) (hz : w0.heap.size ≤ x) : RP w0 L w1 g bs e :=
  ⟨h.at'.fr hx.1 (fun k h1 h2 => by rw [List.mem_singleton] at h2; exact hn (h2 ▸ h1)), h.fr.trans hx.1 (fun k hk => by rw [List.mem_singleton] at hk; exact .inr (by omega)), h.un⟩
theorem RP.keep (h : RP w0 L w g bs e) {b : Nat} (hb : b < w0.heap.size) (hn : b ∉ L) : w.heap[b]? = w0.heap[b]? := h.fr.block b hb hn
theorem RP.old {wb : World} (h : RP w0 L w g bs e) (B : Bs wb w0) (hf : From wb.heap.size L) : Bs wb w := B.trans (h.fr.below hf B.size)
theorem RP.uint (h : RP w0 L w g bs e) {gs : List Nat} {R : Ending → World → Prop} (most : Int) (hm : most ≤ 9223372036854775807) (hm2 : 0 ≤ most) (hl : bs.length ≤ 100000000) (hg : ∀ x ∈ gs, x ∉ L)
    (k : ∀ w1, RP w0 L w1 g (rdUint most bs e).2.1 (rdUint most bs e).2.2 → Fr L w w1 → w.heap.size ≤ w1.heap.size → R (.returned (.int .i64 (rdUint most bs e).1)) w1) :
    Calls Try.prog 101 #[.pointer (some ⟨g, 0, none⟩), .int .i64 most] w fun r w1 => KeepG gs w w1 ∧ R r w1 :=
  (rUint_any g most hm (by omega) bs e L w h.at' hl).mono (by
    rintro r w1 ⟨rfl, h1, f1, _⟩
    exact ⟨keepG_fr f1 hg, k w1 ⟨h1, h.fr.trans f1 (Gr.refl _ _), h.un⟩ f1 f1.size⟩)
end
end Go.Proofs.Ytpfmadinijofeaa
end
section
/- The program's log: numbers, labels, whole sectors, a group's bytes; walked. -/
namespace Go.Proofs.Ytpfmadinijofeaa
open Go.RowKit
theorem fnum_on {w0 w : World} (B : Bs w0 w) {n1 c : Nat} {a : Option Addr} {xs : List UInt8} (o : Own w n1 5 1 (.slice a xs.length c) xs.length (xs.map bV)) (h1 : w0.heap.size ≤ n1) (h2 : n1 ≤ w.heap.size) (hl : xs.length ≤ 1000000) (n k : Nat) (hk : k ≤ 8) :
    Calls Try.prog 82 #[.slice a xs.length c, .int .u64 (n : Int), .int .i64 (k : Int)] w fun e w' => NewB w0 n1 (xs ++ beB n k) e w' ∧ w.heap.size ≤ w'.heap.size := by
  refine (GFr.number_calls a xs.length c n k w (fun v w' => ∃ a c, v = .slice a (xs ++ beB n k).length c ∧ Own w' n1 5 1 (.slice a (xs ++ beB n k).length c) (xs ++ beB n k).length ((xs ++ beB n k).map bV) ∧ Bs w0 w' ∧ w.heap.size ≤ w'.heap.size) ?_).mono (by rintro e w' ⟨v, rfl, a, c, rfl, h1, h2, h3⟩; exact ⟨⟨a, c, rfl, h1, h2⟩, h3⟩)
  unfold GFr.number_vc
  refine ⟨fun a2 m c2 x w2 => ∃ j : Nat, j ≤ k ∧ x = (k : Int) - 1 - j ∧ m = (xs ++ beJ n k j).length ∧ Own w2 n1 5 1 (.slice a2 m c2) m ((xs ++ beJ n k j).map bV) ∧ Bs w0 w2 ∧ w.heap.size ≤ w2.heap.size, fun _ _ _ x _ => (x + 1).toNat, ⟨0, by omega, by rw [wr64 (by omega) (by omega)]; omega, by simp [beJ], by simpa [beJ] using o, B, Nat.le_refl _⟩, ?_⟩
  rintro a2 m c2 x w2 ⟨j, hj, rfl, rfl, o2, B2, z2⟩
  refine br_dec (fun h => ?_) fun h => ?_
  · have hl2 : (xs ++ beJ n k j).length = xs.length + j := by rw [List.length_append, beJ_len]
    obtain ⟨x, hx⟩ : ∃ x : Nat, (k : Int) - 1 - j = (x : Int) := ⟨k - 1 - j, by omega⟩
    rw [hx]
    refine ⟨by rw [wr64 (by omega) (by omega)]; omega, appU B2 o2 h1 (Nat.le_trans h2 z2) (by omega) (b := UInt8.ofNat (n / 2 ^ (8 * x) % 256)) (by rw [numByte n x (by omega)]; rfl) (fun g hg => by cases hg) fun a' c' w3 o3 B3 z3 => ⟨⟨j + 1, by omega, by rw [wr64 (by omega) (by omega)]; omega, ?_, ?_, B3, Nat.le_trans z2 z3⟩, by dsimp only; rw [wr64 (by omega) (by omega)]; omega⟩⟩
    · simp only [List.length_append, beJ_succ, List.length_singleton]; omega
    · rw [beJ_succ, show k - 1 - j = x by omega, ← List.append_assoc]
      exact o3
  · obtain rfl : j = k := by omega
    exact ⟨a2, c2, rfl, o2, B2, z2⟩

theorem row_lt {w : World} {a : Option Addr} {vs : List Value} (h : RowAt w a vs) (hne : vs ≠ []) : ∀ q, a = some q → q.block < w.heap.size := fun q hq => by
  rcases h with h | ⟨b, off, rfl, hc⟩
  · exact absurd h hne
  · injection hq with hq
    subst hq
    cases vs with
    | nil => exact absurd rfl hne
    | cons v r =>
      have h0 := hc 0 v rfl
      rcases Nat.lt_or_ge b w.heap.size with h' | h'
      · exact h'
      · simp [World.cell?, Array.getElem?_eq_none h'] at h0
theorem row_in {w wx : World} {a : Option Addr} {bs : List UInt8} (h : RowAt w a (bs.map bV)) (B : Bs w wx) : ∃ M, In wx M a bs ∧ ∀ k ∈ M, k < w.heap.size := by
  cases a with
  | none => exact ⟨[], ⟨h.bs B, fun _ h => (by cases h)⟩, fun k hk => by cases hk⟩
  | some q =>
    by_cases hb : bs = []
    · exact ⟨[], ⟨h.bs B, fun _ _ h => absurd hb h⟩, fun k hk => by cases hk⟩
    · exact ⟨[q.block], ⟨h.bs B, fun ad h _ => by injection h with h; rw [h]; exact List.mem_singleton_self _⟩, fun k hk => by rw [List.mem_singleton] at hk; rw [hk]; exact row_lt h (by simpa using hb) q rfl⟩
theorem fpad_on {w0 w : World} (B : Bs w0 w) {n1 c : Nat} {a : Option Addr} {xs : List UInt8} (o : Own w n1 5 1 (.slice a xs.length c) xs.length (xs.map bV)) (h1 : w0.heap.size ≤ n1) (h2 : n1 ≤ w.heap.size) (hl : xs.length ≤ 10000000) :
    Calls Try.prog 64 #[.slice a xs.length c] w fun e w' => NewB w0 n1 (bodyB xs) e w' ∧ w.heap.size ≤ w'.heap.size := by
  refine (GFr.pad_calls a xs.length c w (fun v w' => ∃ a c, v = .slice a (bodyB xs).length c ∧ Own w' n1 5 1 (.slice a (bodyB xs).length c) (bodyB xs).length ((bodyB xs).map bV) ∧ Bs w0 w' ∧ w.heap.size ≤ w'.heap.size) ?_).mono (by rintro e w' ⟨v, rfl, a, c, rfl, h1, h2, h3⟩; exact ⟨⟨a, c, rfl, h1, h2⟩, h3⟩)
  unfold GFr.pad_vc
  refine ⟨fun a3 m c3 wx => ∃ j : Nat, j ≤ (64 - xs.length % 64) % 64 ∧ m = (xs ++ zerosB j).length ∧ Own wx n1 5 1 (.slice a3 m c3) m ((xs ++ zerosB j).map bV) ∧ Bs w0 wx ∧ w.heap.size ≤ wx.heap.size, fun _ m _ _ => xs.length + 64 - m, ⟨0, Nat.zero_le _, by simp [zerosB], by simpa [zerosB] using o, B, Nat.le_refl _⟩, ?_⟩
  rintro a3 m c3 wx ⟨j, hj, rfl, ox, Bx, zx⟩
  have hl2 : (xs ++ zerosB j).length = xs.length + j := by rw [List.length_append, zerosB_len]
  refine ⟨by decide, ?_⟩
  rw [tmod64]
  refine br_dec (fun h => ?_) fun h => ?_
  · refine appU Bx ox h1 (Nat.le_trans h2 zx) (by omega) (b := 0) rfl (fun q hq => by cases hq) fun a4 c4 w4 o4 B4 z4 => ⟨⟨j + 1, by omega, ?_, ?_, B4, Nat.le_trans zx z4⟩, by dsimp only; omega⟩
    · rw [List.length_append, List.length_append, zerosB_len, zerosB_len]; omega
    · rw [zerosB_succ, ← List.append_assoc]; exact o4
  · obtain rfl : j = (64 - xs.length % 64) % 64 := by omega
    exact ⟨a3, c3, rfl, ox, Bx, zx⟩
theorem fsec_ret (n : Nat) (hn : n ≤ 1000000000) (w : World) : Calls Try.prog 61 #[.int .i64 (n : Int)] w (Ret (.int .i64 (secN n : Nat)) w) := by
  refine ret_in (GFr.sectors_calls n w (fun u w' => u = .int .i64 (secN n : Nat) ∧ Below w.heap.size w w') ?_)
  unfold GFr.sectors_vc secN
  refine br_dec (fun h => ⟨by rw [if_pos (by omega)]; rfl, Bs.refl _⟩) fun h => ⟨by decide, ?_, Bs.refl _⟩
  rw [if_neg (by omega), wr64 (z := (n : Int) - 39) (by omega) (by omega), wr64 (z := (n : Int) - 39 + 63) (by omega) (by omega), wr64 (z := (n : Int) - 39 + 63 - 1) (by omega) (by omega)]
  rw [Int.tdiv_eq_ediv_of_nonneg (by omega), wr64 (z := ((n : Int) - 39 + 63 - 1) / 63) (by omega) (by omega), wr64 (by omega) (by omega)]
  congr 1
  omega
theorem label_new (gen n : Nat) (hg : gen < 9223372036854775808) (hn : n < 9223372036854775808) {a : Option Addr} {c : Nat} {b : List UInt8} (w : World) (hr : RowAt w a (b.map bV)) (hl : b.length ≤ 10000000) (hc : b.length ≤ c) :
    Calls Try.prog 63 #[.int .i64 (gen : Int), .int .i64 (n : Int), .slice a b.length c] w (NewB w w.heap.size (labelB gen n b)) := by
  refine (GFr.label_calls gen n a b.length c w (fun v w' => ∃ a c, v = .slice a (labelB gen n b).length c ∧ Own w' w.heap.size 5 1 (.slice a (labelB gen n b).length c) (labelB gen n b).length ((labelB gen n b).map bV) ∧ Bs w w') ?_).mono (by rintro e w' ⟨v, rfl, a, c, rfl, h⟩; exact ⟨a, c, rfl, h⟩)
  unfold GFr.label_vc
  rw [wru64 (by omega) (by omega), wru64 (by omega) (by omega), wru64 (by omega) (by omega)]
  refine (fnum_on (Bs.refl w) (xs := []) (Own.nil w w.heap.size 5 1) (Nat.le_refl _) (Nat.le_refl _) (by simp) gen 8 (by omega)).mono ?_
  rintro e w2 ⟨⟨a2, c2, rfl, o2, B2⟩, z2⟩
  rw [List.nil_append] at o2 ⊢
  refine ⟨keepG_nil _ _, a2, _, c2, rfl, (fnum_on B2 o2 (Nat.le_refl _) z2 (by rw [beB_len]; omega) n 8 (by omega)).mono ?_⟩
  rintro e w3 ⟨⟨a3, c3, rfl, o3, B3⟩, z3⟩
  refine ⟨keepG_nil _ _, a3, _, c3, rfl, (fnum_on B3 o3 (Nat.le_refl _) B3.size (by rw [List.length_append, beB_len, beB_len]; omega) b.length 4 (by omega)).mono ?_⟩
  rintro e w4 ⟨⟨a4, c4, he, o4, B4⟩, z4⟩
  rw [show beB gen 8 ++ beB n 8 ++ beB b.length 4 = labH gen n b.length from rfl] at he o4
  subst he
  have hpl := labH_len gen n b.length
  refine ⟨keepG_nil _ _, a4, _, c4, rfl, newB B4 fun g w5 g0 sg n5 z5 b5 B5 => ?_⟩
  have o5 := o4.below b5 (Nat.le_refl _)
  have hp : PartsAt w5 (some ⟨g, 0, none⟩) [labH gen n b.length, b] := by
    refine ⟨[(a4, c4), (a, c)], RowAt.ofWhole n5, rfl, fun v p hm => ?_⟩
    simp at hm
    rcases hm with ⟨rfl, rfl⟩ | ⟨rfl, rfl⟩
    · exact ⟨o5.row, o5.cap.1, by unfold maxLen; omega⟩
    · exact ⟨hr.below B5 (Nat.le_refl _), hc, by unfold maxLen; omega⟩
  refine (csum_any (some ⟨g, 0, none⟩) 2 [labH gen n b.length, b] w5 (by show 2 ≤ maxLen; decide) hp).mono ?_
  rintro e w6 ⟨rfl, b6⟩
  have B6 := B5.to b6
  have o6 := o5.below b6 (Nat.le_refl _)
  have hcr : crcP 0 [labH gen n b.length, b] = more 0 (labH gen n b.length ++ b) := by
    rw [crcP_join]
    simp
  have hlt : more 0 (labH gen n b.length ++ b) < 4294967296 := more_lt _ (by omega)
  rw [hcr]
  refine ⟨keepG_nil _ _, _, rfl, ?_⟩
  rw [show IntKind.u64.wrap ((more 0 (labH gen n b.length ++ b) : Nat) : Int) = ((more 0 (labH gen n b.length ++ b) : Nat) : Int) from wru64 (by omega) (by omega)]
  refine (fnum_on B6 o6 (Nat.le_refl _) B6.size (by omega) (more 0 (labH gen n b.length ++ b)) 4 (by omega)).mono ?_
  rintro e w7 ⟨⟨a7, c7, he, o7, B7⟩, z7⟩
  rw [show labH gen n b.length ++ beB (more 0 (labH gen n b.length ++ b)) 4 = labelB gen n b from rfl] at he o7
  subst he
  exact ⟨keepG_nil _ _, a7, _, c7, rfl, a7, c7, rfl, o7, B7⟩
def recs (xs : List Im) : Grp := xs.map (·.bs)
theorem grpB_take (g : Grp) {k : Nat} (hk : k < g.length) : grpB (g.take (k + 1)) = grpB (g.take k) ++ textB g[k] := by
  unfold grpB
  rw [List.take_add_one, List.getElem?_eq_getElem hk, List.flatMap_append]
  simp
theorem grpB_le (g : Grp) (k : Nat) : (grpB (g.take k)).length ≤ (grpB g).length := by
  have e : grpB g = grpB (g.take k) ++ grpB (g.drop k) := by
    unfold grpB
    rw [← List.flatMap_append, List.take_append_drop]
  rw [e, List.length_append]
  omega
theorem fbody_new {a : Option Addr} {c : Nat} {xs : List Im} (w : World) (hx : Ims w a xs) (hn : xs.length ≤ 1000000) (hl : (grpB (recs xs)).length ≤ 1000000) (hl2 : ∀ x, x ∈ xs → x.bs.length ≤ 1000000) :
    Calls Try.prog 60 #[.slice a xs.length c] w (NewB w w.heap.size (grpB (recs xs))) := by
  refine (GFr.body_calls a xs.length c w (fun v w' => ∃ a c, v = .slice a (grpB (recs xs)).length c ∧ Own w' w.heap.size 5 1 (.slice a (grpB (recs xs)).length c) (grpB (recs xs)).length ((grpB (recs xs)).map bV) ∧ Bs w w') ?_).mono (by rintro e w' ⟨v, rfl, a, c, rfl, h⟩; exact ⟨a, c, rfl, h⟩)
  unfold GFr.body_vc
  have hgl : (recs xs).length = xs.length := by simp [recs]
  refine newB (Bs.refl w) fun g w2 g0 sg n2 z2 b2 B2 => ?_
  have hw := WP.make (w := w2) (g := g) n2 rfl
  have hf : From w.heap.size [g] := fun k hk => by rw [List.mem_singleton] at hk; omega
  refine ⟨fun x wx => ∃ k : Nat, x = k ∧ k ≤ xs.length ∧ WP w2 [g] wx g (grpB ((recs xs).take k)) false, fun x _ => (xs.length - x).toNat, ⟨0, rfl, Nat.zero_le _, by simpa [grpB] using hw⟩, ?_⟩
  rintro x wx ⟨k, rfl, hk, hwx⟩
  have Bx := hwx.old B2 hf
  refine br_dec (fun hlt => ?_) fun hge => ?_
  · have hk' : k < xs.length := by omega
    obtain ⟨b, off, ha, hi⟩ := ims_get hx k hk' Bx
    refine withP_mk b off ha ⟨by omega, by omega, _, _, _, by rw [Int.toNat_natCast]; exact cellsAt_get hi.cell 0 _ rfl, ?_⟩
    obtain ⟨b', off', _, hi'⟩ := ims_get hx k hk' (Bs.refl w)
    obtain ⟨M, hM, hMl⟩ := row_in hi'.row Bx
    have hk1 : IntKind.i64.wrap ((k : Int) + 1) = ((k + 1 : Nat) : Int) := by rw [wr64 (by omega) (by omega)]; omega
    refine hwx.call (bs' := grpB ((recs xs).take (k + 1))) (bad' := false) (fun K hK hg => ?_) (fun x hx => by cases hx) fun w1 hw1 z1 => ⟨rfl, ⟨k + 1, hk1, by omega, hw1⟩, by dsimp only; rw [hk1]; omega⟩
    have hgk : (recs xs)[k]'(by omega) = xs[k].bs := by simp [recs]
    rw [grpB_take (recs xs) (by omega), hgk]
    refine wText_any g xs[k].a xs[k].c xs[k].bs M _ false K wx hK hM (fun q hq => by have := hMl q hq; have := Bx.size; omega) (fun q hq hq2 => ?_) (by have := grpB_le (recs xs) k; omega) (by have := hl2 xs[k] (List.getElem_mem hk'); omega)
    have h1 := hMl q hq
    rcases hg q hq2 with h | h
    · rw [List.mem_singleton] at h; omega
    · omega
  · obtain rfl : k = xs.length := by omega
    rw [List.take_of_length_le (by omega)] at hwx
    obtain ⟨⟨K, h1, h2⟩, h3, h4⟩ := hwx
    refine (wBytes_any g _ false K wx h1 (by omega)).mono ?_
    rintro e w3 ⟨v, rfl, o3, b3⟩
    obtain ⟨a3, c3, rfl⟩ := o3.isSlice
    exact ⟨keepG_nil _ _, a3, _, c3, _, rfl, a3, c3, rfl, o3.base_le fun q hq => Nat.le_trans Bx.size (o3.lt q hq).1, Bx.to b3⟩
end Go.Proofs.Ytpfmadinijofeaa
end
section
/- The program's log: rows of texts of one's own, records; walked. -/
namespace Go.Proofs.Ytpfmadinijofeaa
open Go.RowKit
theorem Own.blk {w : World} {b n size : Nat} {e : TypeId} {v : Value} {xs : List Value} (h : Own w b e size v n xs) {q : Nat} (hq : v.ownBlock = some q) : ∃ cur, w.heap[q]? = some (.cells cur e (0, 0)) := by
  rcases h.2 with ⟨rfl, _⟩ | ⟨g, off, cap, cur, rfl, _, hg, _⟩
  · cases hq
  · injection hq with hq; subst hq; exact ⟨cur, hg⟩
theorem own_kinds {w : World} {b1 b2 n1 n2 s1 s2 : Nat} {e1 e2 : TypeId} {v1 v2 : Value} {xs ys : List Value} (h1 : Own w b1 e1 s1 v1 n1 xs) (h2 : Own w b2 e2 s2 v2 n2 ys) (hne : e1 ≠ e2) {q : Nat} (hq : v1.ownBlock = some q) : v2.ownBlock ≠ some q := fun hq2 => by
  obtain ⟨c1, k1⟩ := h1.blk hq
  obtain ⟨c2, k2⟩ := h2.blk hq2
  rw [k1] at k2
  injection k2 with k2
  injection k2 with _ k2
  exact hne k2
theorem Own.capC {w : World} {b n size c : Nat} {e : TypeId} {a : Option Addr} {xs : List Value} (h : Own w b e size (.slice a n c) n xs) : c ≤ maxLen := by
  rcases h.2 with ⟨hv, _⟩ | ⟨g, off, cap, cur, hv, _, _, _, hm, _⟩
  · injection hv with _ _ hv; rw [hv]; exact Nat.zero_le _
  · injection hv with _ _ hv; rw [hv]; exact hm
def slV (x : Im) : Value := .slice x.a x.bs.length x.c
/-- A row of texts, all in blocks of their own from n1 on. -/
structure OwnR (w : World) (n1 : Nat) (a : Option Addr) (c : Nat) (xs : List Im) : Prop where
  own : Own w n1 22 1 (.slice a xs.length c) xs.length (xs.map slV)
  rows : ∀ x, x ∈ xs → Own w n1 5 1 (.slice x.a x.bs.length x.c) x.bs.length (x.bs.map bV)
section
variable {w w' : World} {n1 c : Nat} {a : Option Addr} {xs : List Im}
theorem OwnR.nil (w : World) (n1 : Nat) : OwnR w n1 none 0 [] := ⟨Own.nil _ _ _ _, fun x hx => by cases hx⟩
theorem OwnR.keep (h : OwnR w n1 a c xs) (hk : ∀ k, n1 ≤ k → k < w.heap.size → w'.heap[k]? = w.heap[k]?) : OwnR w' n1 a c xs :=
  ⟨h.own.keep fun k hv => hk k (h.own.lt k hv).1 (h.own.lt k hv).2, fun x hx => (h.rows x hx).keep fun k hv => hk k ((h.rows x hx).lt k hv).1 ((h.rows x hx).lt k hv).2⟩
theorem OwnR.below (h : OwnR w n1 a c xs) (hb : Below w.heap.size w w') : OwnR w' n1 a c xs := h.keep fun k _ h2 => hb.block k h2
theorem OwnR.base (h : OwnR w n1 a c xs) {n0 : Nat} (hn : n0 ≤ n1) : OwnR w n0 a c xs := ⟨h.own.base_le fun k hk => Nat.le_trans hn (h.own.lt k hk).1, fun x hx => (h.rows x hx).base_le fun k hk => Nat.le_trans hn ((h.rows x hx).lt k hk).1⟩
theorem OwnR.ims (h : OwnR w n1 a c xs) : Ims w a xs := by
  by_cases he : xs = []
  · exact .inl he
  · have hl : 0 < xs.length := List.length_pos_iff.2 he
    have hown := h.own
    rcases hown.2 with ⟨h0, h1⟩ | ⟨g, off, cap, cur, hv, _⟩
    · omega
    · injection hv with h1 h2 h3
      subst h1
      refine .inr ⟨g, off, rfl, fun i x hx => ⟨cellsAt_of fun j v hj => ?_, (h.rows x (List.mem_of_getElem? hx)).row, (h.rows x (List.mem_of_getElem? hx)).cap.1, (h.rows x (List.mem_of_getElem? hx)).capC⟩⟩
      have hj0 : j = 0 := by
        have := (List.getElem?_eq_some_iff.1 hj).1
        simp at this
        exact this
      subst hj0
      simp at hj
      subst hj
      have := h.own.cells g off c rfl i (slV x) (by rw [List.getElem?_map, hx]; rfl)
      rw [Nat.add_zero, Nat.mul_one]
      exact this
/-- One text more. -/
theorem appR {w0 : World} {gs : List Nat} {x : Im} {v : Value} {K : Nat → Option Addr → Nat → World → Prop} (B : Bs w0 w) (h : OwnR w n1 a c xs) (hx : Own w n1 5 1 (.slice x.a x.bs.length x.c) x.bs.length (x.bs.map bV)) (h1 : w0.heap.size ≤ n1) (h2 : n1 ≤ w.heap.size) (hl : xs.length ≤ 1000000000) (hv : v = slV x) (hg : ∀ g ∈ gs, g < n1)
    (k : ∀ a' c' w2, OwnR w2 n1 a' c' (xs ++ [x]) → Bs w0 w2 → w.heap.size ≤ w2.heap.size → (∀ q, q < w.heap.size → (Value.slice a xs.length c).ownBlock ≠ some q → w2.heap[q]? = w.heap[q]?) → K 1 a' c' w2) :
    newO w (.cells #[v] 22) fun g w1 => appO Try.prog gs w1 22 1 24 44 a xs.length c (.slice (some ⟨g, 0, none⟩) 1 1) K := by
  subst hv
  refine newB B fun g w1 g0 sg n1' z1 b1 B1 => appB B1 (h.own.below b1 (Nat.le_refl _)) h1 (Nat.le_trans h2 b1.size) (src_block (cs := [slV x]) Try.underlying44 n1' rfl rfl) (by unfold maxLen; omega) (by omega) (fun g hg' e => by have := (h.own.lt g e).1; have := hg g hg'; omega) fun a' c' w2 o2 g2 B2 z2 => ?_
  have hne : ∀ (y : Im), (Own w n1 5 1 (.slice y.a y.bs.length y.c) y.bs.length (y.bs.map bV)) → Own w2 n1 5 1 (.slice y.a y.bs.length y.c) y.bs.length (y.bs.map bV) := fun y hy => by
    refine (hy.below b1 (Nat.le_refl _)).keep fun q hq => g2.block q (Nat.lt_of_lt_of_le (hy.lt q hq).2 b1.size) fun e => ?_
    exact own_kinds h.own hy (by decide) e.symm hq
  refine k a' c' w2 ⟨?_, fun y hy => ?_⟩ B2 (Nat.le_trans b1.size z2) fun q hq hq2 => (g2.block q (Nat.lt_of_lt_of_le hq b1.size) fun e => hq2 e.symm).trans (b1.block q hq)
  · rw [List.map_append, List.length_append]
    exact o2
  · rcases List.mem_append.1 hy with hy | hy
    · exact hne y (h.rows y hy)
    · rw [List.mem_singleton] at hy; subst hy; exact hne y hx
end
end Go.Proofs.Ytpfmadinijofeaa
end
section
/- The program's log: what it holds, records, reading sectors, a head's count; walked. -/
namespace Go.Proofs.Ytpfmadinijofeaa
open Go.RowKit
theorem grpB_drop (g : Grp) {k : Nat} (hk : k < g.length) : grpB (g.drop k) = textB g[k] ++ grpB (g.drop (k + 1)) := by
  unfold grpB
  rw [List.drop_eq_getElem_cons hk]
  rfl
theorem textB_gt (t : List UInt8) : t.length < (textB t).length := by
  unfold textB
  rw [List.length_append]
  have := grp_pos t.length
  omega
theorem grpB_one (g : Grp) {k : Nat} (hk : k < g.length) : g[k].length < (grpB g).length ∧ grpB (g.drop k) ≠ [] := by
  have e : grpB g = grpB (g.take k) ++ grpB (g.drop k) := by
    unfold grpB
    rw [← List.flatMap_append, List.take_append_drop]
  have h1 := textB_gt g[k]
  have h2 := grpB_drop g hk
  refine ⟨?_, fun e0 => ?_⟩
  · rw [e, h2, List.length_append, List.length_append]; omega
  · rw [e0] at h2
    have := congrArg List.length h2
    rw [List.length_append, List.length_nil] at this
    omega
theorem grpB_count (g : Grp) : g.length ≤ (grpB g).length := by
  induction g with
  | nil => exact Nat.zero_le _
  | cons t r ih =>
    have e : grpB (t :: r) = textB t ++ grpB r := rfl
    rw [e, List.length_append, List.length_cons]
    have := textB_gt t
    omega
theorem rleft_ret {w : World} {L : List Nat} {g : Nat} {bs : List UInt8} {e : Int} (h : RdAt w L g bs e) : Calls Try.prog 90 #[.pointer (some ⟨g, 0, none⟩)] w (Ret (.int .i64 (bs.length : Int)) w) := by
  obtain ⟨⟨a, c, k1, _, _⟩, _, _⟩ := h
  refine ret_in (GFr.rleft_calls (some ⟨g, 0, none⟩) w (fun u w' => u = .int .i64 (bs.length : Int) ∧ Below w.heap.size w w') ?_)
  unfold GFr.rleft_vc
  exact br_f rfl ⟨a, bs.length, c, by rw [k1.cell]; rfl, rfl, Bs.refl w⟩
theorem records_new {a : Option Addr} {c : Nat} {g : Grp} (w : World) (hr : RowAt w a ((grpB g).map bV)) (hl : (grpB g).length ≤ 1000000) :
    Calls Try.prog 79 #[.slice a (grpB g).length c] w fun e w' => ∃ a' c' xs, e = .returned (.tuple #[.slice a' (xs : List Im).length c', .bool true]) ∧ recs xs = g ∧ OwnR w' w.heap.size a' c' xs ∧ Bs w w' := by
  refine (GFr.records_calls a (grpB g).length c w (fun v w' => ∃ a' c' xs, v = .tuple #[.slice a' (xs : List Im).length c', .bool true] ∧ recs xs = g ∧ OwnR w' w.heap.size a' c' xs ∧ Bs w w') ?_).mono (by rintro e w' ⟨v, rfl, a', c', xs, rfl, h⟩; exact ⟨a', c', xs, rfl, h⟩)
  unfold GFr.records_vc
  have hgc := grpB_count g
  refine (cRead_any a c (grpB g) w hr (by omega)).mono ?_
  rintro e w2 ⟨gr, L, rfl, hR, hF, b2⟩
  have hU := hR.under
  refine ⟨keepG_nil _ _, _, rfl, ?_⟩
  refine ⟨fun a5 n5 c5 wx => ∃ (k : Nat) (xs : List Im), k ≤ g.length ∧ n5 = xs.length ∧ recs xs = g.take k ∧ RdAt wx L gr (grpB (g.drop k)) 0 ∧ OwnR wx w2.heap.size a5 c5 xs ∧ Bs w wx ∧ w2.heap.size ≤ wx.heap.size, fun _ n5 _ _ => g.length - n5, ⟨0, [], Nat.zero_le _, rfl, rfl, hR, OwnR.nil _ _, b2, Nat.le_refl _⟩, ?_⟩
  rintro a5 n5 c5 wx ⟨k, xs, hk, rfl, hxs, hRx, hO, Bx, zx⟩
  have hlen : xs.length = k := by
    have := congrArg List.length hxs
    rw [List.length_take] at this
    simp [recs] at this
    omega
  have fin : k = g.length → ∀ wy, Below wx.heap.size wx wy → GFr.records_k1 (fun v w' => ∃ a' c' xs, v = .tuple #[.slice a' (xs : List Im).length c', .bool true] ∧ recs xs = g ∧ OwnR w' w.heap.size a' c' xs ∧ Bs w w') (some ⟨gr, 0, none⟩) a5 xs.length c5 wy := fun e wy by' => by
    subst e
    unfold GFr.records_k1
    rw [List.drop_length] at hRx
    have hRy := hRx.keep (fun q hq => by'.block q (hRx.under q hq)) by'.size
    refine (rEnd_any gr _ 0 L wy hRy (by show 0 ≤ _; omega)).mono ?_
    rintro e w3 ⟨rfl, rfl⟩
    refine ⟨keepG_nil _ _, _, rfl, a5, c5, xs, rfl, by rw [hxs, List.take_length], (hO.below by').base b2.size, Bx.to by'⟩
  refine callB Bx (rleft_ret hRx) fun w3 b3 B3 => ⟨_, rfl, ?_⟩
  by_cases hkg : k = g.length
  · refine br_n (by rw [hkg, List.drop_length]; show ¬ ((0 : Nat) : Int) > 0; omega) (fin hkg w3 b3)
  · obtain ⟨hsz, hne⟩ := grpB_one g (k := k) (by omega)
    have hpos : 0 < (grpB (g.drop k)).length := List.length_pos_iff.2 hne
    have hle : (grpB (g.drop k)).length ≤ (grpB g).length := by
      have e : grpB g = grpB (g.take k) ++ grpB (g.drop k) := by
        unfold grpB
        rw [← List.flatMap_append, List.take_append_drop]
      rw [e, List.length_append]; omega
    refine br_y (by omega) ?_
    have hR3 := hRx.keep (fun q hq => b3.block q (hRx.under q hq)) b3.size
    refine (rEnd_any gr _ 0 L w3 hR3 (by omega)).mono ?_
    rintro e w4 ⟨rfl, rfl⟩
    have e4 : rdEnd (grpB (g.drop k)) 0 = 4 := by unfold rdEnd; rw [if_pos ⟨rfl, hne⟩]
    rw [e4]
    refine ⟨keepG_nil _ _, _, rfl, br_y rfl ?_⟩
    have hck : rdText ((grpB g).length : Int) (grpB (g.drop k)) 0 = (g[k]'(by omega), grpB (g.drop (k + 1)), 0) := by
      rw [grpB_drop g (by omega)]
      exact ck_text (by omega) (by omega) _
    refine (rText_any gr ((grpB g).length : Int) (by omega) (by omega) _ 0 L w4 hR3 (by omega)).mono ?_
    rw [hck]
    rintro e w5 ⟨v, rfl, o5, hR5, f5⟩
    obtain ⟨a6, c6, rfl⟩ := o5.isSlice
    have z4 := b3.size
    have hO5 : OwnR w5 w2.heap.size a5 c5 xs := (hO.below b3).keep fun q h1 h2 => f5.block q h2 fun hm => by have := hU q hm; omega
    have B5 : Bs w w5 := B3.fr f5 hF
    have z5 := f5.size
    refine ⟨keepG_nil _ _, a6, _, c6, rfl, ?_⟩
    refine appR (x := ⟨a6, c6, g[k]'(by omega)⟩) B5 hO5 (o5.base_le fun q hq => by have := (o5.lt q hq).1; omega) b2.size (by omega) (by omega) rfl (fun q hq => by cases hq) fun a7 c7 w7 O7 B7 z7 k7 => ⟨⟨k + 1, xs ++ [⟨a6, c6, g[k]'(by omega)⟩], by omega, by simp, ?_, ?_, O7, B7, by omega⟩, by dsimp only; omega⟩
    · show (xs ++ [_]).map _ = _
      rw [List.map_append, show xs.map (·.bs) = g.take k from hxs, List.take_add_one, List.getElem?_eq_getElem (by omega)]
      rfl
    · exact hR5.keep (fun q hq => k7 q (by have := hU q hq; omega) fun e => by have := (hO5.own.lt q e).1; have := hU q hq; omega) z7
/-! The log. -/
def LgAt (w : World) (gl g : Nat) (L : LG) : Prop := Bk w gl #[.pointer (some ⟨g, 0, none⟩), .int .i64 L.first, .int .i64 L.size, .int .i64 L.gen, .int .i64 L.used, .int .i64 L.groups] 114
structure LWf (S : DS) (L : LG) : Prop where
  top : L.first + L.size ≤ S.n
  used : L.used ≤ L.size
  groups : L.groups ≤ L.used
  gen : L.gen < 9223372036854775808
section
variable {w w1 : World} {gl g gd mb : Nat} {L : LG} {S : DS}
theorem LgAt.below (h : LgAt w gl g L) (b : Below w.heap.size w w1) : LgAt w1 gl g L := Bk.below h b
theorem LgAt.bs (h : LgAt w gl g L) (b : Bs w w1) : LgAt w1 gl g L := Bk.below h b
theorem LgAt.cl (h : LgAt w gl g L) : w.cell? ⟨gl, 0, none⟩ = some (.pointer (some ⟨g, 0, none⟩)) ∧ w.cell? ⟨gl, 0 + 1, none⟩ = some (.int .i64 L.first) ∧ w.cell? ⟨gl, 0 + 2, none⟩ = some (.int .i64 L.size) ∧ w.cell? ⟨gl, 0 + 3, none⟩ = some (.int .i64 L.gen) ∧ w.cell? ⟨gl, 0 + 4, none⟩ = some (.int .i64 L.used) ∧ w.cell? ⟨gl, 0 + 5, none⟩ = some (.int .i64 L.groups) := by
  have h : Bk w gl _ _ := h
  refine ⟨?_, ?_, ?_, ?_, ?_, ?_⟩ <;> rw [h.cell] <;> rfl
theorem fleft_ret (h : LgAt w gl g L) (hW : LWf S L) (hn : S.n ≤ 8192) : Calls Try.prog 28 #[.pointer (some ⟨gl, 0, none⟩)] w (Ret (.int .i64 ((L.size - L.used : Nat) : Int)) w) := by
  refine ret_in (GFr.left_calls (some ⟨gl, 0, none⟩) w (fun u w' => u = .int .i64 ((L.size - L.used : Nat) : Int) ∧ Below w.heap.size w w') ?_)
  unfold GFr.left_vc
  have h1 := hW.top
  have h2 := hW.used
  refine br_f rfl (drewB (Bs.refl w) fun w2 b2 B2 e2 => ⟨_, (h.below b2).cl.2.2.1, _, (h.below b2).cl.2.2.2.2.1, ?_, B2⟩)
  rw [wr64 (by omega) (by omega)]
  congr 1
  omega
theorem fgroups_ret (h : LgAt w gl g L) : Calls Try.prog 27 #[.pointer (some ⟨gl, 0, none⟩)] w (Ret (.int .i64 (L.groups : Int)) w) := by
  refine ret_in (GFr.groups_calls (some ⟨gl, 0, none⟩) w (fun u w' => u = .int .i64 (L.groups : Int) ∧ Below w.heap.size w w') ?_)
  unfold GFr.groups_vc
  exact br_f rfl ⟨_, h.cl.2.2.2.2.2, rfl, Bs.refl w⟩
theorem fgen_ret (h : LgAt w gl g L) : Calls Try.prog 29 #[.pointer (some ⟨gl, 0, none⟩)] w (Ret (.int .i64 (L.gen : Int)) w) := by
  refine ret_in (GFr.gen_calls (some ⟨gl, 0, none⟩) w (fun u w' => u = .int .i64 (L.gen : Int) ∧ Below w.heap.size w w') ?_)
  unfold GFr.gen_vc
  exact br_f rfl ⟨_, h.cl.2.2.2.1, rfl, Bs.refl w⟩
theorem fread_new (h : LgAt w gl g L) (t : DkAt w g gd mb S) (hS : DWf S) (hW : LWf S L) (at' n : Nat) (ha : at' ≤ 8192) : Calls Try.prog 77 #[.pointer (some ⟨gl, 0, none⟩), .int .i64 (at' : Int), .int .i64 (n : Int)] w fun e w' => ∃ a m c, e = .returned (.tuple #[.slice a m c, .int .i64 (mayE S ((L.first + at' : Nat) : Int) n)]) ∧ m = (readL S ((L.first + at' : Nat) : Int) n).length ∧ Own w' w.heap.size 5 1 (.slice a m c) m ((readL S ((L.first + at' : Nat) : Int) n).map bV) ∧ Bs w w' := by
  refine (GFr.fread_calls (some ⟨gl, 0, none⟩) at' n w (fun v w' => ∃ a m c, v = .tuple #[.slice a m c, .int .i64 (mayE S ((L.first + at' : Nat) : Int) n)] ∧ m = (readL S ((L.first + at' : Nat) : Int) n).length ∧ Own w' w.heap.size 5 1 (.slice a m c) m ((readL S ((L.first + at' : Nat) : Int) n).map bV) ∧ Bs w w') ?_).mono (by rintro e w' ⟨v, rfl, a, m, c, rfl, h⟩; exact ⟨a, m, c, rfl, h⟩)
  unfold GFr.fread_vc
  have h1 := hW.top
  have h2 := hS.n2
  refine drewB (Bs.refl w) fun w2 b2 B2 e2 => ⟨_, (h.below b2).cl.1, _, (h.below b2).cl.2.1, ?_⟩
  rw [wr64 (by omega) (by omega), show (L.first : Int) + at' = ((L.first + at' : Nat) : Int) by omega]
  refine (dread_new (t.below b2) hS _ _).mono ?_
  rintro e w3 ⟨a, m, c, rfl, hm, o3, b3⟩
  exact ⟨keepG_nil _ _, a, m, c, _, rfl, a, m, c, rfl, hm, o3.base_le fun q hq => Nat.le_trans B2.size (o3.lt q hq).1, B2.to b3⟩
end
end Go.Proofs.Ytpfmadinijofeaa
end
section
/- The program's log: a head's count; walked. -/
namespace Go.Proofs.Ytpfmadinijofeaa
open Go.RowKit
/-- What 'count' tells. -/
structure CntV (L : LG) (bs : List UInt8) (V : Value) : Prop where
  no : bs.take 17 ≠ headP L.gen L.groups → V = .tuple #[.int .i64 0, .bool false]
  yes : bs.take 17 = headP L.gen L.groups → ∃ b, bs = headF L.gen L.groups b ∧ b.length ≤ 10000000 ∧ V = .tuple #[.int .i64 (b.length : Int), .bool (decide (secN b.length ≤ L.size - L.used))]
theorem appUf {w0 w : World} {n1 n c : Nat} {a : Option Addr} {xs : List UInt8} {b : UInt8} {v : Value} {K : Nat → Option Addr → Nat → World → Prop} (B : Bs w0 w) (o : Own w n1 5 1 (.slice a n c) n (xs.map bV)) (h1 : w0.heap.size ≤ n1) (h2 : n1 ≤ w.heap.size) (hl : n ≤ 1000000000) (hv : v = bV b)
    (k : ∀ a' c' w2, Own w2 n1 5 1 (.slice a' (n + 1) c') (n + 1) ((xs ++ [b]).map bV) → Bs w0 w2 → w.heap.size ≤ w2.heap.size → (∀ q, q < w.heap.size → (Value.slice a n c).ownBlock ≠ some q → w2.heap[q]? = w.heap[q]?) → ((Value.slice a' (n + 1) c').ownBlock = (Value.slice a n c).ownBlock ∨ ∃ g, (Value.slice a' (n + 1) c').ownBlock = some g ∧ w.heap.size ≤ g) → K 1 a' c' w2) :
    newO w (.cells #[v] 5) fun g w1 => appO Try.prog [] w1 5 1 1 22 a n c (.slice (some ⟨g, 0, none⟩) 1 1) K := by
  subst hv
  refine newB B fun g w1 g0 sg n1' z1 b1 B1 => ?_
  have o1 := o.below b1 (Nat.le_refl _)
  refine ⟨1, xs.map bV, [bV b], o1.base_le fun _ _ => Nat.zero_le _, src_block (cs := [bV b]) Try.underlying22 n1' rfl rfl, by unfold maxLen; omega, by omega, fun g hg => (by cases hg), fun a' c' w2 o2 g2 or2 _ => ?_⟩
  have z2 := g2.size
  have hn1 : n1 ≤ w1.heap.size := Nat.le_trans h2 b1.size
  refine k a' c' w2 ?_ ⟨g2.os.trans B1.os, g2.tape.trans B1.tape, g2.output.trans B1.output, Nat.le_trans B1.size z2, fun q hq => (g2.block q (by have := B1.size; omega) fun e => by have := (o1.lt q e.symm).1; omega).trans (B1.block q hq)⟩ (Nat.le_trans b1.size z2) (fun q hq hne => (g2.block q (Nat.lt_of_lt_of_le hq b1.size) fun e => hne e.symm).trans (b1.block q hq)) ?_
  · rw [List.map_append]
    refine o2.base_le fun q hq => ?_
    rcases or2 with h | ⟨g', h, h3⟩
    · exact (o1.lt q (h ▸ hq)).1
    · rw [h] at hq; injection hq with hq; omega
  · rcases or2 with h | ⟨g', h, h3⟩
    · exact .inl h
    · exact .inr ⟨g', h, Nat.le_trans b1.size h3⟩
theorem fnum_fr {w0 w : World} (B : Bs w0 w) {n1 c : Nat} {a : Option Addr} {xs : List UInt8} (o : Own w n1 5 1 (.slice a xs.length c) xs.length (xs.map bV)) (h1 : w0.heap.size ≤ n1) (h2 : n1 ≤ w.heap.size) (hl : xs.length ≤ 1000000) (n k : Nat) (hk : k ≤ 8) :
    Calls Try.prog 82 #[.slice a xs.length c, .int .u64 (n : Int), .int .i64 (k : Int)] w fun e w' => NewB w0 n1 (xs ++ beB n k) e w' ∧ w.heap.size ≤ w'.heap.size ∧ ∀ q, q < w.heap.size → (Value.slice a xs.length c).ownBlock ≠ some q → w'.heap[q]? = w.heap[q]? := by
  refine (GFr.number_calls a xs.length c n k w (fun v w' => ∃ a2 c2, v = .slice a2 (xs ++ beB n k).length c2 ∧ Own w' n1 5 1 (.slice a2 (xs ++ beB n k).length c2) (xs ++ beB n k).length ((xs ++ beB n k).map bV) ∧ Bs w0 w' ∧ w.heap.size ≤ w'.heap.size ∧ ∀ q, q < w.heap.size → (Value.slice a xs.length c).ownBlock ≠ some q → w'.heap[q]? = w.heap[q]?) ?_).mono (by rintro e w' ⟨v, rfl, a2, c2, rfl, h1, h2, h3⟩; exact ⟨⟨a2, c2, rfl, h1, h2⟩, h3⟩)
  unfold GFr.number_vc
  refine ⟨fun a2 m c2 x w2 => ∃ j : Nat, j ≤ k ∧ x = (k : Int) - 1 - j ∧ m = (xs ++ beJ n k j).length ∧ Own w2 n1 5 1 (.slice a2 m c2) m ((xs ++ beJ n k j).map bV) ∧ Bs w0 w2 ∧ w.heap.size ≤ w2.heap.size ∧ (∀ q, q < w.heap.size → (Value.slice a xs.length c).ownBlock ≠ some q → w2.heap[q]? = w.heap[q]?) ∧ ((Value.slice a2 m c2).ownBlock = (Value.slice a xs.length c).ownBlock ∨ ∃ g, (Value.slice a2 m c2).ownBlock = some g ∧ w.heap.size ≤ g), fun _ _ _ x _ => (x + 1).toNat, ⟨0, by omega, by rw [wr64 (by omega) (by omega)]; omega, by simp [beJ], by simpa [beJ] using o, B, Nat.le_refl _, fun _ _ _ => rfl, .inl rfl⟩, ?_⟩
  rintro a2 m c2 x w2 ⟨j, hj, rfl, rfl, o2, B2, z2, f2, or2⟩
  refine br_dec (fun h => ?_) fun h => ?_
  · have hl2 : (xs ++ beJ n k j).length = xs.length + j := by rw [List.length_append, beJ_len]
    obtain ⟨x, hx⟩ : ∃ x : Nat, (k : Int) - 1 - j = (x : Int) := ⟨k - 1 - j, by omega⟩
    rw [hx]
    refine ⟨by rw [wr64 (by omega) (by omega)]; omega, appUf B2 o2 h1 (Nat.le_trans h2 z2) (by omega) (b := UInt8.ofNat (n / 2 ^ (8 * x) % 256)) (by rw [numByte n x (by omega)]; rfl) fun a' c' w3 o3 B3 z3 f3 or3 => ⟨⟨j + 1, by omega, by rw [wr64 (by omega) (by omega)]; omega, ?_, ?_, B3, Nat.le_trans z2 z3, fun q hq hne => (f3 q (by omega) fun e => ?_).trans (f2 q hq hne), ?_⟩, by dsimp only; rw [wr64 (by omega) (by omega)]; omega⟩⟩
    · simp only [List.length_append, beJ_succ, List.length_singleton]; omega
    · rw [beJ_succ, show k - 1 - j = x by omega, ← List.append_assoc]
      exact o3
    · rcases or2 with h' | ⟨g', h', h3⟩
      · exact hne (h' ▸ e)
      · rw [h'] at e; injection e with e; omega
    · rcases or3 with h' | ⟨g', h', h3⟩
      · rw [h']; exact or2
      · exact .inr ⟨g', h', by omega⟩
  · obtain rfl : j = k := by omega
    exact ⟨a2, c2, rfl, o2, B2, z2, f2⟩
theorem secN_le (n : Nat) : secN n ≤ n + 1 := by unfold secN; split <;> omega
theorem count_k1_ok {w wx : World} {gl g : Nat} {L : LG} {S : DS} {a a6 : Option Addr} {c : Nat} {bs : List UInt8} {V : Value} (B : Bs w wx) (h : LgAt wx gl g L) (hW : LWf S L) (hS : S.n ≤ 8192) (r : RowAt wx a (bs.map bV)) (hl : bs.length = 64) (hc : 64 ≤ c) (r6 : RowAt wx a6 ((headP L.gen L.groups).map bV)) (hV : CntV L bs V) :
    GFr.count_k1 (fun u w' => u = V ∧ Below w.heap.size w w') (some ⟨gl, 0, none⟩) a c a6 17 wx := by
  unfold GFr.count_k1
  have h17 := headP_len L.gen L.groups
  have t1 := hW.top
  have t2 := hW.used
  have e17 : (((17 : Nat) : Int)).toNat = 17 := rfl
  refine drewB B fun w2 b2 B2 e2 => ⟨by decide, by omega, bs.take 17, by rw [List.length_take]; omega, by rw [List.map_take]; exact (r.bs b2).take 17, headP L.gen L.groups, h17, r6.bs b2, br_dec (fun hne => ?_) fun heq => ?_⟩
  · exact ⟨(hV.no fun e => hne (by rw [e])).symm, B2⟩
  have heq := strOf_inj (Decidable.not_not.1 heq)
  obtain ⟨b, hb, hbl, hv⟩ := hV.yes heq
  have e21 : IntKind.i64.wrap (((17 : Nat) : Int) + 4) = 21 := by decide
  rw [e21, e17]
  have r2 := r.bs b2
  have rb := row_base (c := c) (bs := bs) r2 (by omega) 17
  have hdl : (bs.drop 17).length = 47 := by rw [List.length_drop]; omega
  refine ⟨by decide, by decide, by omega, ?_⟩
  refine ⟨fun x y wy => ∃ k : Nat, k ≤ 4 ∧ y = k ∧ x = foldI 0 ((bs.drop 17).take k) ∧ wy = w2, fun _ y _ => (4 - y).toNat, ⟨0, by omega, rfl, rfl, rfl⟩, ?_⟩
  rintro x y wy ⟨k, hk, rfl, rfl, rfl⟩
  have ek : ((((21 : Int).toNat - 17 : Nat) : Nat) : Int) = 4 := rfl
  rw [ek]
  refine br_dec (fun hlt => ?_) fun hge => ?_
  · obtain ⟨gb, off, ha, hcell⟩ := RowAt.byte (bs := bs.drop 17) rb (k := k) (by omega)
    refine withP_mk gb off ha ⟨by omega, by omega, _, by rw [Int.toNat_natCast, Nat.mul_one]; exact hcell, by decide, ⟨k + 1, by omega, by rw [wr64 (by omega) (by omega)]; omega, ?_, rfl⟩, by dsimp only; rw [wr64 (by omega) (by omega)]; omega⟩
    rw [step_val, List.take_add_one, List.getElem?_eq_getElem (by omega)]
    exact (foldI_snoc _ _ _).symm
  · obtain rfl : k = 4 := by omega
    have hn : foldI 0 ((bs.drop 17).take 4) = (b.length : Int) := by
      rw [hb, headF_num]
      unfold beB
      rw [foldI_be (by omega) (by omega) 4 (by omega)]
      simp
    rw [hn]
    refine drewB B2 fun w3 b3 B3 e3 => ⟨_, ((h.bs b2).bs b3).cl.2.2.1, _, ((h.bs b2).bs b3).cl.2.2.2.2.1, callB B3 (fsec_ret b.length (by omega) w3) fun w4 b4 B4 => ⟨_, rfl, (((h.bs b2).bs b3).bs b4).cl.2.2.1, (((h.bs b2).bs b3).bs b4).cl.2.2.2.2.1, ?_, B4⟩⟩
    rw [hv, wr64 (by omega) (by omega)]
    have e : decide (((secN b.length : Nat) : Int) ≤ (L.size : Int) - L.used) = decide (secN b.length ≤ L.size - L.used) := decide_eq_decide.2 (by omega)
    rw [e]
theorem count_ret {w : World} {gl g : Nat} {L : LG} {S : DS} {a : Option Addr} {c : Nat} {bs : List UInt8} {V : Value} (h : LgAt w gl g L) (hW : LWf S L) (hS : S.n ≤ 8192) (r : RowAt w a (bs.map bV)) (hl : bs.length = 64) (hc : 64 ≤ c) (hV : CntV L bs V) :
    Calls Try.prog 78 #[.pointer (some ⟨gl, 0, none⟩), .slice a bs.length c] w (Ret V w) := by
  refine ret_in (GFr.count_calls (some ⟨gl, 0, none⟩) a bs.length c w (fun u w' => u = V ∧ Below w.heap.size w w') ?_)
  unfold GFr.count_vc
  have t1 := hW.top
  have t2 := hW.used
  have t3 := hW.groups
  have t4 := hW.gen
  have u1 : IntKind.u64.wrap (L.gen : Int) = (L.gen : Int) := wru64 (by omega) (by omega)
  have u2 : IntKind.u64.wrap (L.groups : Int) = (L.groups : Int) := wru64 (by omega) (by omega)
  have e17 : 1 + (beB L.gen 8 ++ beB L.groups 8).length = 17 := by rw [List.length_append, beB_len, beB_len]
  refine drewB (Bs.refl w) fun w2 b2 B2 e2 => ⟨_, (h.bs B2).cl.2.2.2.1, _, (h.bs B2).cl.2.2.2.2.2, ?_⟩
  rw [u1, u2]
  have fin : ∀ {wy wz : World} {gx n1 n2 cx : Nat} {ax : Option Addr}, Bs w wy → Own wy n1 5 1 (.slice (some ⟨gx, 0, none⟩) 1 1) 1 (([1] : List UInt8).map bV) → w.heap.size ≤ n1 → n1 ≤ wy.heap.size → Own wy n2 5 1 (.slice ax (beB L.gen 8 ++ beB L.groups 8).length cx) (beB L.gen 8 ++ beB L.groups 8).length ((beB L.gen 8 ++ beB L.groups 8).map bV) →
      appO Try.prog [] wy 5 1 1 22 (some ⟨gx, 0, none⟩) 1 1 (.slice ax (beB L.gen 8 ++ beB L.groups 8).length cx) fun m a6 c6 w6 => GFr.count_k1 (fun u w' => u = V ∧ Below w.heap.size w w') (some ⟨gl, 0, none⟩) a c a6 (1 + m) w6 := fun {wy wz gx n1 n2 cx ax} By o1 h1 h2 o2 => by
    have hll : (beB L.gen 8 ++ beB L.groups 8).length = 16 := by rw [List.length_append, beB_len, beB_len]
    refine appB By o1 h1 h2 (srcB o2.row) (by unfold maxLen; omega) (by omega) (fun q hq => by cases hq) fun a' c' w6 o6 g6 B6 z6 => ?_
    rw [e17]
    refine count_k1_ok B6 (h.bs B6) hW hS (r.bs B6) hl hc ?_ hV
    have := o6.row
    rw [← List.map_append] at this
    exact this
  refine ⟨?_, ?_⟩
  · refine newB B2 fun g3 w3 g30 sg3 n3 z3 b3 B3 => ⟨((h.bs B3).cl.2.2.2.1), ((h.bs B3).cl.2.2.2.2.2), ?_⟩
    have o3 : Own w3 w.heap.size 5 1 (.slice (some ⟨g3, 0, none⟩) 1 1) 1 (([1] : List UInt8).map bV) := own_lit (bs := [1]) n3 g30 (by unfold maxLen; decide)
    refine (fnum_on (Bs.refl w3) (xs := []) (Own.nil w3 w3.heap.size 5 1) (Nat.le_refl _) (Nat.le_refl _) (by simp) L.gen 8 (by omega)).mono ?_
    rintro e w4 ⟨⟨a4, c4, rfl, o4, B34⟩, z4⟩
    rw [List.nil_append] at o4 ⊢
    refine ⟨keepG_nil _ _, a4, _, c4, rfl, ((h.bs (B3.to B34)).cl.2.2.2.2.2), (fnum_on B34 o4 (Nat.le_refl _) B34.size (by rw [beB_len]; omega) L.groups 8 (by omega)).mono ?_⟩
    rintro e w5 ⟨⟨a5, c5, rfl, o5, B35⟩, z5⟩
    exact ⟨keepG_nil _ _, a5, _, c5, rfl, fin (wz := w5) (B3.to B35) (o3.below B35 (Nat.le_refl _)) (Nat.le_refl _) (B3.to B35).size o5⟩
  · refine (fnum_on (Bs.refl w2) (xs := []) (Own.nil w2 w2.heap.size 5 1) (Nat.le_refl _) (Nat.le_refl _) (by simp) L.gen 8 (by omega)).mono ?_
    rintro e w4 ⟨⟨a4, c4, rfl, o4, B24⟩, z4⟩
    rw [List.nil_append] at o4 ⊢
    have B4 := B2.to B24
    refine ⟨keepG_nil _ _, a4, _, c4, rfl, ((h.bs B4).cl.2.2.2.2.2), ?_, ?_⟩
    · refine newB B4 fun g3 w3 g30 sg3 n3 z3 b3 B3 => ⟨((h.bs B3).cl.2.2.2.2.2), ?_⟩
      have o3 : Own w3 g3 5 1 (.slice (some ⟨g3, 0, none⟩) 1 1) 1 (([1] : List UInt8).map bV) := own_lit (bs := [1]) n3 (Nat.le_refl _) (by unfold maxLen; decide)
      have o4' := o4.below b3 (Nat.le_refl _)
      refine (fnum_fr (w0 := w2) (B24.to b3) o4' (Nat.le_refl _) (B24.to b3).size (by rw [beB_len]; omega) L.groups 8 (by omega)).mono ?_
      rintro e w5 ⟨⟨a5, c5, rfl, o5, B25⟩, z5, f5⟩
      have o3' := o3.keep (w' := w5) fun q hq => f5 q (o3.lt q hq).2 fun e => by have := (o4.lt q e).2; have := (o3.lt q hq).1; omega
      exact ⟨keepG_nil _ _, a5, _, c5, rfl, fin (wz := w5) (B2.to B25) o3' g30 (by have := (o3'.lt g3 rfl).2; omega) o5⟩
    · refine (fnum_on B24 o4 (Nat.le_refl _) B24.size (by rw [beB_len]; omega) L.groups 8 (by omega)).mono ?_
      rintro e w5 ⟨⟨a5, c5, rfl, o5, B25⟩, z5⟩
      have B5 := B2.to B25
      refine ⟨keepG_nil _ _, a5, _, c5, rfl, newB B5 fun g3 w3 g30 sg3 n3 z3 b3 B3 => ?_⟩
      exact fin (wz := w3) B3 (own_lit (bs := [1]) n3 g30 (by unfold maxLen; decide)) (Nat.le_refl _) B3.size (o5.below b3 (Nat.le_refl _))
end Go.Proofs.Ytpfmadinijofeaa
end
section
/- The program's log: the group that stands next; walked. -/
namespace Go.Proofs.Ytpfmadinijofeaa
open Go.RowKit
/-- 'append', told of all else. -/
theorem appF {P : Program} {w0 w : World} {e : TypeId} {size bytes n1 n c m : Nat} {tx : TypeId} {a : Option Addr} {x : Value} {xs news : List Value} {K : Nat → Option Addr → Nat → World → Prop}
    (B : Bs w0 w) (o : Own w n1 e size (.slice a n c) n xs) (hn1 : w0.heap.size ≤ n1) (hn2 : n1 ≤ w.heap.size) (s : Src P size tx x m news w) (h1 : n + m ≤ maxLen) (h2 : (n + m) * bytes ≤ 140737488355328)
    (k : ∀ a' c' w1, Own w1 n1 e size (.slice a' (n + m) c') (n + m) (xs ++ news) → Bs w0 w1 → w.heap.size ≤ w1.heap.size → (∀ q, q < w.heap.size → (Value.slice a n c).ownBlock ≠ some q → w1.heap[q]? = w.heap[q]?) → ((Value.slice a' (n + m) c').ownBlock = (Value.slice a n c).ownBlock ∨ ∃ g, (Value.slice a' (n + m) c').ownBlock = some g ∧ w.heap.size ≤ g) → K m a' c' w1) :
    appO P [] w e size bytes tx a n c x K := by
  refine ⟨m, xs, news, o.base_le fun _ _ => Nat.zero_le _, s, h1, h2, fun g hg => (by cases hg), fun a' c' w1 o1 g1 or1 _ => k a' c' w1 (o1.base_le fun q hq => ?_) ?_ g1.size (fun q hq hne => g1.block q hq fun e => hne e.symm) or1⟩
  · rcases or1 with h | ⟨g, h, h3⟩
    · exact (o.lt q (h ▸ hq)).1
    · rw [h] at hq; injection hq with hq; omega
  · exact ⟨g1.os.trans B.os, g1.tape.trans B.tape, g1.output.trans B.output, Nat.le_trans B.size g1.size, fun q hq => (g1.block q (by have := B.size; omega) fun e => by have := (o.lt q e.symm).1; omega).trans (B.block q hq)⟩
theorem readL_one {S : DS} (hW : DWf S) (ho : S.off = false) {q : Nat} (hq : q < S.n) : mayE S (q : Int) ((1 : Nat) : Int) = 0 ∧ readL S (q : Int) ((1 : Nat) : Int) = nowS S q := by
  have hm : mayE S (q : Int) ((1 : Nat) : Int) = 0 := by unfold mayE; rw [ho, if_neg (by decide), if_pos (by omega)]
  refine ⟨hm, ?_⟩
  unfold readL
  rw [if_pos hm, Int.toNat_natCast]
  show readS S q 1 = _
  rw [← readS_take hW (first := q) (n := 1) (by omega), List.take_of_length_le (by rw [readS_len hW]; omega)]
theorem readL_ok {S : DS} (ho : S.off = false) {q m : Nat} (hq : q + m ≤ S.n) : mayE S (q : Int) (m : Int) = 0 ∧ readL S (q : Int) (m : Int) = readS S q m := by
  have hm : mayE S (q : Int) (m : Int) = 0 := by unfold mayE; rw [ho, if_neg (by decide), if_pos (by omega)]
  refine ⟨hm, ?_⟩
  unfold readL
  rw [if_pos hm, Int.toNat_natCast, Int.toNat_natCast]
theorem base_block {a : Option Addr} {c l : Nat} {q : Addr} (h : sliceBase a c l 1 = some q) : ∃ q', a = some q' ∧ q'.block = q.block := by
  unfold sliceBase at h
  split at h
  · exact ⟨q, h, rfl⟩
  · cases a with
    | none => cases h
    | some q' =>
      injection h with h
      subst h
      refine ⟨q', rfl, ?_⟩
      show q'.block = (q'.add (l * 1)).block
      unfold Addr.add
      split <;> rfl
section
variable {w : World} {gl g gd mb : Nat} {L : LG} {S : DS}
theorem next_end (h : LgAt w gl g L) (he : L.used = L.size) : Calls Try.prog 59 #[.pointer (some ⟨gl, 0, none⟩)] w (Ret (.tuple #[.slice none 0 0, .bool false, .int .i64 0]) w) := by
  refine ret_in (GFr.next_calls (some ⟨gl, 0, none⟩) w (fun u w' => u = .tuple #[.slice none 0 0, .bool false, .int .i64 0] ∧ Below w.heap.size w w') ?_)
  unfold GFr.next_vc
  exact drewB (Bs.refl w) fun w2 b2 B2 e2 => ⟨_, (h.bs B2).cl.2.2.2.2.1, _, (h.bs B2).cl.2.2.1, br_y (by rw [he]) ⟨rfl, B2⟩⟩
theorem next_no (h : LgAt w gl g L) (t : DkAt w g gd mb S) (hS : DWf S) (hW : LWf S L) (ho : S.off = false) (hu : L.used < L.size) (hn : (nowS S (L.first + L.used)).take 17 ≠ headP L.gen L.groups) :
    Calls Try.prog 59 #[.pointer (some ⟨gl, 0, none⟩)] w (Ret (.tuple #[.slice none 0 0, .bool false, .int .i64 0]) w) := by
  refine ret_in (GFr.next_calls (some ⟨gl, 0, none⟩) w (fun u w' => u = .tuple #[.slice none 0 0, .bool false, .int .i64 0] ∧ Below w.heap.size w w') ?_)
  unfold GFr.next_vc
  have t1 := hW.top
  have t2 := hS.n2
  obtain ⟨m1, r1⟩ := readL_one hS ho (q := L.first + L.used) (by omega)
  refine drewB (Bs.refl w) fun w2 b2 B2 e2 => ⟨_, (h.bs B2).cl.2.2.2.2.1, _, (h.bs B2).cl.2.2.1, br_n (by omega) ⟨_, (h.bs B2).cl.2.2.2.2.1, ?_⟩⟩
  refine (fread_new (h.bs B2) (t.bs B2) hS hW L.used 1 (by omega)).mono ?_
  rintro e w3 ⟨a3, m3, c3, rfl, hm3, o3, B23⟩
  rw [r1] at hm3 o3
  subst hm3
  rw [m1]
  have B3 := B2.to B23
  have hl := hS.now (L.first + L.used)
  refine ⟨keepG_nil _ _, a3, _, c3, _, rfl, br_n (by decide) (callB B3 (count_ret (h.bs B3) hW t2 o3.row hl (by have := o3.cap.1; omega) (V := .tuple #[.int .i64 0, .bool false]) ⟨fun _ => rfl, fun e => absurd e hn⟩) fun w4 b4 B4 => ⟨_, _, rfl, br_t rfl ⟨rfl, B4⟩⟩)⟩
theorem there_tail {S : DS} {q gen n : Nat} {gr : Grp} (h : There S q gen n gr) : ∀ m, m ≤ secN (grpB gr).length - 1 → readS S (q + 1) m = (List.range m).flatMap (pieceF ((grpB gr).drop 39))
  | 0, _ => rfl
  | m + 1, hm => by
    rw [readS_succ, there_tail h m (by omega), h.2 m (by omega), List.range_succ, List.flatMap_append]
    simp
theorem flat_drop (f : Nat → List UInt8) (hf : ∀ i, (f i).length = 64) : ∀ (m j : Nat), j < m → (((List.range m).flatMap f).drop (64 * j)).take 64 = f j
  | 0, j, h => by omega
  | m + 1, j, h => by
    have hl : ∀ m, ((List.range m).flatMap f).length = 64 * m := fun m => by
      induction m with
      | zero => rfl
      | succ m ih => rw [List.range_succ, List.flatMap_append, List.length_append, ih]; simp [hf]; omega
    rw [List.range_succ, List.flatMap_append]
    by_cases hj : j < m
    · rw [List.drop_append_of_le_length (by rw [hl]; omega), List.take_append_of_le_length (by rw [List.length_drop, hl]; omega)]
      exact flat_drop f hf m j hj
    · obtain rfl : j = m := by omega
      rw [List.drop_append_of_le_length (by rw [hl]; omega), List.drop_of_length_le (by rw [hl]; omega), List.nil_append]
      simp only [List.flatMap_cons, List.flatMap_nil, List.append_nil]
      exact List.take_of_length_le (by rw [hf]; omega)
theorem join_le (f : Nat → List UInt8) : ∀ j, (joinN f j).length ≤ 64 * j
  | 0 => Nat.le_refl _
  | j + 1 => by
    have := join_le f j
    rw [joinN_succ, List.length_append, List.length_take]
    omega
set_option maxHeartbeats 800000 in
theorem next_yes (h : LgAt w gl g L) (t : DkAt w g gd mb S) (hS : DWf S) (hW : LWf S L) (ho : S.off = false) {gr : Grp} (hb : (grpB gr).length ≤ 1000000) (hu : L.used + secN (grpB gr).length ≤ L.size) (hT : There S (L.first + L.used) L.gen L.groups gr) :
    Calls Try.prog 59 #[.pointer (some ⟨gl, 0, none⟩)] w fun e w' => ∃ a' c' xs, e = .returned (.tuple #[.slice a' (xs : List Im).length c', .bool true, .int .i64 0]) ∧ recs xs = gr ∧ OwnR w' w.heap.size a' c' xs ∧ Bs w w' := by
  refine (GFr.next_calls (some ⟨gl, 0, none⟩) w (fun v w' => ∃ a' c' xs, v = .tuple #[.slice a' (xs : List Im).length c', .bool true, .int .i64 0] ∧ recs xs = gr ∧ OwnR w' w.heap.size a' c' xs ∧ Bs w w') ?_).mono (by rintro e w' ⟨v, rfl, a', c', xs, rfl, h⟩; exact ⟨a', c', xs, rfl, h⟩)
  unfold GFr.next_vc
  have t1 := hW.top
  have t2 := hS.n2
  have t3 := hW.gen
  have t4 := hW.groups
  have sp := secN_pos (grpB gr).length
  obtain ⟨m1, r1⟩ := readL_one hS ho (q := L.first + L.used) (by omega)
  obtain ⟨m2, r2⟩ := readL_ok (S := S) ho (q := L.first + (L.used + 1)) (m := secN (grpB gr).length - 1) (by omega)
  refine drewB (Bs.refl w) fun w2 b2 B2 e2 => ⟨_, (h.bs B2).cl.2.2.2.2.1, _, (h.bs B2).cl.2.2.1, br_n (by omega) ⟨_, (h.bs B2).cl.2.2.2.2.1, ?_⟩⟩
  refine (fread_new (h.bs B2) (t.bs B2) hS hW L.used 1 (by omega)).mono ?_
  rintro e w3 ⟨a3, mm, c3, rfl, hm3, o3, B23⟩
  rw [r1, hT.1] at hm3 o3
  have hhl := headF_len L.gen L.groups (grpB gr)
  subst hm3
  rw [m1]
  have B3 := B2.to B23
  have cap3 := o3.cap.1
  refine ⟨keepG_nil _ _, a3, _, c3, _, rfl, br_n (by decide) ?_⟩
  refine callB B3 (count_ret (h.bs B3) hW t2 o3.row hhl (by omega) (V := .tuple #[.int .i64 ((grpB gr).length : Int), .bool (decide (secN (grpB gr).length ≤ L.size - L.used))]) ⟨fun e => absurd (headF_take17 _ _ _) e, fun _ => ⟨grpB gr, rfl, by omega, rfl⟩⟩) fun w4 b4 B4 => ⟨_, _, rfl, ?_⟩
  rw [decide_eq_true (show secN (grpB gr).length ≤ L.size - L.used by omega)]
  refine br_f rfl (newB B4 fun gb w5 gb0 sgb n5 z5 b5 B5 => ⟨by decide, by omega, ?_⟩)
  have o4 := o3.below b4 (Nat.le_refl _)
  have o5 : Own w5 w4.heap.size 5 1 (.slice (some ⟨gb, 0, none⟩) 0 0) 0 (([] : List UInt8).map bV) := own_lit (bs := []) n5 (by omega) (Nat.zero_le _)
  have rh := row_base (c := c3) (bs := headF L.gen L.groups (grpB gr)) (o4.below b5 (Nat.le_refl _)).row cap3 25
  have hdl : ((headF L.gen L.groups (grpB gr)).drop 25).length = 39 := by rw [List.length_drop, hhl]
  have e39 : (headF L.gen L.groups (grpB gr)).length - (25 : Int).toNat = ((headF L.gen L.groups (grpB gr)).drop 25).length := by rw [hdl, hhl]; rfl
  rw [e39]
  refine appF (w0 := w4) ((Bs.refl w4).to b5) o5 (Nat.le_refl _) b5.size (srcB rh) (by rw [hdl]; unfold maxLen; decide) (by rw [hdl]; decide) fun a6 c6 w6 o6 B46 z6 f6 or6 => ?_
  have B6 := B4.to B46
  rw [Nat.zero_add ((headF L.gen L.groups (grpB gr)).drop 25).length] at o6 ⊢
  have o6 : Own w6 w4.heap.size 5 1 (.slice a6 ((headF L.gen L.groups (grpB gr)).drop 25).length c6) ((headF L.gen L.groups (grpB gr)).drop 25).length (((headF L.gen L.groups (grpB gr)).drop 25).map bV) := o6
  refine drewB B6 fun w7 b7 B7 e7 => ⟨_, (h.bs B7).cl.2.2.2.2.1, callB B7 (fsec_ret (grpB gr).length (by omega) w7) fun w8 b8 B8 => ⟨_, rfl, (h.bs B8).cl.2.2.2.2.1, ?_⟩⟩
  rw [wr64 (z := (L.used : Int) + 1) (by omega) (by omega), wr64 (z := ((secN (grpB gr).length : Nat) : Int) - 1) (by omega) (by omega), show (L.used : Int) + 1 = ((L.used + 1 : Nat) : Int) by omega, show ((secN (grpB gr).length : Nat) : Int) - 1 = ((secN (grpB gr).length - 1 : Nat) : Int) by omega]
  refine (fread_new (h.bs B8) (t.bs B8) hS hW (L.used + 1) (secN (grpB gr).length - 1) (by omega)).mono ?_
  rintro e w9 ⟨a9, mm, c9, rfl, hm9, o9, B89⟩
  have etl : readS S (L.first + (L.used + 1)) (secN (grpB gr).length - 1) = (List.range (secN (grpB gr).length - 1)).flatMap (pieceF ((grpB gr).drop 39)) := by
    rw [show L.first + (L.used + 1) = L.first + L.used + 1 by omega]
    exact there_tail hT _ (Nat.le_refl _)
  rw [r2, etl] at hm9 o9
  rw [m2]
  have B9 := B8.to B89
  have B49 : Bs w4 w9 := ((B46.to b7).to b8).to B89
  have o9b := ((o6.below b7 (Nat.le_refl _)).below b8 (Nat.le_refl _)).below B89 (Nat.le_refl _)
  have o9h := o4.below B49 (Nat.le_refl _)
  have htl : ((List.range (secN (grpB gr).length - 1)).flatMap (pieceF ((grpB gr).drop 39))).length = 64 * (secN (grpB gr).length - 1) := by
    rw [← etl, readS_len hS]; omega
  generalize htf : (List.range (secN (grpB gr).length - 1)).flatMap (pieceF ((grpB gr).drop 39)) = tl at hm9 o9 htl
  subst hm9
  have hjoin := group_join L.gen L.groups (grpB gr)
  -- where the tail stands
  obtain ⟨tb, htb, htb2, htb3⟩ : ∃ tb, (∀ q, a9 = some q → q.block = tb) ∧ (Value.slice a6 ((headF L.gen L.groups (grpB gr)).drop 25).length c6).ownBlock ≠ some tb ∧ tb < w9.heap.size := by
    cases ha : a9 with
    | none =>
      have hlt : gl < w9.heap.size := (h.bs B9).lt
      refine ⟨gl, (fun q hq => by cases hq), fun e => ?_, hlt⟩
      have := (o6.lt gl e).1
      have : gl < w.heap.size := Bk.lt h
      have := B4.size
      omega
    | some q =>
      subst ha
      have hq := o9.lt q.block rfl
      refine ⟨q.block, fun q' hq' => by injection hq' with hq'; rw [hq'], fun e => ?_, hq.2⟩
      have := (o6.lt q.block e).2
      have := b7.size
      have := b8.size
      omega
  refine ⟨keepG_nil _ _, a9, _, c9, _, rfl, br_n (by decide) ?_⟩
  refine ⟨fun ab nb cb at' nt ct wx => ∃ j : Nat, j ≤ secN (grpB gr).length - 1 ∧ nb = ((headF L.gen L.groups (grpB gr)).drop 25 ++ joinN (pieceF ((grpB gr).drop 39)) j).length ∧ Own wx w4.heap.size 5 1 (.slice ab nb cb) nb (((headF L.gen L.groups (grpB gr)).drop 25 ++ joinN (pieceF ((grpB gr).drop 39)) j).map bV) ∧
      nt = (tl.drop (64 * j)).length ∧ nt ≤ ct ∧ RowAt wx at' ((tl.drop (64 * j)).map bV) ∧ (∀ q, at' = some q → q.block = tb) ∧ (Value.slice ab nb cb).ownBlock ≠ some tb ∧ tb < wx.heap.size ∧ Bs w4 wx, fun _ _ _ _ nt _ _ => nt,
    ⟨0, Nat.zero_le _, by simp [joinN], by simpa [joinN] using o9b, by simp, o9.cap.1, by simpa using o9.row, htb, htb2, htb3, B49⟩, ?_⟩
  rintro ab nb cb at' nt ct wx ⟨j, hj, rfl, ob, rfl, hct, rt, ht1, ht2, ht3, Bx⟩
  have htdl : (tl.drop (64 * j)).length = 64 * (secN (grpB gr).length - 1 - j) := by rw [List.length_drop, htl]; omega
  have hjl : (joinN (pieceF ((grpB gr).drop 39)) j).length ≤ 64 * j := by
    exact join_le _ _
  have secb := secN_le (grpB gr).length
  have hnb : ((headF L.gen L.groups (grpB gr)).drop 25 ++ joinN (pieceF ((grpB gr).drop 39)) j).length ≤ 39 + 64 * j := by rw [List.length_append, hdl]; omega
  refine br_dec (fun hgt => ?_) fun hz => ?_
  · have hj' : j < secN (grpB gr).length - 1 := by omega
    have e63 : (64 : Int).toNat - (1 : Int).toNat = 63 := rfl
    have hpj : (tl.drop (64 * j)).take 64 = pieceF ((grpB gr).drop 39) j := by
      rw [← htf]
      exact flat_drop _ (pieceF_len _) _ j hj'
    have e1 : ((tl.drop (64 * j)).drop 1).take 63 = ((pieceF ((grpB gr).drop 39) j).drop 1).take 63 := by
      rw [← hpj, List.drop_take, List.take_take]
      rfl
    have rs : RowAt wx (sliceBase at' ct (1 : Int).toNat 1) ((((pieceF ((grpB gr).drop 39) j).drop 1).take 63).map bV) := by
      rw [← e1, List.map_take]
      exact (row_base (c := ct) (bs := tl.drop (64 * j)) rt hct 1).take 63
    have hl63 : (((pieceF ((grpB gr).drop 39) j).drop 1).take 63).length = 63 := by rw [List.length_take, List.length_drop, pieceF_len]; rfl
    have hs := srcB (c := ct - (1 : Int).toNat) rs
    rw [hl63] at hs
    rw [e63]
    refine ⟨by decide, by decide, by omega, appF Bx ob (Nat.le_refl _) Bx.size hs (by unfold maxLen; omega) (by omega) fun a7 c7 w7 o7 B47 z7 f7 or7 => ⟨by decide, by omega, ⟨j + 1, by omega, ?_, ?_, ?_, ?_, ?_, ?_, ?_, by omega, B47⟩, ?_⟩⟩
    · rw [joinN_succ, ← List.append_assoc, List.length_append (bs := ((pieceF ((grpB gr).drop 39) j).drop 1).take 63), hl63]
    · rw [joinN_succ, ← List.append_assoc, List.map_append]
      exact o7
    · rw [show (64 : Int).toNat = 64 from rfl, List.length_drop, List.length_drop]; omega
    · rw [show (64 : Int).toNat = 64 from rfl]; omega
    · rw [show 64 * (j + 1) = 64 * j + 64 by omega, ← List.drop_drop]
      refine (row_base (c := ct) (bs := tl.drop (64 * j)) rt hct 64).keepB fun q hq => ?_
      obtain ⟨q', hq', hqb⟩ := base_block hq
      rw [← hqb, ht1 q' hq']
      exact f7 tb ht3 ht2
    · intro q hq
      obtain ⟨q', hq', hqb⟩ := base_block hq
      rw [← hqb]; exact ht1 q' hq'
    · rcases or7 with h' | ⟨g', h', h3⟩
      · rw [h']; exact ht2
      · rw [h']; intro e; injection e with e; omega
    · dsimp only
      rw [show (64 : Int).toNat = 64 from rfl]
      omega
  · obtain rfl : j = secN (grpB gr).length - 1 := by omega
    have hbl : (grpB gr).length ≤ ((headF L.gen L.groups (grpB gr)).drop 25 ++ joinN (pieceF ((grpB gr).drop 39)) (secN (grpB gr).length - 1)).length := by
      have := congrArg List.length hjoin
      rw [List.length_take] at this
      omega
    have capb := ob.cap.1
    have rb : RowAt wx ab ((grpB gr).map bV) := by
      have := ob.row.take (grpB gr).length
      rw [← List.map_take, hjoin] at this
      exact this
    refine ⟨by omega, by omega, drewB (B4.to Bx) fun w12 b12 B12 e12 => ⟨by decide, by decide, by omega, labelB L.gen L.groups (grpB gr), by rw [labelB_len]; rfl, ?_, _, (h.bs B12).cl.2.2.2.1, _, (h.bs B12).cl.2.2.2.2.2, ?_⟩⟩
    · have := (row_base (c := c3) (bs := headF L.gen L.groups (grpB gr)) (o4.below (Bx.to b12) (Nat.le_refl _)).row cap3 1).take 24
      rw [← List.map_take, headF_label] at this
      exact this
    rw [Int.toNat_natCast]
    have rb12 := rb.bs b12
    refine (label_new L.gen L.groups t3 (by omega) (c := cb) w12 rb12 (by omega) (by omega)).mono ?_
    rintro e w13 ⟨a13, c13, rfl, o13, b13⟩
    have B13 := B12.to b13
    refine ⟨keepG_nil _ _, a13, _, c13, rfl, ?_, labelB L.gen L.groups (grpB gr), rfl, o13.row, br_n (by simp) ?_⟩
    · have := (row_base (c := c3) (bs := headF L.gen L.groups (grpB gr)) (o4.below ((Bx.to b12).to b13) (Nat.le_refl _)).row cap3 1).take 24
      rw [← List.map_take, headF_label] at this
      exact this
    refine (records_new (c := cb) w13 (rb12.bs b13) hb).mono ?_
    rintro e w14 ⟨a14, c14, xs, rfl, hxs, hO, b14⟩
    exact ⟨keepG_nil _ _, a14, _, c14, _, rfl, a14, c14, xs, rfl, hxs, hO.base B13.size, B13.to b14⟩
end
end Go.Proofs.Ytpfmadinijofeaa
end
section
/- The program's log: opened; walked. -/
namespace Go.Proofs.Ytpfmadinijofeaa
open Go.RowKit
theorem fsecx_ret {a : Option Addr} {c : Nat} {xs : List Im} (w : World) (hx : Ims w a xs) (hl : (grpB (recs xs)).length ≤ 1000000) : Calls Try.prog 30 #[.slice a xs.length c] w (Ret (.int .i64 ((secN (grpB (recs xs)).length : Nat) : Int)) w) := by
  refine ret_in (GFr.sectorsX_calls a xs.length c w (fun u w' => u = .int .i64 ((secN (grpB (recs xs)).length : Nat) : Int) ∧ Below w.heap.size w w') ?_)
  unfold GFr.sectorsX_vc
  have hc := grpB_count (recs xs)
  have hrl : (recs xs).length = xs.length := by simp [recs]
  refine (fbody_new w hx (by omega) hl fun x hm => ?_).mono ?_
  · obtain ⟨k, hk, rfl⟩ := List.getElem_of_mem hm
    have := (grpB_one (recs xs) (k := k) (by omega)).1
    have e : (recs xs)[k]'(by omega) = xs[k].bs := by simp [recs]
    rw [e] at this
    omega
  · rintro e w2 ⟨a2, c2, rfl, o2, b2⟩
    exact ⟨keepG_nil _ _, a2, _, c2, rfl, callB b2 (fsec_ret _ (by omega) w2) fun w3 b3 B3 => ⟨_, rfl, rfl, B3⟩⟩
theorem appRs {w0 w : World} {n1 c c2 : Nat} {a a2 : Option Addr} {xs ys : List Im} {K : Nat → Option Addr → Nat → World → Prop} (B : Bs w0 w) (h : OwnR w n1 a c xs) (h2 : OwnR w n1 a2 c2 ys) (h1 : w0.heap.size ≤ n1) (hn : n1 ≤ w.heap.size) (hl : xs.length + ys.length ≤ 1000000000)
    (k : ∀ a' c' w2, OwnR w2 n1 a' c' (xs ++ ys) → OwnR w2 n1 a2 c2 ys ∨ ys = [] ∨ True → Bs w0 w2 → w.heap.size ≤ w2.heap.size → (∀ q, q < w.heap.size → (Value.slice a xs.length c).ownBlock ≠ some q → w2.heap[q]? = w.heap[q]?) → K ys.length a' c' w2) :
    appO Try.prog [] w 22 1 24 44 a xs.length c (.slice a2 ys.length c2) K := by
  have hs := Src.ofRow (P := Try.prog) (tx := 44) (w := w) Try.underlying44 a2 c2 (ys.map slV) h2.own.row (fun u hu => by obtain ⟨x, _, rfl⟩ := List.mem_map.1 hu; rfl)
  rw [List.length_map] at hs
  refine appF B h.own h1 hn hs (by unfold maxLen; omega) (by omega) fun a' c' w2 o2 B2 z2 f2 or2 => ?_
  have hne : ∀ (y : Im), (Own w n1 5 1 (.slice y.a y.bs.length y.c) y.bs.length (y.bs.map bV)) → Own w2 n1 5 1 (.slice y.a y.bs.length y.c) y.bs.length (y.bs.map bV) := fun y hy => hy.keep fun q hq => f2 q (hy.lt q hq).2 fun e => own_kinds h.own hy (by decide) e hq
  refine k a' c' w2 ⟨?_, fun y hy => ?_⟩ (.inr (.inr trivial)) B2 z2 f2
  · rw [List.map_append, List.length_append]; exact o2
  · rcases List.mem_append.1 hy with hy | hy
    · exact hne y (h.rows y hy)
    · exact hne y (h2.rows y hy)
theorem OwnR.not {w : World} {n1 c q : Nat} {a : Option Addr} {xs : List Im} {cs : Array Value} {t : TypeId} (h : OwnR w n1 a c xs) (hb : Bk w q cs t) (ht : t ≠ 22) : (Value.slice a xs.length c).ownBlock ≠ some q := fun e => by
  obtain ⟨cur, k⟩ := h.own.blk e
  have hb : w.heap[q]? = _ := hb
  rw [hb] at k
  injection k with k
  injection k with _ k
  exact ht k
theorem OwnR.fr1 {w w' : World} {n1 c q : Nat} {a : Option Addr} {xs : List Im} {cs : Array Value} {t : TypeId} (h : OwnR w n1 a c xs) (hb : Bk w q cs t) (ht : t ≠ 22) (ht2 : t ≠ 5) (f : Fr [q] w w') : OwnR w' n1 a c xs :=
  ⟨h.own.keep fun k hk => f.block k (h.own.lt k hk).2 fun hm => by rw [List.mem_singleton] at hm; subst hm; exact h.not hb ht hk,
   fun x hx => (h.rows x hx).keep fun k hk => f.block k ((h.rows x hx).lt k hk).2 fun hm => by
    rw [List.mem_singleton] at hm
    subst hm
    obtain ⟨cur, k2⟩ := (h.rows x hx).blk hk
    have hb : w.heap[k]? = _ := hb
    rw [hb] at k2
    injection k2 with k2
    injection k2 with _ k2
    exact ht2 k2⟩
theorem LgAt.turnU {w0 w : World} {gl g m : Nat} {L : LG} {v : Value} {K : World → Prop} (h : LgAt w gl g L) (B : Bs w0 w) (hg : w0.heap.size ≤ gl) (hv : v = .int .i64 ((L.used + m : Nat) : Int)) (k : ∀ w1, LgAt w1 gl g ⟨L.first, L.size, L.gen, L.used + m, L.groups⟩ → Fr [gl] w w1 → Bs w0 w1 → w1.heap.size = w.heap.size → K w1) : stO [] w gl (0 + 4) [v] K := by
  subst hv
  rw [Nat.zero_add]
  exact stB1 B hg (show Bk w gl _ _ from h) (by simp) (fun y hy => by cases hy) fun w1 k1 f1 B1 z1 => k w1 k1 f1 B1 z1
theorem LgAt.turnG {w0 w : World} {gl g : Nat} {L : LG} {v : Value} {K : World → Prop} (h : LgAt w gl g L) (B : Bs w0 w) (hg : w0.heap.size ≤ gl) (hv : v = .int .i64 ((L.groups + 1 : Nat) : Int)) (k : ∀ w1, LgAt w1 gl g ⟨L.first, L.size, L.gen, L.used, L.groups + 1⟩ → Fr [gl] w w1 → Bs w0 w1 → w1.heap.size = w.heap.size → K w1) : stO [] w gl (0 + 5) [v] K := by
  subst hv
  rw [Nat.zero_add]
  exact stB1 B hg (show Bk w gl _ _ from h) (by simp) (fun y hy => by cases hy) fun w1 k1 f1 B1 z1 => k w1 k1 f1 B1 z1
theorem open_nil (first size gen : Int) (w : World) : Calls Try.prog 22 #[.pointer none, .int .i64 first, .int .i64 size, .int .i64 gen] w (Ret (.tuple #[.pointer none, .slice none 0 0, .int .i64 1]) w) := by
  refine ret_in (GFr.open_calls none first size gen w (fun u w' => u = .tuple #[.pointer none, .slice none 0 0, .int .i64 1] ∧ Below w.heap.size w w') ?_)
  unfold GFr.open_vc
  exact ⟨fun _ _ _ _ _ => False, fun _ _ _ _ _ => 0, br_t rfl ⟨rfl, Bs.refl w⟩, fun _ _ _ _ _ h => h.elim⟩
theorem open_no {w : World} {g gd mb : Nat} {S : DS} (t : DkAt w g gd mb S) (hS : DWf S) (first size gen : Int) (h1 : first ≤ 9223372036854775807) (h2 : size ≤ 9223372036854775807) (hb : first < 0 ∨ gen < 0 ∨ size < 1 ∨ size > S.n ∨ first > S.n - size) :
    Calls Try.prog 22 #[.pointer (some ⟨g, 0, none⟩), .int .i64 first, .int .i64 size, .int .i64 gen] w (Ret (.tuple #[.pointer none, .slice none 0 0, .int .i64 1]) w) := by
  refine ret_in (GFr.open_calls (some ⟨g, 0, none⟩) first size gen w (fun u w' => u = .tuple #[.pointer none, .slice none 0 0, .int .i64 1] ∧ Below w.heap.size w w') ?_)
  unfold GFr.open_vc
  have n1 := hS.n1
  have n2 := hS.n2
  refine ⟨fun _ _ _ _ _ => False, fun _ _ _ _ _ => 0, br_f rfl (br_dec (fun _ => ⟨rfl, Bs.refl w⟩) fun q1 => br_dec (fun _ => ⟨rfl, Bs.refl w⟩) fun q2 => br_dec (fun _ => ⟨rfl, Bs.refl w⟩) fun q3 => ?_), fun _ _ _ _ _ h => h.elim⟩
  refine callB (Bs.refl w) (dsize_ret t) fun w2 b2 B2 => ⟨_, rfl, br_dec (fun _ => ⟨rfl, B2⟩) fun q4 => callB B2 (dsize_ret (t.bs B2)) fun w3 b3 B3 => ⟨_, rfl, ?_⟩⟩
  rw [wr64 (by omega) (by omega)]
  exact br_y (by omega) ⟨rfl, B3⟩
/-- What an opened log is. -/
def OpenQ (w : World) (g : Nat) (L : LG) (rs : Grp) (v : Value) (w' : World) : Prop := ∃ gl a c xs, v = .tuple #[.pointer (some ⟨gl, 0, none⟩), .slice a (xs : List Im).length c, .int .i64 0] ∧ recs xs = rs ∧ OwnR w' w.heap.size a c xs ∧ LgAt w' gl g L ∧ w.heap.size ≤ gl ∧ Bs w w'
set_option maxHeartbeats 800000 in
theorem open_new {w : World} {g gd mb : Nat} {S : DS} (t : DkAt w g gd mb S) (hS : DWf S) (ho : S.off = false) {first size gen u : Nat} {gs : List Grp} (h1 : 1 ≤ size) (h2 : first + size ≤ S.n) (h3 : gen < 9223372036854775808) (hC : Chain S first gen 0 0 gs u) (hu : u ≤ size)
    (hstop : u = size ∨ (nowS S (first + u)).take 17 ≠ headP gen gs.length) (hr : gs.flatten.length ≤ 1000000) :
    Calls Try.prog 22 #[.pointer (some ⟨g, 0, none⟩), .int .i64 (first : Int), .int .i64 (size : Int), .int .i64 (gen : Int)] w fun e w' => ∃ v, e = .returned v ∧ OpenQ w g ⟨first, size, gen, u, gs.length⟩ gs.flatten v w' := by
  refine GFr.open_calls (some ⟨g, 0, none⟩) first size gen w (OpenQ w g ⟨first, size, gen, u, gs.length⟩ gs.flatten) ?_
  unfold GFr.open_vc
  have n2 := hS.n2
  -- a pass: what 'next' tells
  have pass : ∀ {wx : World} {gl p : Nat} {done rest : List Grp}, Bs w wx → LgAt wx gl g ⟨first, size, gen, p, done.length⟩ → gs = done ++ rest → Chain S first gen p done.length rest u → done.length ≤ p →
      (rest = [] ∧ Calls Try.prog 59 #[.pointer (some ⟨gl, 0, none⟩)] wx (Ret (.tuple #[.slice none 0 0, .bool false, .int .i64 0]) wx)) ∨
      (∃ gr r, rest = gr :: r ∧ Calls Try.prog 59 #[.pointer (some ⟨gl, 0, none⟩)] wx fun e w' => ∃ a' c' xs, e = .returned (.tuple #[.slice a' (xs : List Im).length c', .bool true, .int .i64 0]) ∧ recs xs = gr ∧ OwnR w' wx.heap.size a' c' xs ∧ Bs wx w') := fun {wx gl p done rest} B hL hg hc hp => by
    obtain ⟨c1, c2⟩ := hc.le
    have hW : LWf S ⟨first, size, gen, p, done.length⟩ := ⟨h2, by show p ≤ size; omega, hp, h3⟩
    cases rest with
    | nil =>
      have hc : u = p := hc
      subst hc
      refine .inl ⟨rfl, ?_⟩
      rcases hstop with e | e
      · exact next_end hL e
      · by_cases e2 : u = size
        · exact next_end hL e2
        · refine next_no hL (t.bs B) hS hW ho (by show u < size; omega) ?_
          rw [hg, List.append_nil] at e
          exact e
    | cons gr r =>
      obtain ⟨q1, q2, q3, q4⟩ := hc
      refine .inr ⟨gr, r, rfl, next_yes hL (t.bs B) hS hW ho q3 ?_ q1⟩
      have := q4.le.1
      show p + secN (grpB gr).length ≤ size
      omega
  refine ⟨fun p a n c wx => ∃ gl p' done rest xs, p = some ⟨gl, 0, none⟩ ∧ n = (xs : List Im).length ∧ recs xs = done.flatten ∧ OwnR wx w.heap.size a c xs ∧ LgAt wx gl g ⟨first, size, gen, p', done.length⟩ ∧ w.heap.size ≤ gl ∧ Bs w wx ∧ gs = done ++ rest ∧ Chain S first gen p' done.length rest u ∧ done.length ≤ p', fun _ _ n _ _ => gs.flatten.length - n, ?_, ?_⟩
  · refine br_f rfl (br_n (by omega) (br_n (by omega) (br_n (by omega) (callB (Bs.refl w) (dsize_ret t) fun w2 b2 B2 => ⟨_, rfl, br_n (by omega) (callB B2 (dsize_ret (t.bs B2)) fun w3 b3 B3 => ⟨_, rfl, ?_⟩)⟩))))
    rw [wr64 (by omega) (by omega)]
    refine br_n (by omega) (newB B3 fun gl w4 gl0 sgl n4 z4 b4 B4 => ?_)
    have hL : LgAt w4 gl g ⟨first, size, gen, 0, ([] : List Grp).length⟩ := n4
    rcases pass B4 hL (done := []) (rest := gs) rfl hC (Nat.zero_le _) with ⟨e0, hcall⟩ | ⟨gr, r, e0, hcall⟩
    · subst e0
      refine callB B4 hcall fun w5 b5 B5 => ⟨_, _, _, _, _, rfl, br_n (by decide) (br_t rfl ⟨gl, none, 0, [], rfl, rfl, OwnR.nil _ _, ?_, gl0, B5⟩)⟩
      have hC : u = 0 := hC
      subst hC
      exact hL.bs b5
    · refine hcall.mono ?_
      rintro e w5 ⟨a5, c5, ys, rfl, hys, hO, b5⟩
      have B5 := B4.to b5
      have hl5 : ys.length ≤ 1000000 := by
        have e1 : ys.length = gr.length := by rw [← hys]; simp [recs]
        rw [e0, List.flatten_cons, List.length_append] at hr
        omega
      rw [e0] at hC
      refine ⟨keepG_nil _ _, a5, _, c5, _, _, rfl, br_n (by decide) (br_f rfl ?_)⟩
      refine appRs (xs := []) B5 (OwnR.nil _ w.heap.size) (hO.base B4.size) (Nat.le_refl _) B5.size (by show 0 + _ ≤ _; omega) fun a6 c6 w6 O6 _ B6 z6 f6 => ?_
      have hL6 : LgAt w6 gl g ⟨first, size, gen, 0, 0⟩ := Bk.keep (hL.bs b5) (f6 gl (Bk.lt (hL.bs b5)) fun e => by cases e)
      have hI5 : Ims w6 a5 ys := (OwnR.keep hO fun q _ h2' => f6 q h2' fun e => by cases e).ims
      have hg3 : (grpB (recs ys)).length ≤ 1000000 := by rw [hys]; exact hC.2.2.1
      refine drewB B6 fun w7 b7 B7 e7 => ⟨_, (hL6.bs b7).cl.2.2.2.2.1, callB B7 (fsecx_ret w7 (hI5.below b7) hg3) fun w8 b8 B8 => ⟨_, rfl, ((hL6.bs b7).bs b8).cl.2.2.2.2.1, ?_⟩⟩
      have hsec := secN_le (grpB (recs ys)).length
      have hL8 := (hL6.bs b7).bs b8
      have O8 := (O6.below b7).below b8
      refine hL8.turnU B8 gl0 (by show Value.int .i64 (IntKind.i64.wrap (((0 : Nat) : Int) + ((secN (grpB (recs ys)).length : Nat) : Int))) = _; rw [wr64 (by omega) (by omega)]; congr 1) fun w9 k9 f9 B9 z9 => ⟨_, k9.cl.2.2.2.2.2, ?_⟩
      refine k9.turnG B9 gl0 (by show Value.int .i64 (IntKind.i64.wrap (((0 : Nat) : Int) + 1)) = _; rw [wr64 (by omega) (by omega)]; rfl) fun w10 k10 f10 B10 z10 => ?_
      have O10 := (O8.fr1 (show Bk w8 gl _ _ from hL8) (by decide) (by decide) f9).fr1 (show Bk w9 gl _ _ from k9) (by decide) (by decide) f10
      rw [hys] at k10
      exact ⟨gl, 0 + secN (grpB gr).length, [gr], r, [] ++ ys, rfl, by simp, by rw [List.nil_append, hys]; simp, O10, k10, gl0, B10, by rw [e0]; rfl, hC.2.2.2, by have := secN_pos (grpB gr).length; show 1 ≤ _; omega⟩
  · rintro p a n c wx ⟨gl, p', done, rest, xs, rfl, rfl, hxs, hO, hL, gl0, Bx, hg, hc, hdp⟩
    have hcl := hc.le
    rcases pass Bx hL hg hc hdp with ⟨e0, hcall⟩ | ⟨gr, r, e0, hcall⟩
    · subst e0
      have hc : u = p' := hc
      subst hc
      rw [List.append_nil] at hg
      subst hg
      exact callB Bx hcall fun w5 b5 B5 => ⟨_, _, _, _, _, rfl, br_n (by decide) (br_t rfl ⟨gl, a, c, xs, rfl, hxs, hO.below b5, hL.bs b5, gl0, B5⟩)⟩
    · refine hcall.mono ?_
      rintro e w5 ⟨a5, c5, ys, rfl, hys, hO5, b5⟩
      have B5 := Bx.to b5
      subst e0
      have hle : xs.length + ys.length ≤ gs.flatten.length ∧ 0 < ys.length := by
        have e1 : ys.length = gr.length := by rw [← hys]; simp [recs]
        have e2 : xs.length = done.flatten.length := by rw [← hxs]; simp [recs]
        have e3 : 0 < gr.length := List.length_pos_iff.2 hc.2.1
        rw [hg, List.flatten_append, List.flatten_cons, List.length_append, List.length_append]
        omega
      refine ⟨keepG_nil _ _, a5, _, c5, _, _, rfl, br_n (by decide) (br_f rfl ?_)⟩
      refine appRs B5 (hO.below b5) (hO5.base Bx.size) (Nat.le_refl _) B5.size (by omega) fun a6 c6 w6 O6 _ B6 z6 f6 => ?_
      have hL5 := hL.bs b5
      have hL6 : LgAt w6 gl g ⟨first, size, gen, p', done.length⟩ := Bk.keep hL5 (f6 gl (Bk.lt hL5) ((hO.below b5).not (show Bk w5 gl _ _ from hL5) (by decide)))
      have hI6 : Ims w6 a5 ys := by
        refine (OwnR.ims ⟨hO5.own.keep fun q hq => f6 q (hO5.own.lt q hq).2 fun e => ?_, fun y hy => (hO5.rows y hy).keep fun q hq => f6 q ((hO5.rows y hy).lt q hq).2 fun e => own_kinds (hO.below b5).own (hO5.rows y hy) (by decide) e hq⟩)
        have := (hO5.own.lt q hq).1
        have := (hO.own.lt q e).2
        omega
      have hg3 : (grpB (recs ys)).length ≤ 1000000 := by rw [hys]; exact hc.2.2.1
      have hsec := secN_le (grpB (recs ys)).length
      have hp8 : p' ≤ 8192 := by omega
      have hd8 : done.length ≤ 8192 := by omega
      refine drewB B6 fun w7 b7 B7 e7 => ⟨_, (hL6.bs b7).cl.2.2.2.2.1, callB B7 (fsecx_ret w7 (hI6.below b7) hg3) fun w8 b8 B8 => ⟨_, rfl, ((hL6.bs b7).bs b8).cl.2.2.2.2.1, ?_⟩⟩
      have hL8 := (hL6.bs b7).bs b8
      have O8 := (O6.below b7).below b8
      refine hL8.turnU B8 gl0 (by show Value.int .i64 (IntKind.i64.wrap ((p' : Int) + ((secN (grpB (recs ys)).length : Nat) : Int))) = _; rw [wr64 (by omega) (by omega)]; congr 1) fun w9 k9 f9 B9 z9 => ⟨_, k9.cl.2.2.2.2.2, ?_⟩
      refine k9.turnG B9 gl0 (by show Value.int .i64 (IntKind.i64.wrap ((done.length : Int) + 1)) = _; rw [wr64 (by omega) (by omega)]; rfl) fun w10 k10 f10 B10 z10 => ?_
      have O10 := (O8.fr1 (show Bk w8 gl _ _ from hL8) (by decide) (by decide) f9).fr1 (show Bk w9 gl _ _ from k9) (by decide) (by decide) f10
      rw [hys] at k10
      refine ⟨⟨gl, p' + secN (grpB gr).length, done ++ [gr], r, xs ++ ys, rfl, by simp, ?_, O10, by simpa using k10, gl0, B10, by rw [hg, List.append_assoc]; rfl, by simpa using hc.2.2.2, by have := secN_pos (grpB gr).length; rw [List.length_append]; show _ + 1 ≤ _; omega⟩, by dsimp only; omega⟩
      show (xs ++ ys).map _ = _
      rw [List.map_append, show xs.map (·.bs) = done.flatten from hxs, show ys.map (·.bs) = gr from hys, List.flatten_append]
      simp
end Go.Proofs.Ytpfmadinijofeaa
end
