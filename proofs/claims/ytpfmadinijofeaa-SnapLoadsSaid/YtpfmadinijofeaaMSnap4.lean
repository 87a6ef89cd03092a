import Derived.Test.YtpfmadinijofeaaMSnap3
import Derived.Laws.BitsAllLaws
import Derived.Test.YtpfmadinijofeaaProg
import Derived.Test.YtpfmadinijofeaaMSnap2
import Derived.RangeFuncBox
import Derived.RangeFuncLeaves
import Derived.Shelf.Abstract
import Derived.WalkKit
import Derived.OwnWalkIn
import Derived.TacticsInMore
import Derived.LoopNIn
import Derived.LoopIn
import Derived.RegionIn
import Derived.Maps.AppendAt
import Derived.Test.YtpfmadinijofeaaMSnap1
import Derived.Test.YtpfmadinijofeaaRows
import Derived.Deep.DeepCutAuto
import Derived.Deep.CutBlock
import Derived.OwnWalk
set_option linter.unusedVariables false
section
/- Images in slots (layer 6), as functions. No program in sight. -/
namespace Go.Proofs.Ytpfmadinijofeaa
open Go.RowKit
/-! Numbers in bytes, the highest first. -/
def beJ (n k j : Nat) : List UInt8 := (List.range j).map fun i => UInt8.ofNat (n / 2 ^ (8 * (k - 1 - i)) % 256)
def beB (n k : Nat) : List UInt8 := beJ n k k
theorem beJ_len (n k j : Nat) : (beJ n k j).length = j := by simp [beJ]
theorem beB_len (n k : Nat) : (beB n k).length = k := beJ_len n k k
theorem beJ_succ (n k j : Nat) : beJ n k (j + 1) = beJ n k j ++ [UInt8.ofNat (n / 2 ^ (8 * (k - 1 - j)) % 256)] := by
  unfold beJ
  rw [List.range_succ, List.map_append]
  rfl
theorem i64_or (a b : Nat) (ha : a < 9223372036854775808) (hb : b < 256) : bitsV .or .i64 (a : Int) (b : Int) = IntKind.i64.wrap ((a ||| b : Nat) : Int) := by
  show IntKind.i64.wrap (((BitVec.ofInt 64 (a : Int) ||| BitVec.ofInt 64 (b : Int)).toNat : Nat) : Int) = _
  rw [BitVec.toNat_or, ofInt_u64 a (by omega), ofInt_u64 b (by omega)]
theorem i64_and1 (x : Int) : bitsV .and .i64 x 1 = x % 2 := by
  show IntKind.i64.wrap (((BitVec.ofInt 64 x &&& BitVec.ofInt 64 ((1 : Nat) : Int)).toNat : Nat) : Int) = _
  rw [BitVec.toNat_and, ofInt_u64 1 (by omega), Nat.and_one_is_mod, wr64 (by omega) (by omega)]
  have : (BitVec.ofInt 64 x).toNat = (x % 18446744073709551616).toNat := by rw [BitVec.toNat_ofInt]; rfl
  rw [this]
  omega
theorem wrap64_rng (z : Int) : -9223372036854775808 ≤ IntKind.i64.wrap z ∧ IntKind.i64.wrap z ≤ 9223372036854775807 := by
  simp only [IntKind.wrap, IntKind.bits, IntKind.signed]
  by_cases hc : z % 2 ^ 64 ≥ 2 ^ (64 - 1)
  · simp only [hc, decide_true, Bool.and_true, if_true]; omega
  · simp only [hc, decide_false, Bool.and_false, if_false, Bool.false_eq_true]; omega
def stepI (a : Int) (b : Nat) : Int := bitsV .or .i64 (IntKind.i64.wrap (a * 2 ^ 8)) (IntKind.i64.wrap (b : Int))
theorem stepI_val (a b : Nat) (hb : b < 256) (h : a * 256 + b < 9223372036854775808) : stepI (a : Int) b = ((a * 256 + b : Nat) : Int) := by
  unfold stepI
  have h1 : a * 256 < 9223372036854775808 := Nat.lt_of_le_of_lt (Nat.le_add_right _ _) h
  have e8 : ((a : Int) * 2 ^ 8) = ((a * 256 : Nat) : Int) := by rw [show ((2 : Int) ^ 8) = 256 by decide +kernel, Int.natCast_mul]; rfl
  rw [e8, wr64 (by omega) (by omega), wr64 (by omega) (by omega), i64_or (a * 256) b h1 hb]
  rw [nat_join 8 (a * 256) b (by omega) (by omega), wr64 (by omega) (by omega)]
def foldI (a : Int) (bs : List UInt8) : Int := bs.foldl (fun a b => stepI a b.toNat) a
theorem foldI_snoc (a : Int) (bs : List UInt8) (b : UInt8) : foldI a (bs ++ [b]) = stepI (foldI a bs) b.toNat := by unfold foldI; rw [List.foldl_append]; rfl
theorem foldI_range : ∀ (bs : List UInt8), foldI 0 bs = 0 ∨ (-9223372036854775808 ≤ foldI 0 bs ∧ foldI 0 bs ≤ 9223372036854775807) := by
  intro bs
  rcases List.eq_nil_or_concat bs with rfl | ⟨l, b, rfl⟩
  · exact .inl rfl
  · right
    rw [List.concat_eq_append, foldI_snoc]
    unfold stepI
    exact wrap64_rng _
theorem foldI_rng (bs : List UInt8) : -9223372036854775808 ≤ foldI 0 bs ∧ foldI 0 bs ≤ 9223372036854775807 := by
  rcases foldI_range bs with h | h
  · rw [h]; omega
  · exact h
theorem ofNat_toNat {m : Nat} (h : m < 256) : (UInt8.ofNat m).toNat = m := by
  rw [UInt8.toNat_ofNat']
  omega
theorem pow8_succ (j : Nat) : 2 ^ (8 * (j + 1)) = 256 * 2 ^ (8 * j) := by
  rw [show 8 * (j + 1) = 8 + 8 * j by omega, Nat.pow_add]
theorem foldI_be {n k : Nat} (hn : n < 9223372036854775808) (hk : n < 2 ^ (8 * k)) : ∀ j, j ≤ k → foldI 0 (beJ n k j) = ((n / 2 ^ (8 * (k - j)) : Nat) : Int)
  | 0, _ => by
    rw [Nat.sub_zero, Nat.div_eq_of_lt hk]
    rfl
  | j + 1, hj => by
    rw [beJ_succ, foldI_snoc, foldI_be hn hk j (by omega)]
    have e1 : k - j = (k - (j + 1)) + 1 := by omega
    have e2 : k - 1 - j = k - (j + 1) := by omega
    rw [e1, e2, pow8_succ, ofNat_toNat (Nat.mod_lt _ (by omega))]
    generalize 2 ^ (8 * (k - (j + 1))) = p
    have e3 : n / (256 * p) = n / p / 256 := by rw [Nat.mul_comm, Nat.div_div_eq_div_mul]
    have h4 : n / p ≤ n := Nat.div_le_self _ _
    rw [e3, stepI_val _ _ (Nat.mod_lt _ (by omega)) (by omega)]
    congr 1
    omega
theorem foldI_beB {n : Nat} (hn : n < 9223372036854775808) : foldI 0 (beB n 8) = (n : Int) := by
  unfold beB
  rw [foldI_be hn (by omega) 8 (by omega)]
  simp
/-! A slot. -/
def zerosB (n : Nat) : List UInt8 := List.replicate n 0
def headH (gen len : Nat) : List UInt8 := beB gen 8 ++ beB len 8
theorem headH_len (gen len : Nat) : (headH gen len).length = 16 := by simp [headH, beB_len]
def headK (gen : Nat) (image : List UInt8) : List UInt8 := [3] ++ headH gen image.length ++ beB (more 0 (headH gen image.length ++ image)) 4 ++ zerosB 43
theorem headK_len (gen : Nat) (image : List UInt8) : (headK gen image).length = 64 := by simp [headK, headH_len, beB_len, zerosB]
theorem headK_eq (gen : Nat) (image : List UInt8) : ∃ r, headK gen image = 3 :: (beB gen 8 ++ (beB image.length 8 ++ r)) :=
  ⟨beB (more 0 (headH gen image.length ++ image)) 4 ++ zerosB 43, by
    unfold headK
    rw [List.append_assoc]
    generalize beB (more 0 (headH gen image.length ++ image)) 4 ++ zerosB 43 = r
    unfold headH
    simp⟩
theorem headK_gen (gen : Nat) (image : List UInt8) : ((headK gen image).drop 1).take 8 = beB gen 8 := by
  obtain ⟨r, e⟩ := headK_eq gen image
  rw [e, List.drop_succ_cons, List.drop_zero, List.take_append_of_le_length (by rw [beB_len]; omega), List.take_of_length_le (by rw [beB_len]; omega)]
theorem headK_num (gen : Nat) (image : List UInt8) : ((headK gen image).drop 9).take 8 = beB image.length 8 := by
  obtain ⟨r, e⟩ := headK_eq gen image
  rw [e, List.drop_succ_cons, List.drop_append_of_le_length (by rw [beB_len]; omega), List.drop_of_length_le (by rw [beB_len]; omega), List.nil_append, List.take_append_of_le_length (by rw [beB_len]; omega), List.take_of_length_le (by rw [beB_len]; omega)]
def bodyB (image : List UInt8) : List UInt8 := image ++ zerosB ((64 - image.length % 64) % 64)
theorem bodyB_len (image : List UInt8) : (bodyB image).length = (image.length + 63) / 64 * 64 := by
  simp only [bodyB, zerosB, List.length_append, List.length_replicate]
  omega
def roomZ (size : Int) : Int := if size < 1 ∨ size > 8192 then 0 else 64 * (size - 1)
/-- The image of a slot's bytes. -/
def slotG (b : List UInt8) (size slot : Int) : Option (Int × List UInt8) :=
  let gen := foldI 0 ((b.drop 1).take 8)
  let n := foldI 0 ((b.drop 9).take 8)
  if gen < 1 ∨ gen % 2 ≠ slot ∨ n < 0 ∨ n > roomZ size then none
  else if b.take 64 = headK gen.toNat ((b.drop 64).take n.toNat) then some (gen, (b.drop 64).take n.toNat) else none
/-- The generation that a head's sector says. -/
def hgen (h : List UInt8) : Int := foldI 0 ((h.drop 1).take 8)
theorem slotG_gen {b : List UInt8} {size slot g : Int} {im : List UInt8} (h : slotG b size slot = some (g, im)) : g = hgen (b.take 64) ∧ 1 ≤ g ∧ g % 2 = slot ∧ b.take 64 = headK g.toNat im := by
  unfold slotG at h
  simp only at h
  split at h
  · cases h
  · rename_i hc
    split at h
    · rename_i he
      injection h with h
      injection h with h1 h2
      subst h1
      subst h2
      refine ⟨?_, by omega, by omega, he⟩
      unfold hgen
      rw [List.drop_take, List.take_take]
      rfl
    · cases h
theorem slotG_none {b : List UInt8} {size slot : Int} (h : hgen (b.take 64) < 1) : slotG b size slot = none := by
  cases hs : slotG b size slot with
  | none => rfl
  | some x =>
    obtain ⟨g, im⟩ := x
    obtain ⟨h1, h2, _⟩ := slotG_gen hs
    omega
theorem hgen_head {gen : Nat} (h : gen < 9223372036854775808) (im : List UInt8) : hgen (headK gen im) = gen := by
  unfold hgen
  rw [headK_gen, foldI_beB h]
theorem slotG_head {gen size : Nat} {im b : List UInt8} (hg : 1 ≤ gen) (hg2 : gen < 9223372036854775808) (hs : 1 ≤ size) (hs2 : size ≤ 8192) (hl : im.length ≤ 64 * (size - 1)) (h1 : b.take 64 = headK gen im) (h2 : (b.drop 64).take im.length = im) :
    slotG b size ((gen : Int) % 2) = some ((gen : Int), im) := by
  have e1 : (b.drop 1).take 8 = beB gen 8 := by rw [← headK_gen gen im, ← h1, List.drop_take, List.take_take]; rfl
  have e2 : (b.drop 9).take 8 = beB im.length 8 := by rw [← headK_num gen im, ← h1, List.drop_take, List.take_take]; rfl
  unfold slotG
  simp only
  rw [e1, e2, foldI_beB hg2, foldI_beB (by omega), if_neg (by unfold roomZ; split <;> omega), Int.toNat_natCast, Int.toNat_natCast, h2, if_pos h1]
/-! Saving, loading. -/
def atE (S : DS) (first size : Int) : Int := if first < 0 ∨ size < 1 ∨ size > (S.n : Int) / 2 ∨ first > S.n - 2 * size then 1 else 0
def pwE (S : DS) (p : Int) (b : List UInt8) : Int := if b = [] then 0 else if writeE S p b ≠ 0 then writeE S p b else syncE (writeD S p b)
def pwD (S : DS) (p : Int) (b : List UInt8) : DS := if b = [] then S else if writeE S p b ≠ 0 then writeD S p b else syncD (writeD S p b)
theorem DWf.pw {S : DS} (h : DWf S) (p : Int) (b : List UInt8) : DWf (pwD S p b) := by
  unfold pwD
  split
  · exact h
  · split
    · exact h.write p b
    · exact (h.write p b).sync
def slotAt (first size gen : Int) : Int := first + gen % 2 * size
def saveE (S : DS) (first size gen : Int) (im : List UInt8) : Int :=
  if atE S first size ≠ 0 then 1 else if gen < 1 then 1 else if (im.length : Int) > roomZ size then 5
  else if pwE S (slotAt first size gen + 1) (bodyB im) ≠ 0 then pwE S (slotAt first size gen + 1) (bodyB im)
  else pwE (pwD S (slotAt first size gen + 1) (bodyB im)) (slotAt first size gen) (headK gen.toNat im)
def saveD (S : DS) (first size gen : Int) (im : List UInt8) : DS :=
  if atE S first size ≠ 0 then S else if gen < 1 then S else if (im.length : Int) > roomZ size then S
  else if pwE S (slotAt first size gen + 1) (bodyB im) ≠ 0 then pwD S (slotAt first size gen + 1) (bodyB im)
  else pwD (pwD S (slotAt first size gen + 1) (bodyB im)) (slotAt first size gen) (headK gen.toNat im)
theorem DWf.save {S : DS} (h : DWf S) (first size gen : Int) (im : List UInt8) : DWf (saveD S first size gen im) := by
  unfold saveD
  split
  · exact h
  · split
    · exact h
    · split
      · exact h
      · split
        · exact h.pw _ _
        · exact (h.pw _ _).pw _ _
def slotR (S : DS) (first size slot : Int) : Option (Int × List UInt8) := slotG (readL S (first + slot * size) size) size slot
def genO : Option (Int × List UInt8) → Int
  | none => 0
  | some x => x.1
def imO : Option (Int × List UInt8) → List UInt8
  | none => []
  | some x => x.2
theorem genO_pos {S : DS} {first size slot : Int} : 0 ≤ genO (slotR S first size slot) ∧ (slotR S first size slot = none ↔ genO (slotR S first size slot) = 0) := by
  cases h : slotR S first size slot with
  | none => exact ⟨Int.le_refl _, by simp [genO]⟩
  | some x =>
    obtain ⟨g, im⟩ := x
    have := (slotG_gen h).2.1
    exact ⟨by show 0 ≤ g; omega, by simp [genO]; omega⟩
/-- What the two slots tell. -/
def bestR (S : DS) (first size : Int) : Option (Int × List UInt8) := if genO (slotR S first size 1) > genO (slotR S first size 0) then slotR S first size 1 else slotR S first size 0
def loadE (S : DS) (first size : Int) : Int := if atE S first size ≠ 0 then 1 else if S.off = true then 12 else if bestR S first size = none then 7 else 0
def loadG (S : DS) (first size : Int) : Int := if atE S first size ≠ 0 ∨ S.off = true then 0 else genO (bestR S first size)
def loadI (S : DS) (first size : Int) : List UInt8 := if atE S first size ≠ 0 ∨ S.off = true then [] else imO (bestR S first size)
def gensE (S : DS) (first size : Int) : Int := if atE S first size ≠ 0 then 1 else if S.off = true then 12 else 0
def gensG (S : DS) (first size slot : Int) : Int := if atE S first size ≠ 0 ∨ S.off = true then 0 else genO (slotR S first size slot)
end Go.Proofs.Ytpfmadinijofeaa
end
section
/- Conditions of functions, printed by a program of this claim's own (vcgen.py) out of the loaded code; each is proved to be enough. -/
set_option maxRecDepth 100000
namespace Go.Proofs.Ytpfmadinijofeaa
open Go.RowKit
namespace GDk
def env : Env := ⟨[(3, ⟨.int .i64, 1, .int .i64 0, 8, [.int .i64]⟩), (4, ⟨.bool, 1, .bool false, 1, [.bool]⟩), (5, ⟨.int .u8, 1, .int .u8 0, 1, [.int .u8]⟩), (22, ⟨.slice 5, 1, .slice none 0 0, 24, [.slice]⟩), (24, ⟨.ptr, 1, .pointer none, 8, [.ptr]⟩), (44, ⟨.slice 22, 1, .slice none 0 0, 24, [.slice]⟩), (60, ⟨.slice 3, 1, .slice none 0 0, 24, [.slice]⟩), (64, ⟨.slice 4, 1, .slice none 0 0, 24, [.slice]⟩), (94, ⟨.slice 110, 1, .slice none 0 0, 24, [.slice]⟩), (95, ⟨.map 3 110, 1, .map none, 8, [.map]⟩), (97, ⟨.struct [(0, 94), (1, 95), (2, 3), (3, 4)], 4, .agg #[.slice none 0 0, .map none, .int .i64 0, .bool false], 48, [.slice, .map, .int .i64, .bool]⟩), (110, ⟨.arr 64 5, 64, .agg (List.replicate 64 (.int .u8 0)).toArray, 64, [.bytes 64]⟩)], [(36, [.lf (.slice)]), (53, [.lf (.int .i64)]), (54, [.lf (.slice)]), (55, [.lf (.any)]), (56, [.lf (.bool)]), (68, [.lf (.slice)]), (69, [.lf (.any)])], []⟩
theorem ty3 : TyOk Try.prog 3 ⟨.int .i64, 1, .int .i64 0, 8, [.int .i64]⟩ := tyok (by kernel_rfl) (by kernel_rfl)
theorem ty4 : TyOk Try.prog 4 ⟨.bool, 1, .bool false, 1, [.bool]⟩ := tyok (by kernel_rfl) (by kernel_rfl)
theorem ty5 : TyOk Try.prog 5 ⟨.int .u8, 1, .int .u8 0, 1, [.int .u8]⟩ := tyok (by kernel_rfl) (by kernel_rfl)
theorem ty22 : TyOk Try.prog 22 ⟨.slice 5, 1, .slice none 0 0, 24, [.slice]⟩ := tyok (by kernel_rfl) (by kernel_rfl)
theorem ty24 : TyOk Try.prog 24 ⟨.ptr, 1, .pointer none, 8, [.ptr]⟩ := tyok (by kernel_rfl) (by kernel_rfl)
theorem ty44 : TyOk Try.prog 44 ⟨.slice 22, 1, .slice none 0 0, 24, [.slice]⟩ := tyok (by kernel_rfl) (by kernel_rfl)
theorem ty60 : TyOk Try.prog 60 ⟨.slice 3, 1, .slice none 0 0, 24, [.slice]⟩ := tyok (by kernel_rfl) (by kernel_rfl)
theorem ty64 : TyOk Try.prog 64 ⟨.slice 4, 1, .slice none 0 0, 24, [.slice]⟩ := tyok (by kernel_rfl) (by kernel_rfl)
theorem ty94 : TyOk Try.prog 94 ⟨.slice 110, 1, .slice none 0 0, 24, [.slice]⟩ := tyok (by kernel_rfl) (by kernel_rfl)
theorem ty95 : TyOk Try.prog 95 ⟨.map 3 110, 1, .map none, 8, [.map]⟩ := tyok (by kernel_rfl) (by kernel_rfl)
theorem ty97 : TyOk Try.prog 97 ⟨.struct [(0, 94), (1, 95), (2, 3), (3, 4)], 4, .agg #[.slice none 0 0, .map none, .int .i64 0, .bool false], 48, [.slice, .map, .int .i64, .bool]⟩ := tyok (by kernel_rfl) (by kernel_rfl)
theorem ty110 : TyOk Try.prog 110 ⟨.arr 64 5, 64, .agg (List.replicate 64 (.int .u8 0)).toArray, 64, [.bytes 64]⟩ := tyok (by kernel_rfl) (by kernel_rfl)
theorem fn36 : FnOk Try.prog 36 := fnok Try.func36 (by kernel_rfl) (by kernel_rfl)
theorem fn53 : FnOk Try.prog 53 := fnok Try.func53 (by kernel_rfl) (by kernel_rfl)
theorem fn54 : FnOk Try.prog 54 := fnok Try.func54 (by kernel_rfl) (by kernel_rfl)
theorem fn55 : FnOk Try.prog 55 := fnok Try.func55 (by kernel_rfl) (by kernel_rfl)
theorem fn56 : FnOk Try.prog 56 := fnok Try.func56 (by kernel_rfl) (by kernel_rfl)
theorem fn68 : FnOk Try.prog 68 := fnok Try.func68 (by kernel_rfl) (by kernel_rfl)
theorem fn69 : FnOk Try.prog 69 := fnok Try.func69 (by kernel_rfl) (by kernel_rfl)
theorem envOk : EOk Try.prog env := ⟨(by simp only [env, List.forall_mem_cons, List.not_mem_nil, false_implies, implies_true, and_true]; exact ⟨ty3, ty4, ty5, ty22, ty24, ty44, ty60, ty64, ty94, ty95, ty97, ty110⟩), (by simp only [env, List.forall_mem_cons, List.not_mem_nil, false_implies, implies_true, and_true]; exact ⟨fn36, fn53, fn54, fn55, fn56, fn68, fn69⟩), by kernel_rfl, (fun _ h => by cases h)⟩
/-- purser/disk.New -/
def dnew_vc (x0 : Int) (w : World) (K : Value → World → Prop) : Prop :=
  br (decide (x0 < 1)) (
    K (.tuple #[.pointer none, .int .i64 1]) w
  ) (
    br (decide (x0 > 8192)) (
      K (.tuple #[.pointer none, .int .i64 1]) w
    ) (
      (0 : Int) ≤ x0 ∧ x0 ≤ x0 ∧ ((64 : Nat) : Int) * x0 ≤ 281474976710656 ∧ x0 ≤ 9223372036854775807 ∧
      newO w (.cells (madeCells (Value.cells (.agg (List.replicate 64 (.int .u8 0)).toArray)) (x0.toNat * 64)) 110) fun g w_2 =>
      newO w_2 (.map #[] 0) fun g_2 w_3 =>
      newO w_3 (.cells #[.slice (some ⟨g, 0, none⟩) x0.toNat x0.toNat, .map (some g_2), .int .i64 0, .bool false] 97) fun g_3 w_4 =>
      K (.tuple #[.pointer (some ⟨g_3, 0, none⟩), .int .i64 0]) w_4
    )
  )
def dnew_notes : Notes := ⟨[], [], []⟩
theorem dnew_calls (x0 : Int) (w : World) (K : Value → World → Prop) (h : dnew_vc x0 w K) : Calls Try.prog 13 #[.int .i64 x0] w fun e w' => ∃ v, e = .returned v ∧ K v w' :=
  calls_of_fvc envOk Try.func13 dnew_notes [] [.int .i64 x0] w K (use_vc h (by as_aux_lemma => kernel_rfl))
/-- (*purser/disk.Disk).may -/
def dmay_vc (p0 : Option Addr) (x1 : Int) (x2 : Int) (w : World) (K : Value → World → Prop) : Prop :=
  br (Option.isNone p0) (
    K (.int .i64 1) w
  ) (
    withP p0 fun g12 o12 =>
    ∃ (b14 : Bool), w.cell? ⟨g12, o12 + 3, none⟩ = some (.bool b14) ∧
    br b14 (
      K (.int .i64 12) w
    ) (
      br (decide (x1 < 0)) (
        K (.int .i64 1) w
      ) (
        br (decide (x2 < 0)) (
          K (.int .i64 1) w
        ) (
          withP p0 fun g25 o25 =>
          ∃ (a27 : Option Addr) (n27 : Nat) (c27 : Nat), w.cell? ⟨g25, o25, none⟩ = some (.slice a27 n27 c27) ∧
          br (decide (x1 > ((n27 : Nat) : Int))) (
            K (.int .i64 1) w
          ) (
            withP p0 fun g34 o34 =>
            ∃ (a36 : Option Addr) (n36 : Nat) (c36 : Nat), w.cell? ⟨g34, o34, none⟩ = some (.slice a36 n36 c36) ∧
            br (decide (x2 > (IntKind.i64.wrap (((n36 : Nat) : Int) - x1)))) (
              K (.int .i64 1) w
            ) (
              K (.int .i64 0) w
            )
          )
        )
      )
    )
  )
def dmay_notes : Notes := ⟨[], [], []⟩
theorem dmay_calls (p0 : Option Addr) (x1 : Int) (x2 : Int) (w : World) (K : Value → World → Prop) (h : dmay_vc p0 x1 x2 w K) : Calls Try.prog 53 #[.pointer p0, .int .i64 x1, .int .i64 x2] w fun e w' => ∃ v, e = .returned v ∧ K v w' :=
  calls_of_fvc envOk Try.func53 dmay_notes [] [.pointer p0, .int .i64 x1, .int .i64 x2] w K (use_vc h (by as_aux_lemma => kernel_rfl))
/-- (*purser/disk.Disk).Size -/
def dsize_vc (p0 : Option Addr) (w : World) (K : Value → World → Prop) : Prop :=
  br (Option.isNone p0) (
    K (.int .i64 0) w
  ) (
    withP p0 fun g6 o6 =>
    ∃ (a8 : Option Addr) (n8 : Nat) (c8 : Nat), w.cell? ⟨g6, o6, none⟩ = some (.slice a8 n8 c8) ∧
    K (.int .i64 ((n8 : Nat) : Int)) w
  )
def dsize_notes : Notes := ⟨[], [], []⟩
theorem dsize_calls (p0 : Option Addr) (w : World) (K : Value → World → Prop) (h : dsize_vc p0 w K) : Calls Try.prog 58 #[.pointer p0] w fun e w' => ∃ v, e = .returned v ∧ K v w' :=
  calls_of_fvc envOk Try.func58 dsize_notes [] [.pointer p0] w K (use_vc h (by as_aux_lemma => kernel_rfl))
/-- (*purser/disk.Disk).Read -/
def dread_vc (p0 : Option Addr) (x1 : Int) (x2 : Int) (w : World) (K : Value → World → Prop) : Prop :=
  Calls Try.prog 53 #[.pointer p0, .int .i64 x1, .int .i64 x2] w fun e w_2 => KeepG [] w w_2 ∧
  ∃ (x16 : Int),
  e = .returned (.int .i64 x16) ∧
  br (decide (x16 ≠ 0)) (
    K (.tuple #[.slice none 0 0, .int .i64 x16]) w_2
  ) (
    ∃ (I : Option Addr → Nat → Nat → Int → World → Prop) (μ : Option Addr → Nat → Nat → Int → World → Nat),
    I none 0 0 0 w_2 ∧
    ∀ (a9 : Option Addr) (n9 : Nat) (c9 : Nat) (x21 : Int) (w_3 : World), I a9 n9 c9 x21 w_3 →
    br (decide (x21 < x2)) (
      withP p0 fun g26 o26 =>
      ∃ (mb28 : Option Nat), w_3.cell? ⟨g26, o26 + 1, none⟩ = some (.map mb28) ∧
      ∃ bs32_0 : List UInt8, bs32_0.length = 64 ∧
      ∃ b32_ok : Bool,
      (∃ r, MLk w_3 mb28 (IntKind.i64.wrap (x1 + x21)) r ∧ r.getD (.agg (List.replicate 64 (.int .u8 0)).toArray) = (.agg (bs32_0.map bV).toArray) ∧ r.isSome = b32_ok) ∧
      newO w_3 (.cells (List.replicate 64 (.int .u8 0)).toArray 110) fun g w_4 =>
      cond (Nat.beq (bs32_0.map bV).length 64) (cond (allOne (bs32_0.map bV)) (
        stO [] w_4 g 0 (bs32_0.map bV) fun w_5 =>
        br (!b32_ok) (
          withP p0 fun g38 o38 =>
          ∃ (a40 : Option Addr) (n40 : Nat) (c40 : Nat), w_5.cell? ⟨g38, o38, none⟩ = some (.slice a40 n40 c40) ∧
          withP a40 fun g44 o44 =>
          (0 : Int) ≤ IntKind.i64.wrap (x1 + x21) ∧ IntKind.i64.wrap (x1 + x21) < (((n40 : Nat) : Int) : Int) ∧
          ∃ bs45_0 : List UInt8, bs45_0.length = 64 ∧
          cellsAt w_5 g44 (o44 + (IntKind.i64.wrap (x1 + x21)).toNat * 64) (bs45_0.map bV) ∧
          cond (Nat.beq (bs45_0.map bV).length 64) (cond (allOne (bs45_0.map bV)) (
            stO [] w_5 g 0 (bs45_0.map bV) fun w_6 =>
            appO Try.prog [] w_6 5 1 1 22 a9 n9 c9 (.slice (some ⟨g, 0, none⟩) 64 64) fun m48_2 a48_2 c48_2 w_10 =>
            I a48_2 (n9 + m48_2) c48_2 (IntKind.i64.wrap (x21 + 1)) w_10 ∧ μ a48_2 (n9 + m48_2) c48_2 (IntKind.i64.wrap (x21 + 1)) w_10 < μ a9 n9 c9 x21 w_3
          ) False) False
        ) (
          appO Try.prog [] w_5 5 1 1 22 a9 n9 c9 (.slice (some ⟨g, 0, none⟩) 64 64) fun m48_3 a48_3 c48_3 w_11 =>
          I a48_3 (n9 + m48_3) c48_3 (IntKind.i64.wrap (x21 + 1)) w_11 ∧ μ a48_3 (n9 + m48_3) c48_3 (IntKind.i64.wrap (x21 + 1)) w_11 < μ a9 n9 c9 x21 w_3
        )
      ) False) False
    ) (
      K (.tuple #[.slice a9 n9 c9, .int .i64 0]) w_3
    )
  )
def dread_notes : Notes := ⟨[], [(6, ⟨[(9, .lf (.slice)), (21, .lf (.int .i64))], [], [22, 23, 10, 25, 26, 27, 28, 29, 30, 31, 32, 24, 33, 34, 11, 12, 35, 36, 37, 38, 39, 40, 41, 42, 43, 44, 45, 46, 47, 48, 9, 49, 21], []⟩)], []⟩
theorem dread_calls (p0 : Option Addr) (x1 : Int) (x2 : Int) (w : World) (K : Value → World → Prop) (h : dread_vc p0 x1 x2 w K) : Calls Try.prog 18 #[.pointer p0, .int .i64 x1, .int .i64 x2] w fun e w' => ∃ v, e = .returned v ∧ K v w' :=
  calls_of_fvc envOk Try.func18 dread_notes [] [.pointer p0, .int .i64 x1, .int .i64 x2] w K (use_vc h (by as_aux_lemma => kernel_rfl))
/-- (*purser/disk.Disk).put -/
def dput_vc (p0 : Option Addr) (x1 : Int) (a2 : Option Addr) (n2 : Nat) (c2 : Nat) (w : World) (K : Value → World → Prop) : Prop :=
  drewO w fun w_2 =>
  withP p0 fun g8 o8 =>
  ∃ (mb10 : Option Nat), w_2.cell? ⟨g8, o8 + 1, none⟩ = some (.map mb10) ∧
  withP a2 fun g13 o13 =>
  64 ≤ n2 ∧
  ∃ bs14_0 : List UInt8, bs14_0.length = 64 ∧
  cellsAt w_2 g13 o13 (bs14_0.map bV) ∧
  mapO w_2 mb10 (fun m => putM m x1 (.agg (bs14_0.map bV).toArray)) fun w_3 =>
  withP p0 fun g16 o16 =>
  ∃ (x18 : Int), w_3.cell? ⟨g16, o16 + 2, none⟩ = some (.int .i64 x18) ∧
  br (decide (x18 > 0)) (
    withP p0 fun g21 o21 =>
    ∃ (x23 : Int), w_3.cell? ⟨g21, o21 + 2, none⟩ = some (.int .i64 x23) ∧
    withP p0 fun g25 o25 =>
    stO [] w_3 g25 (o25 + 2) [.int .i64 (IntKind.i64.wrap (x23 - 1))] fun w_4 =>
    withP p0 fun g29 o29 =>
    ∃ (x31 : Int), w_4.cell? ⟨g29, o29 + 2, none⟩ = some (.int .i64 x31) ∧
    withP p0 fun g33 o33 =>
    stO [] w_4 g33 (o33 + 3) [.bool (decide (x31 = 0))] fun w_5 =>
    withP p0 fun g36_2 o36_2 =>
    ∃ (b38_2 : Bool), w_5.cell? ⟨g36_2, o36_2 + 3, none⟩ = some (.bool b38_2) ∧
    K (.bool (!b38_2)) w_5
  ) (
    withP p0 fun g36_3 o36_3 =>
    ∃ (b38_3 : Bool), w_3.cell? ⟨g36_3, o36_3 + 3, none⟩ = some (.bool b38_3) ∧
    K (.bool (!b38_3)) w_3
  )
def dput_notes : Notes := ⟨[(1, ⟨[0, 1, 3, 7, 0, 0, 32, 96, 255], [8], [0, 1, 2, 3, 4, 5, 6, 7]⟩)], [], []⟩
theorem dput_calls (p0 : Option Addr) (x1 : Int) (a2 : Option Addr) (n2 : Nat) (c2 : Nat) (w : World) (K : Value → World → Prop) (h : dput_vc p0 x1 a2 n2 c2 w K) : Calls Try.prog 56 #[.pointer p0, .int .i64 x1, .slice a2 n2 c2] w fun e w' => ∃ v, e = .returned v ∧ K v w' :=
  calls_of_fvc envOk Try.func56 dput_notes [] [.pointer p0, .int .i64 x1, .slice a2 n2 c2] w K (use_vc h (by as_aux_lemma => kernel_rfl))
/-- (*purser/disk.Disk).Write -/
def dwrite_vc (p0 : Option Addr) (x1 : Int) (a2 : Option Addr) (n2 : Nat) (c2 : Nat) (w : World) (K : Value → World → Prop) : Prop :=
  (64 : Int) ≠ 0 ∧
  Calls Try.prog 53 #[.pointer p0, .int .i64 x1, .int .i64 (IntKind.i64.wrap (Int.tdiv ((n2 : Nat) : Int) 64))] w fun e w_2 => KeepG [] w w_2 ∧
  ∃ (x15 : Int),
  e = .returned (.int .i64 x15) ∧
  br (decide (x15 ≠ 0)) (
    K (.int .i64 x15) w_2
  ) (
    (64 : Int) ≠ 0 ∧
    br (decide ((Int.tmod ((n2 : Nat) : Int) 64) ≠ 0)) (
      K (.int .i64 1) w_2
    ) (
      Calls Try.prog 55 #[.slice a2 n2 c2, .int .i64 64] w_2 fun e_2 w_3 => KeepG [] w_2 w_3 ∧
      ∃ (v24 : Value),
      e_2 = .returned (v24) ∧
      Calls Try.prog 54 #[v24] w_3 fun e_3 w_4 => KeepG [] w_3 w_4 ∧
      ∃ (a25 : Option Addr) (n25 : Nat) (c25 : Nat),
      e_3 = .returned (.slice a25 n25 c25) ∧
      ∃ (I : Int → World → Prop) (μ : Int → World → Nat),
      I 0 w_4 ∧
      ∀ (x27 : Int) (w_5 : World), I x27 w_5 →
      br (decide (x27 < ((n25 : Nat) : Int))) (
        withP a25 fun g30 o30 =>
        (0 : Int) ≤ x27 ∧ x27 < (((n25 : Nat) : Int) : Int) ∧
        ∃ (a31 : Option Addr) (n31 : Nat) (c31 : Nat), w_5.cell? ⟨g30, o30 + x27.toNat * 1, none⟩ = some (.slice a31 n31 c31) ∧
        Calls Try.prog 56 #[.pointer p0, .int .i64 (IntKind.i64.wrap (x1 + x27)), .slice a31 n31 c31] w_5 fun e_4 w_6 => KeepG [] w_5 w_6 ∧
        ∃ (b37 : Bool),
        e_4 = .returned (.bool b37) ∧
        br (!b37) (
          K (.int .i64 12) w_6
        ) (
          I (IntKind.i64.wrap (x27 + 1)) w_6 ∧ μ (IntKind.i64.wrap (x27 + 1)) w_6 < μ x27 w_5
        )
      ) (
        K (.int .i64 0) w_5
      )
    )
  )
def dwrite_notes : Notes := ⟨[], [(7, ⟨[(27, .lf (.int .i64))], [], [28, 29, 30, 31, 8, 9, 32, 33, 34, 35, 36, 37, 38, 6, 39, 27], []⟩)], []⟩
theorem dwrite_calls (p0 : Option Addr) (x1 : Int) (a2 : Option Addr) (n2 : Nat) (c2 : Nat) (w : World) (K : Value → World → Prop) (h : dwrite_vc p0 x1 a2 n2 c2 w K) : Calls Try.prog 17 #[.pointer p0, .int .i64 x1, .slice a2 n2 c2] w fun e w' => ∃ v, e = .returned v ∧ K v w' :=
  calls_of_fvc envOk Try.func17 dwrite_notes [] [.pointer p0, .int .i64 x1, .slice a2 n2 c2] w K (use_vc h (by as_aux_lemma => kernel_rfl))
/-- (*purser/disk.Disk).Sync -/
def dsync_vc (p0 : Option Addr) (w : World) (K : Value → World → Prop) : Prop :=
  Calls Try.prog 53 #[.pointer p0, .int .i64 0, .int .i64 0] w fun e w_2 => KeepG [] w w_2 ∧
  ∃ (x7 : Int),
  e = .returned (.int .i64 x7) ∧
  br (decide (x7 ≠ 0)) (
    K (.int .i64 x7) w_2
  ) (
    withP p0 fun g12 o12 =>
    ∃ (mb14 : Option Nat), w_2.cell? ⟨g12, o12 + 1, none⟩ = some (.map mb14) ∧
    rngO w_2 mb14 fun g w_3 =>
    ∃ (I : World → Prop) (μ : World → Nat),
    I w_3 ∧
    ∀ (w_4 : World), I w_4 →
    nxtO w_4 g (fun w_5 =>
      withP p0 fun g29 o29 =>
      ∃ (mb31 : Option Nat), w_5.cell? ⟨g29, o29 + 1, none⟩ = some (.map mb31) ∧
      ((mb31 = none ∧
        K (.int .i64 0) w_5
      ) ∨ (mapO w_5 mb31 (fun _ => []) fun w_6 =>
        K (.int .i64 0) w_6
      ))
    ) fun x16_k v16 w_7 =>
    ∃ bs18_0 : List UInt8, bs18_0.length = 64 ∧
    ∃ x18_k : Int,
    IterLast w_7 g x18_k (.agg (bs18_0.map bV).toArray) ∧
    newO w_7 (.cells (List.replicate 64 (.int .u8 0)).toArray 110) fun g_2 w_8 =>
    cond (Nat.beq (bs18_0.map bV).length 64) (cond (allOne (bs18_0.map bV)) (
      stO [] w_8 g_2 0 (bs18_0.map bV) fun w_9 =>
      drewO w_9 fun w_10 =>
      withP p0 fun g22 o22 =>
      ∃ (a24 : Option Addr) (n24 : Nat) (c24 : Nat), w_10.cell? ⟨g22, o22, none⟩ = some (.slice a24 n24 c24) ∧
      ∃ bs26_0 : List UInt8, bs26_0.length = 64 ∧
      cellsAt w_10 g_2 0 (bs26_0.map bV) ∧
      withP a24 fun g27 o27 =>
      (0 : Int) ≤ x18_k ∧ x18_k < (((n24 : Nat) : Int) : Int) ∧
      cond (Nat.beq (bs26_0.map bV).length 64) (cond (allOne (bs26_0.map bV)) (
        stO [] w_10 g27 (o27 + x18_k.toNat * 64) (bs26_0.map bV) fun w_11 =>
        I w_11 ∧ μ w_11 < μ w_4
      ) False) False
    ) False) False
  )
def dsync_notes : Notes := ⟨[(7, ⟨[0, 1, 3, 7, 0, 0, 63, 127], [7], [0, 1, 2, 3, 4, 5, 6]⟩)], [(5, ⟨[], [], [16, 17, 18, 19, 20, 5, 4, 21, 22, 23, 24, 25, 26, 27], []⟩)], []⟩
theorem dsync_calls (p0 : Option Addr) (w : World) (K : Value → World → Prop) (h : dsync_vc p0 w K) : Calls Try.prog 65 #[.pointer p0] w fun e w' => ∃ v, e = .returned v ∧ K v w' :=
  calls_of_fvc envOk Try.func65 dsync_notes [] [.pointer p0] w K (use_vc h (by as_aux_lemma => kernel_rfl))
/-- (*purser/disk.Disk).Dirty -/
def ddirty_vc (p0 : Option Addr) (w : World) (K : Value → World → Prop) : Prop :=
  br (Option.isNone p0) (
    K (.slice none 0 0) w
  ) (
    withP p0 fun g6 o6 =>
    ∃ (mb8 : Option Nat), w.cell? ⟨g6, o6 + 1, none⟩ = some (.map mb8) ∧
    Calls Try.prog 69 #[.map mb8] w fun e w_2 => KeepG [] w w_2 ∧
    ∃ (v9 : Value),
    e = .returned (v9) ∧
    Calls Try.prog 68 #[v9] w_2 fun e_2 w_3 => KeepG [] w_2 w_3 ∧
    ∃ (a10 : Option Addr) (n10 : Nat) (c10 : Nat),
    e_2 = .returned (.slice a10 n10 c10) ∧
    K (.slice a10 n10 c10) w_3
  )
def ddirty_notes : Notes := ⟨[], [], []⟩
theorem ddirty_calls (p0 : Option Addr) (w : World) (K : Value → World → Prop) (h : ddirty_vc p0 w K) : Calls Try.prog 36 #[.pointer p0] w fun e w' => ∃ v, e = .returned v ∧ K v w' :=
  calls_of_fvc envOk Try.func36 ddirty_notes [] [.pointer p0] w K (use_vc h (by as_aux_lemma => kernel_rfl))
/-- (*purser/disk.Disk).Cut -/
def dcut_vc (p0 : Option Addr) (x1 : Int) (w : World) (K : Value → World → Prop) : Prop :=
  br (!(Option.isNone p0)) (
    withP p0 fun g9 o9 =>
    stO [] w g9 (o9 + 2) [.int .i64 (max x1 0)] fun w_2 =>
    K (.tuple #[]) w_2
  ) (
    K (.tuple #[]) w
  )
def dcut_notes : Notes := ⟨[], [], []⟩
theorem dcut_calls (p0 : Option Addr) (x1 : Int) (w : World) (K : Value → World → Prop) (h : dcut_vc p0 x1 w K) : Calls Try.prog 37 #[.pointer p0, .int .i64 x1] w fun e w' => ∃ v, e = .returned v ∧ K v w' :=
  calls_of_fvc envOk Try.func37 dcut_notes [] [.pointer p0, .int .i64 x1] w K (use_vc h (by as_aux_lemma => kernel_rfl))
/-- (*purser/disk.Disk).Off -/
def doff_vc (p0 : Option Addr) (w : World) (K : Value → World → Prop) : Prop :=
  br (Option.isNone p0) (
    K (.bool true) w
  ) (
    withP p0 fun g7 o7 =>
    ∃ (b9 : Bool), w.cell? ⟨g7, o7 + 3, none⟩ = some (.bool b9) ∧
    K (.bool b9) w
  )
def doff_notes : Notes := ⟨[], [], []⟩
theorem doff_calls (p0 : Option Addr) (w : World) (K : Value → World → Prop) (h : doff_vc p0 w K) : Calls Try.prog 38 #[.pointer p0] w fun e w' => ∃ v, e = .returned v ∧ K v w' :=
  calls_of_fvc envOk Try.func38 doff_notes [] [.pointer p0] w K (use_vc h (by as_aux_lemma => kernel_rfl))
/-- (*purser/disk.Disk).Crash -/
def dcrash_vc (p0 : Option Addr) (a1 : Option Addr) (n1 : Nat) (c1 : Nat) (w : World) (K : Value → World → Prop) : Prop :=
  br (Option.isNone p0) (
    K (.tuple #[]) w
  ) (
    Calls Try.prog 36 #[.pointer p0] w fun e w_2 => KeepG [] w w_2 ∧
    ∃ (a9 : Option Addr) (n9 : Nat) (c9 : Nat),
    e = .returned (.slice a9 n9 c9) ∧
    ∃ (I : Int → World → Prop) (μ : Int → World → Nat),
    I 0 w_2 ∧
    ∀ (x11 : Int) (w_3 : World), I x11 w_3 →
    br (decide (x11 < ((n9 : Nat) : Int))) (
      withP a9 fun g14 o14 =>
      (0 : Int) ≤ x11 ∧ x11 < (((n9 : Nat) : Int) : Int) ∧
      ∃ (x15 : Int), w_3.cell? ⟨g14, o14 + x11.toNat * 1, none⟩ = some (.int .i64 x15) ∧
      br (decide (x11 < ((n1 : Nat) : Int))) (
        withP a1 fun g23 o23 =>
        (0 : Int) ≤ x11 ∧ x11 < (((n1 : Nat) : Int) : Int) ∧
        ∃ (b24 : Bool), w_3.cell? ⟨g23, o23 + x11.toNat * 1, none⟩ = some (.bool b24) ∧
        br b24 (
          drewO w_3 fun w_4 =>
          withP p0 fun g27 o27 =>
          ∃ (a29 : Option Addr) (n29 : Nat) (c29 : Nat), w_4.cell? ⟨g27, o27, none⟩ = some (.slice a29 n29 c29) ∧
          withP p0 fun g32 o32 =>
          ∃ (mb34 : Option Nat), w_4.cell? ⟨g32, o32 + 1, none⟩ = some (.map mb34) ∧
          ∃ bs36_0 : List UInt8, bs36_0.length = 64 ∧
          (∃ r, MLk w_4 mb34 x15 r ∧ r.getD (.agg (List.replicate 64 (.int .u8 0)).toArray) = (.agg (bs36_0.map bV).toArray)) ∧
          withP a29 fun g37 o37 =>
          (0 : Int) ≤ x15 ∧ x15 < (((n29 : Nat) : Int) : Int) ∧
          cond (Nat.beq (bs36_0.map bV).length 64) (cond (allOne (bs36_0.map bV)) (
            stO [] w_4 g37 (o37 + x15.toNat * 64) (bs36_0.map bV) fun w_5 =>
            I (IntKind.i64.wrap (x11 + 1)) w_5 ∧ μ (IntKind.i64.wrap (x11 + 1)) w_5 < μ x11 w_3
          ) False) False
        ) (
          I (IntKind.i64.wrap (x11 + 1)) w_3 ∧ μ (IntKind.i64.wrap (x11 + 1)) w_3 < μ x11 w_3
        )
      ) (
        I (IntKind.i64.wrap (x11 + 1)) w_3 ∧ μ (IntKind.i64.wrap (x11 + 1)) w_3 < μ x11 w_3
      )
    ) (
      withP p0 fun g40 o40 =>
      ∃ (mb42 : Option Nat), w_3.cell? ⟨g40, o40 + 1, none⟩ = some (.map mb42) ∧
      ((mb42 = none ∧
        withP p0 fun g45 o45 =>
        stO [] w_3 g45 (o45 + 2) [.int .i64 0] fun w_7 =>
        withP p0 fun g47 o47 =>
        stO [] w_7 g47 (o47 + 3) [.bool false] fun w_8 =>
        K (.tuple #[]) w_8
      ) ∨ (mapO w_3 mb42 (fun _ => []) fun w_9 =>
        withP p0 fun g45_2 o45_2 =>
        stO [] w_9 g45_2 (o45_2 + 2) [.int .i64 0] fun w_10 =>
        withP p0 fun g47_2 o47_2 =>
        stO [] w_10 g47_2 (o47_2 + 3) [.bool false] fun w_11 =>
        K (.tuple #[]) w_11
      ))
    )
  )
def dcrash_notes : Notes := ⟨[(5, ⟨[0, 1, 3, 7, 0, 0, 32, 96, 224, 0, 992, 2047, 4095], [12], [0, 1, 2, 3, 4, 5, 6, 7, 8, 9, 10, 11]⟩)], [(2, ⟨[(11, .lf (.int .i64))], [], [12, 13, 14, 15, 4, 5, 16, 17, 18, 19, 20, 21, 22, 23, 24, 25, 26, 27, 28, 29, 30, 31, 32, 33, 34, 35, 36, 37, 38, 11], []⟩)], []⟩
theorem dcrash_calls (p0 : Option Addr) (a1 : Option Addr) (n1 : Nat) (c1 : Nat) (w : World) (K : Value → World → Prop) (h : dcrash_vc p0 a1 n1 c1 w K) : Calls Try.prog 39 #[.pointer p0, .slice a1 n1 c1] w fun e w' => ∃ v, e = .returned v ∧ K v w' :=
  calls_of_fvc envOk Try.func39 dcrash_notes [] [.pointer p0, .slice a1 n1 c1] w K (use_vc h (by as_aux_lemma => kernel_rfl))
end GDk
end Go.Proofs.Ytpfmadinijofeaa
end
section
/- The sorted keys of a disk's cache: the library's contracts at this program. -/
namespace Go.Proofs.Ytpfmadinijofeaa
open Go.RowKit Go.Maps Go.Sort Go.Shelf
shelf_lay_g SlLaysZI.n7 Ggz 7 at Try 69 as Try.keysDisk
shelf_lay_g SlLaysZI.n6 Ggz 6 at Try 68 as Try.sortedI
shelf_lay_g SlLaysM.n5 Slgm 5 at Try 85 as Try.sortI
theorem sortsID (m : Nat) : AnyZI.SortsIn Try.prog Try.sortedI_ren Fence.wide m :=
  ⟨fun blk off cap ss W hH hblk hsz => callsIn_wide.2 (AnyM.slices_Sort_int Try.sortI blk off cap ss W hH hblk hsz),
   fun p cap W => callsIn_wide.2 (AnyM.slices_Sort_int_none Try.sortI p cap W)⟩
theorem keysDisk_calls (mb : Option Nat) (w : World) : Calls Try.prog 69 #[.map mb] w fun e w' => e = .returned (.func (.func 86) #[] #[.pointer (some ⟨w.heap.size, 0, none⟩)]) ∧ w' = w.alloc (.cells #[.map mb] 95) :=
  (callsIn_wide (n := 5)).1 (AnyZI.keys_in Try.keysDisk Fence.wide 5 trivial rfl mb w)
theorem sortDisk_calls (w : World) (Bm b : Nat) (m : List (Int × Value)) (hBm : Bm < w.heap.size) (hc : w.cell? ⟨Bm, 0, none⟩ = some (.map (some b))) (h : MapAt w b m)
    (hr : ∀ p ∈ m, -9223372036854775808 ≤ p.1 ∧ p.1 ≤ 9223372036854775807) (hl : m.length ≤ 1000000) :
    Calls Try.prog 68 #[.func (.func 86) #[] #[.pointer (some ⟨Bm, 0, none⟩)]] w fun e w' => ∃ a c, e = .returned (.slice a (sortK m).length c) ∧
      Own w' w.heap.size 3 1 (.slice a (sortK m).length c) (sortK m).length ((sortK m).map (Value.int .i64)) ∧ (a = none ↔ sortK m = []) ∧ Below w.heap.size w w' :=
  sortK_calls (ρK := Try.keysDisk_ren) (ρS := Try.sortedI_ren) { Try.keysDisk with } Try.sortedI Try.underlying3 (sortsID 4) (enters_of Try.func85 (by kernel_rfl) rfl) (enters_of Try.func86 (by kernel_rfl) rfl) w Bm b m hBm hc h hr hl
/-- 'slices.Sorted(maps.Keys(m))': a new slice with the keys, ascending. -/
theorem keysDisk_new {w : World} {mb : Nat} {m : List (Int × Value)} (h : MapAt w mb m) (hr : ∀ p ∈ m, -9223372036854775808 ≤ p.1 ∧ p.1 ≤ 9223372036854775807) (hl : m.length ≤ 1000000) {gs : List Nat} {w0 : World} {K : Value → World → Prop} (B : Bs w0 w)
    (k : ∀ a c w2, Own w2 w.heap.size 3 1 (.slice a (sortK m).length c) (sortK m).length ((sortK m).map (Value.int .i64)) → (a = none ↔ sortK m = []) → Below w.heap.size w w2 → Bs w0 w2 → K (.slice a (sortK m).length c) w2) :
    Calls Try.prog 69 #[.map (some mb)] w fun e w1 => KeepG gs w w1 ∧ ∃ v : Value, e = .returned v ∧ Calls Try.prog 68 #[v] w1 fun e w2 => KeepG gs w1 w2 ∧ ∃ (a : Option Addr) (n c : Nat), e = .returned (.slice a n c) ∧ K (.slice a n c) w2 := by
  refine (keysDisk_calls (some mb) w).mono ?_
  rintro e w1 ⟨rfl, rfl⟩
  have b1 : Below w.heap.size w (w.alloc (.cells #[.map (some mb)] 95)) := Below_one _
  refine ⟨keepG_below b1, _, rfl, ?_⟩
  have hc : (w.alloc (.cells #[.map (some mb)] 95)).cell? ⟨w.heap.size, 0, none⟩ = some (.map (some mb)) := by rw [cell_of_row _ _ _ _ _ _ (al_new rfl)]; rfl
  refine (sortDisk_calls _ w.heap.size mb m (by simp) hc (h.below b1) hr hl).mono ?_
  rintro e w2 ⟨a, c, rfl, ho, hn, hb⟩
  have hb' : Below w.heap.size w w2 := b1.trans (hb.mono b1.size)
  exact ⟨keepG_below hb, _, _, _, rfl, k a c w2 (ho.base_le fun j hj => Nat.le_trans b1.size (ho.lt j hj).1) hn hb' (B.to hb')⟩
end Go.Proofs.Ytpfmadinijofeaa
end
section
/- 'slices.Collect(slices.Chunk(b, 64))' where b's length is a multiple of 64: the pieces, one behind the other; walked. -/
namespace Go.Proofs.Ytpfmadinijofeaa
open Go.RowKit Go.Shelf
attribute [local go_sem] Oper.semAt_some
/-- The k-th piece. -/
def pieceV (g off k : Nat) : Value := .slice (some ⟨g, off + k * 64, none⟩) 64 64
set_option maxRecDepth 100000 in
set_option maxHeartbeats 4000000 in
theorem chunk1_in (F : Fence) (n : Nat) (hf : F.fn 76) (hro : F.round = none) (hn : 1 ≤ n) (l Bs Bn n₀ g off c m : Nat) (a : Option Addr) (ha : 0 < m → a = some ⟨g, off, none⟩) (hm : m ≤ 1000000) (hcap : m * 64 ≤ c) (hBs0 : Bs < n₀) (hBn0 : Bn < n₀) (J Jx : List Nat → World → Prop)
    (hJ : ∀ s A, J s A → J s A.drew) (hY : ∀ pre x W, J pre W → pre.length < m → YieldAt F (n - 1) Try.prog l #[pieceV g off x] W fun e W' =>
      (e = .returned (.bool true) ∧ J (pre ++ [x]) W' ∧ Below n₀ W W') ∨ (e = .returned (.bool false) ∧ Jx (pre ++ [x]) W'))
    (W : World) (hBs : W.cell? ⟨Bs, 0, none⟩ = some (.slice a (m * 64) c)) (hBn : W.cell? ⟨Bn, 0, none⟩ = some (.int .i64 64)) (h0 : J [] W) :
    CallsIn F n Try.prog 76 #[.func (.yield l) #[] #[], .pointer (some ⟨Bs, 0, none⟩), .pointer (some ⟨Bn, 0, none⟩)] W fun e W' => (∃ v, e = .returned v) ∧
      ((∃ ys, ys = List.range m ∧ J ys W') ∨ (∃ pre, True ∧ Jx pre W')) := by
  refine callsIn_of_wp Try.func76 rfl hf ?_ hro
  simp only [Try.ntmps76, List.size_toArray, List.length_cons, List.length_nil, Nat.reduceAdd, Nat.reduceSub, Array.replicate_succ, Array.replicate_zero, List.push_toArray, List.append_toArray, List.nil_append, List.cons_append]
  gi_wp2
  gi_loopw [4] (fun i wr => ∃ k : Nat, k ≤ m ∧ i = .int .i64 ((k * 64 : Nat) : Int) ∧ J (List.range k) wr ∧ Below n₀ W wr)
    (fun i _ => m * 64 - (intOf i).toNat)
  case atStart => exact ⟨0, Nat.zero_le _, rfl, h0, Below.refl _ _⟩
  case round =>
    obtain ⟨k, hk, rfl, hJs, hnx⟩ := hrel
    have hcs : wr.cell? ⟨Bs, 0, none⟩ = some (.slice a (m * 64) c) := (hnx.cell (p := ⟨Bs, 0, none⟩) hBs0).trans hBs
    have hcn : wr.cell? ⟨Bn, 0, none⟩ = some (.int .i64 64) := (hnx.cell (p := ⟨Bn, 0, none⟩) hBn0).trans hBn
    by_cases hlt : k < m
    · obtain rfl := ha (by omega)
      obtain ⟨fn, tmps, assign, body, hy, hR⟩ := hY _ k wr.drew (hJ _ _ hJs) (by rw [List.length_range]; exact hlt)
      unfold pieceV at hy
      have hd1 : wr.drew.cell? ⟨Bs, 0, none⟩ = some (.slice (some ⟨g, off, none⟩) (m * 64) c) := hcs
      have hd2 : wr.drew.cell? ⟨Bn, 0, none⟩ = some (.int .i64 64) := hcn
      gi_wp2
      gi_region
      all_goals (first | simp only [if_neg (show ¬ (((m * 64 - k * 64 : Nat)) : Int) < 64 by omega)] | simp only [Int.min_eq_left (show (64 : Int) ≤ (((m * 64 - k * 64 : Nat)) : Int) by omega)])
      all_goals gi_wp2
      all_goals (
        refine hR.mono ?_
        rintro e W3 (⟨rfl, hJ3, hk3⟩ | ⟨rfl, hJx3⟩)
        · have hcn3 : W3.cell? ⟨Bn, 0, none⟩ = some (.int .i64 64) := (hk3.cell (p := ⟨Bn, 0, none⟩) hBn0).trans hcn
          have hdr : Below n₀ W wr.drew := ⟨hnx.os, hnx.tape, hnx.output, hnx.size, hnx.block⟩
          gi_wp2
          go_roundw
          case rel => exact ⟨k + 1, by omega, by simp; omega, by rw [List.range_succ]; exact hJ3, hdr.trans hk3⟩
          case measure => simp [intOf]; omega
        · gi_wp2
          refine bodyPost_ret (results_none rfl _ _ _) rfl ?_
          exact ⟨⟨_, rfl⟩, .inr ⟨_, trivial, hJx3⟩⟩)
    · obtain rfl : k = m := by omega
      gi_wp2
      go_end0
      exact ⟨⟨_, rfl⟩, .inl ⟨_, rfl, hJs⟩⟩
set_option maxHeartbeats 1000000 in
theorem chunk_in (F : Fence) (n : Nat) (hf : F.fn 55) (hro : F.round = none) (a : Option Addr) (len cap : Nat) (w : World) :
    CallsIn F n Try.prog 55 #[.slice a len cap, .int .i64 64] w fun e w' => e = .returned (.func (.func 76) #[] #[.pointer (some ⟨w.heap.size, 0, none⟩), .pointer (some ⟨w.heap.size + 1, 0, none⟩)]) ∧
      w' = (w.alloc (.cells #[.slice a len cap] 22)).alloc (.cells #[.int .i64 64] 3) := by
  refine callsIn_of_wp Try.func55 rfl hf ?_ hro
  simp only [Try.ntmps55, List.size_toArray, List.length_cons, List.length_nil, Nat.reduceAdd, Nat.reduceSub, Array.replicate_succ, Array.replicate_zero, List.push_toArray, List.append_toArray, List.nil_append, List.cons_append]
  gi_wp2
  go_ret
  exact ⟨by simp, rfl⟩
theorem chunk_stops (F : Fence) (n : Nat) (hf : F.fn 76) (hro : F.round = none) (hn : 1 ≤ n) (Bs Bn n₀ g off c m : Nat) (a : Option Addr) (ha : 0 < m → a = some ⟨g, off, none⟩) (hm : m ≤ 1000000) (hcap : m * 64 ≤ c) (hBs0 : Bs < n₀) (hBn0 : Bn < n₀) (w : World) (hn₀ : n₀ ≤ w.heap.size)
    (hBs : w.cell? ⟨Bs, 0, none⟩ = some (.slice a (m * 64) c)) (hBn : w.cell? ⟨Bn, 0, none⟩ = some (.int .i64 64)) :
    SeqStopsK F n Try.prog 76 #[.pointer (some ⟨Bs, 0, none⟩), .pointer (some ⟨Bn, 0, none⟩)] (fun k : Nat => #[.slice (some ⟨g, off + k * 64, none⟩) 64 64]) (Below n₀) (fun ys => ys = List.range m) (fun _ => True) m w := fun l J Jx W hW hJ _ hY h0 =>
  chunk1_in F n hf hro hn l Bs Bn n₀ g off c m a ha hm hcap hBs0 hBn0 J Jx (fun s A h => hJ s A A.drew none h ⟨rfl, rfl, rfl, Nat.le_refl _, fun _ _ _ => rfl⟩ (fun r e => by cases e)) hY W
    ((hW.cell (p := ⟨Bs, 0, none⟩) (by show Bs < _; omega)).trans hBs) ((hW.cell (p := ⟨Bn, 0, none⟩) (by show Bn < _; omega)).trans hBn) h0
theorem infoB : (Try.prog.info? 22).map (fun i => (i.zero, i.size, i.bytes)) = some (some (.slice none 0 0), 1, 24) := by kernel_rfl
set_option maxRecDepth 100000 in
set_option maxHeartbeats 2000000 in
theorem appSeq_in (F : Fence) (n : Nat) (hA : F.fn 75) (hf : F.fn 76) (hro : F.round = none) (hn : 3 ≤ n) (Bs Bn g off c m : Nat) (a : Option Addr) (ha : 0 < m → a = some ⟨g, off, none⟩) (hm : m ≤ 1000000) (hcap : m * 64 ≤ c) (w : World) (hBs0 : Bs < w.heap.size) (hBn0 : Bn < w.heap.size)
    (hBs : w.cell? ⟨Bs, 0, none⟩ = some (.slice a (m * 64) c)) (hBn : w.cell? ⟨Bn, 0, none⟩ = some (.int .i64 64)) :
    CallsIn F n Try.prog 75 #[.slice none 0 0, .func (.func 76) #[] #[.pointer (some ⟨Bs, 0, none⟩), .pointer (some ⟨Bn, 0, none⟩)]] w fun e W' => ∃ v, e = .returned v ∧ W'.ownsRow w.heap.size 22 1 v m ((List.range m).map (pieceV g off)) ∧ (v = .slice none 0 0 ↔ m = 0) ∧ Below w.heap.size w W' := by
  have h1 : 1 ≤ n := by omega
  obtain ⟨i0, hi, hz0, hz1, hz2⟩ := info_parts infoB
  refine callsIn_of_wp_marks Try.func75 rfl hA ?_ hro
  simp only [Try.ntmps75, List.size_toArray, List.length_cons, List.length_nil, Nat.reduceAdd, Nat.reduceSub, Array.replicate_succ, Array.replicate_zero, List.push_toArray, List.append_toArray, List.nil_append, List.cons_append]
  gi_wp2
  have bO := Boxed.new w 44 (.slice none 0 0)
  have hB0 : Below w.heap.size w (w.alloc (.cells #[.slice none 0 0] 44)) := (Below.refl _ w).alloc (Nat.le_refl _) _
  refine wpIn_rangeFunc_ownG hro h1 (gf := 76) (lb := #[.pointer (some ⟨Bs, 0, none⟩), .pointer (some ⟨Bn, 0, none⟩)]) rfl hf (enters_of Try.func76 (by kernel_rfl) rfl)
    (chunk_stops F (n - 1) hf hro (by omega) Bs Bn w.heap.size g off c m a ha hm hcap hBs0 hBn0 _ (by simp) ((hB0.cell (p := ⟨Bs, 0, none⟩) hBs0).trans hBs) ((hB0.cell (p := ⟨Bn, 0, none⟩) hBn0).trans hBn)) belowK_t (belowK_b (by simp)) (Below.refl _ _) (fun _ => rfl)
    (fun pre W => (∃ v, Boxed W w.heap.size 44 v ∧ W.ownsRow w.heap.size 22 1 v pre.length (pre.map (pieceV g off)) ∧ (v = .slice none 0 0 ↔ pre = [])) ∧ Below w.heap.size w W)
    (fun _ _ _ => False)
    (OwnFrom.and (Own.from (holdsRow_own w.heap.size w.heap.size 44 22 1 (fun pre => pre.length) (fun pre => pre.map (pieceV g off)) (fun pre v => v = .slice none 0 0 ↔ pre = [])) _) (ownFrom_below (Nat.le_refl _) (by simp)))
    (fun _ _ _ _ _ hs _ _ => hs)
    ⟨⟨_, bO, World.ownsRow_nil _ _ _ _, by simp⟩, hB0⟩
    (fun x => { tmps := #[.slice none 0 0, .func (.func 76) #[] #[.pointer (some ⟨Bs, 0, none⟩), .pointer (some ⟨Bn, 0, none⟩)], .pointer (some ⟨w.heap.size, 0, none⟩), undef, .slice none 0 0, .slice (some ⟨g, off + x * 64, none⟩) 64 64, .func (.func 76) #[] #[.pointer (some ⟨Bs, 0, none⟩), .pointer (some ⟨Bn, 0, none⟩)], Value.slice (some ⟨g, off + x * 64, none⟩) 64 64, undef, undef, undef, undef, undef], defers := [] }) ?assign ?body ?done ?stop
  case assign =>
    intro l x W K hK
    gi_wp2
    exact hK
  case body =>
    rintro l pre x W ⟨⟨v, hv, hrow, hnil⟩, hB⟩ hlt
    have hc := hv.cell
    gi_wp2_with (gi_at_builtin; refine wpListIn_append_own _ rfl _ _ 44 rfl w.heap.size 22 i0 (.slice none 0 0) 1 24 Try.underlying44 hi hz0 hz1 hz2 rfl (by decide) _ _ _ rfl (hrow.alloc _) ⟨W.heap.size, 0, none⟩ 1 1 [.slice (some ⟨g, off + x * 64, none⟩) 64 64] rfl rfl (cell_one_new _ _ _) (by simp [Value.oneCell']) (by unfold maxLen; omega) (by omega) (by have := hB.size; simp; omega) ?_; intro v' w1 hown' hgrow _; obtain ⟨g', cap', rfl⟩ := ownsRow_succ hown'; obtain ⟨hv1, hv2, hr2, hk2, hb2⟩ := hv.appended (by decide) hrow hB.size (Nat.le_refl _) hown' hgrow; have hc1 := hv1.cell; have hf1 := hv1.frozen)
    exact ⟨hk2.from _, hb2, ⟨_, hv2, by simpa [pieceV] using hr2, by simp⟩, hB.trans hb2⟩
  case done =>
    rintro D ys W hD rfl ⟨⟨v, hv, hrow, hnil⟩, hB⟩ hK
    have hc := hv.cell
    gi_wp2
    refine ⟨by simp, .inl ⟨_, _, rfl, run_takeDeferred hK, ?_⟩⟩
    exact ⟨_, results_tmp rfl _ _ _, v, rfl, by have := ownsRow_putObj hrow (.deferred none) hK rfl; rwa [List.length_range] at this, by rw [hnil]; simp, hB.trans (belowK_b (w := w) (Nat.le_refl _) W D _ _ (by simp at hD; omega) hK rfl rfl)⟩
  case stop =>
    rintro D c pre W _ _ h _
    exact h.elim
set_option maxHeartbeats 1000000 in
theorem collectB_in (F : Fence) (n : Nat) (hC : F.fn 54) (hA : F.fn 75) (hf : F.fn 76) (hro : F.round = none) (hn : 4 ≤ n) (Bs Bn g off c m : Nat) (a : Option Addr) (ha : 0 < m → a = some ⟨g, off, none⟩) (hm : m ≤ 1000000) (hcap : m * 64 ≤ c) (w : World) (hBs0 : Bs < w.heap.size) (hBn0 : Bn < w.heap.size)
    (hBs : w.cell? ⟨Bs, 0, none⟩ = some (.slice a (m * 64) c)) (hBn : w.cell? ⟨Bn, 0, none⟩ = some (.int .i64 64)) :
    CallsIn F n Try.prog 54 #[.func (.func 76) #[] #[.pointer (some ⟨Bs, 0, none⟩), .pointer (some ⟨Bn, 0, none⟩)]] w fun e W' => ∃ v, e = .returned v ∧ W'.ownsRow w.heap.size 22 1 v m ((List.range m).map (pieceV g off)) ∧ (v = .slice none 0 0 ↔ m = 0) ∧ Below w.heap.size w W' := by
  have h1 : 1 ≤ n := by omega
  refine callsIn_of_wp Try.func54 rfl hC ?_ hro
  simp only [Try.ntmps54, List.size_toArray, List.length_cons, List.length_nil, Nat.reduceAdd, Nat.reduceSub, Array.replicate_succ, Array.replicate_zero, List.push_toArray, List.append_toArray, List.nil_append, List.cons_append]
  gi_wp2_with (gi_at_call 75; refine (appSeq_in F (n - 1) hA hf hro (by omega) Bs Bn g off c m a ha hm hcap _ hBs0 hBn0 hBs hBn).mono ?_; rintro e w' ⟨v, rfl, hrow, hnil, hb⟩)
  go_ret
  exact ⟨v, rfl, hrow, hnil, hb⟩
end Go.Proofs.Ytpfmadinijofeaa
end
section
/- The program's disk: what it holds, what reads it; walked. -/
namespace Go.Proofs.Ytpfmadinijofeaa
open Go.RowKit
structure DkAt (w : World) (g gl mb : Nat) (S : DS) : Prop where
  blk : Bk w g #[.slice (some ⟨gl, 0, none⟩) S.n S.n, .map (some mb), .int .i64 S.left, .bool S.off] 97
  lst : Bk w gl (sArr S.n 64 fun i => (S.last i).map bV) 110
  map : ∃ m, MapAt w mb m ∧ ∀ k, lkM m k = cD S k
theorem allOne_b : ∀ bs : List UInt8, allOne (bs.map bV) = true
  | [] => rfl
  | b :: r => by
    rw [List.map_cons, allOne, allOne_b r]
    rfl
theorem condB {bs : List UInt8} (h : bs.length = 64) {A : Prop} (hA : A) : cond (Nat.beq (bs.map bV).length 64) (cond (allOne (bs.map bV)) A False) False := by
  rw [List.length_map, h, allOne_b]
  exact hA
theorem zero_sec : Value.agg (List.replicate 64 (.int .u8 0)).toArray = secV zero64 := by
  unfold secV zero64
  rw [List.map_replicate]
  rfl
section
variable {w w1 : World} {g gl mb : Nat} {S : DS}
theorem DkAt.c0 (h : DkAt w g gl mb S) : w.cell? ⟨g, 0, none⟩ = some (.slice (some ⟨gl, 0, none⟩) S.n S.n) := by rw [h.blk.cell]; rfl
theorem DkAt.c1 (h : DkAt w g gl mb S) : w.cell? ⟨g, 0 + 1, none⟩ = some (.map (some mb)) := by rw [h.blk.cell]; rfl
theorem DkAt.c2 (h : DkAt w g gl mb S) : w.cell? ⟨g, 0 + 2, none⟩ = some (.int .i64 S.left) := by rw [h.blk.cell]; rfl
theorem DkAt.c3 (h : DkAt w g gl mb S) : w.cell? ⟨g, 0 + 3, none⟩ = some (.bool S.off) := by rw [h.blk.cell]; rfl
theorem DkAt.lt (h : DkAt w g gl mb S) : g < w.heap.size ∧ gl < w.heap.size ∧ mb < w.heap.size := by
  obtain ⟨m, hm, _⟩ := h.map
  exact ⟨h.blk.lt, h.lst.lt, hm.lt⟩
theorem DkAt.ne (h : DkAt w g gl mb S) : g ≠ gl ∧ g ≠ mb ∧ gl ≠ mb := by
  obtain ⟨m, hm, _⟩ := h.map
  exact ⟨h.blk.ne h.lst (by decide), hm.ne_cells h.blk, hm.ne_cells h.lst⟩
theorem DkAt.keep (h : DkAt w g gl mb S) (h1 : w1.heap[g]? = w.heap[g]?) (h2 : w1.heap[gl]? = w.heap[gl]?) (h3 : w1.heap[mb]? = w.heap[mb]?) : DkAt w1 g gl mb S := by
  obtain ⟨m, hm, hl⟩ := h.map
  exact ⟨h.blk.keep h1, h.lst.keep h2, m, hm.keep h3, hl⟩
theorem DkAt.below (h : DkAt w g gl mb S) (b : Below w.heap.size w w1) : DkAt w1 g gl mb S := h.keep (b.block g h.lt.1) (b.block gl h.lt.2.1) (b.block mb h.lt.2.2)
theorem DkAt.fr {L : List Nat} (h : DkAt w g gl mb S) (b : Fr L w w1) (h1 : g ∉ L) (h2 : gl ∉ L) (h3 : mb ∉ L) : DkAt w1 g gl mb S := h.keep (b.block g h.lt.1 h1) (b.block gl h.lt.2.1 h2) (b.block mb h.lt.2.2 h3)
theorem DkAt.hit (h : DkAt w g gl mb S) {k : Nat} {s : List UInt8} (hk : S.cch k = some s) : ∃ r, MLk w (some mb) (k : Int) r ∧ r.getD (.agg (List.replicate 64 (.int .u8 0)).toArray) = .agg (s.map bV).toArray ∧ r.isSome = true := by
  obtain ⟨m, hm, hl⟩ := h.map
  exact ⟨_, ⟨m, hm, rfl⟩, by rw [hl, cD_nat, hk]; rfl, by rw [hl, cD_nat, hk]; rfl⟩
theorem DkAt.miss (h : DkAt w g gl mb S) {k : Nat} (hk : S.cch k = none) : ∃ r, MLk w (some mb) (k : Int) r ∧ r.getD (.agg (List.replicate 64 (.int .u8 0)).toArray) = .agg (zero64.map bV).toArray ∧ r.isSome = false := by
  obtain ⟨m, hm, hl⟩ := h.map
  exact ⟨_, ⟨m, hm, rfl⟩, by rw [hl, cD_nat, hk]; exact zero_sec, by rw [hl, cD_nat, hk]; rfl⟩
theorem DkAt.secs (h : DkAt w g gl mb S) (hW : DWf S) {i : Nat} (hi : i < S.n) : cellsAt w gl (0 + i * 64) ((S.last i).map bV) := by
  rw [Nat.zero_add]
  exact sArr_cells h.lst hi (by rw [List.length_map, hW.last])
/-! What changes it. -/
theorem DkAt.setLeft (h : DkAt w g gl mb S) (l : Int) {gs : List Nat} (hg : ∀ x ∈ gs, x ≠ g) {K : World → Prop} (k : ∀ w1, DkAt w1 g gl mb ⟨S.n, S.last, S.cch, l, S.off⟩ → Fr [g] w w1 → w1.heap.size = w.heap.size → K w1) : stO gs w g (0 + 2) [.int .i64 l] K := by
  obtain ⟨n1, n2, n3⟩ := h.ne
  obtain ⟨m, hm, hl⟩ := h.map
  exact stO_bk h.blk (by simp) hg fun w1 h1 f1 z1 => k w1 ⟨h1, h.lst.fr1 f1 (fun e => n1 e.symm), m, hm.fr f1 (by rw [List.mem_singleton]; exact fun e => n2 e.symm), hl⟩ f1 z1
theorem DkAt.setOff (h : DkAt w g gl mb S) (b : Bool) {gs : List Nat} (hg : ∀ x ∈ gs, x ≠ g) {K : World → Prop} (k : ∀ w1, DkAt w1 g gl mb ⟨S.n, S.last, S.cch, S.left, b⟩ → Fr [g] w w1 → w1.heap.size = w.heap.size → K w1) : stO gs w g (0 + 3) [.bool b] K := by
  obtain ⟨n1, n2, n3⟩ := h.ne
  obtain ⟨m, hm, hl⟩ := h.map
  exact stO_bk h.blk (by simp) hg fun w1 h1 f1 z1 => k w1 ⟨h1, h.lst.fr1 f1 (fun e => n1 e.symm), m, hm.fr f1 (by rw [List.mem_singleton]; exact fun e => n2 e.symm), hl⟩ f1 z1
theorem DkAt.setSec (h : DkAt w g gl mb S) (hW : DWf S) {i : Nat} (hi : i < S.n) {s : List UInt8} (hs : s.length = 64) {gs : List Nat} (hg : ∀ x ∈ gs, x ≠ gl) {K : World → Prop}
    (k : ∀ w1, DkAt w1 g gl mb ⟨S.n, fun j => if j = i then s else S.last j, S.cch, S.left, S.off⟩ → Fr [gl] w w1 → w1.heap.size = w.heap.size → K w1) : stO gs w gl (0 + i * 64) (s.map bV) K := by
  obtain ⟨n1, n2, n3⟩ := h.ne
  obtain ⟨m, hm, hl⟩ := h.map
  rw [Nat.zero_add]
  have hle : (i + 1) * 64 ≤ S.n * 64 := Nat.mul_le_mul_right 64 hi
  refine stO_part h.lst (by rw [sArr_size, List.length_map, hs]; omega) hg fun w1 h1 f1 z1 => k w1 ⟨h.blk.fr1 f1 n1, ?_, m, hm.fr f1 (by rw [List.mem_singleton]; exact fun e => n3 e.symm), hl⟩ f1 z1
  rw [sArr_setL (n := S.n) (k := 64) hi (by rw [List.length_map, hs]) (fun j _ => by rw [List.length_map, hW.last])] at h1
  rw [sArr_congr (enc' := fun j => (if j = i then s else S.last j).map bV) fun j _ => by split <;> rfl] at h1
  exact h1
theorem DkAt.putM (h : DkAt w g gl mb S) (i : Nat) (s : List UInt8) {K : World → Prop} (k : ∀ w1, DkAt w1 g gl mb ⟨S.n, S.last, fun j => if j = i then some s else S.cch j, S.left, S.off⟩ → Fr [mb] w w1 → w1.heap.size = w.heap.size → K w1) :
    mapO w (some mb) (fun m => putM m (i : Int) (.agg (s.map bV).toArray)) K := by
  obtain ⟨n1, n2, n3⟩ := h.ne
  obtain ⟨m, hm, hl⟩ := h.map
  refine ⟨mb, m, rfl, hm, fun w1 m1 f1 z1 => k w1 ⟨h.blk.fr1 f1 n2, h.lst.fr1 f1 n3, _, m1, fun j => ?_⟩ f1 z1⟩
  rw [lkM_put, hl]
  unfold cD
  by_cases e : (i : Int) = j
  · subst e
    rw [if_pos rfl, if_neg (by omega), Int.toNat_natCast]
    dsimp only
    rw [if_pos rfl]
    rfl
  · rw [if_neg e]
    by_cases hj : j < 0
    · rw [if_pos hj, if_pos hj]
    · rw [if_neg hj, if_neg hj]
      dsimp only
      rw [if_neg (by omega)]
theorem DkAt.clear (h : DkAt w g gl mb S) {K : World → Prop} (k : ∀ w1, DkAt w1 g gl mb ⟨S.n, S.last, fun _ => none, S.left, S.off⟩ → Fr [mb] w w1 → w1.heap.size = w.heap.size → K w1) : mapO w (some mb) (fun _ => []) K := by
  obtain ⟨n1, n2, n3⟩ := h.ne
  obtain ⟨m, hm, hl⟩ := h.map
  refine ⟨mb, m, rfl, hm, fun w1 m1 f1 z1 => k w1 ⟨h.blk.fr1 f1 n2, h.lst.fr1 f1 n3, _, m1, fun j => ?_⟩ f1 z1⟩
  unfold cD
  split <;> rfl
end
theorem dmay_ret {w : World} {g gl mb : Nat} {S : DS} (h : DkAt w g gl mb S) (hW : DWf S) (first n : Int) : Calls Try.prog 53 #[.pointer (some ⟨g, 0, none⟩), .int .i64 first, .int .i64 n] w (Ret (.int .i64 (mayE S first n)) w) := by
  refine ret_in (GDk.dmay_calls (some ⟨g, 0, none⟩) first n w (fun u w' => u = .int .i64 (mayE S first n) ∧ Below w.heap.size w w') ?_)
  unfold GDk.dmay_vc mayE
  have h1 := hW.n2
  refine br_f rfl ⟨S.off, h.c3, ?_⟩
  cases ho : S.off
  · rw [if_neg (by decide)]
    refine br_f rfl (br_dec (fun q => ⟨by rw [if_neg (by omega)], Bs.refl _⟩) fun q1 => br_dec (fun q => ⟨by rw [if_neg (by omega)], Bs.refl _⟩) fun q2 => ⟨some ⟨gl, 0, none⟩, S.n, S.n, h.c0, br_dec (fun q => ⟨by rw [if_neg (by omega)], Bs.refl _⟩) fun q3 => ⟨some ⟨gl, 0, none⟩, S.n, S.n, h.c0, ?_⟩⟩)
    rw [wr64 (by omega) (by omega)]
    exact br_dec (fun q => ⟨by rw [if_neg (by omega)], Bs.refl _⟩) fun q4 => ⟨by rw [if_pos ⟨by omega, by omega, by omega, by omega⟩], Bs.refl _⟩
  · rw [if_pos rfl]
    exact br_t rfl ⟨rfl, Bs.refl _⟩
theorem dmay_nil (first n : Int) (w : World) : Calls Try.prog 53 #[.pointer none, .int .i64 first, .int .i64 n] w (Ret (.int .i64 1) w) := by
  refine ret_in (GDk.dmay_calls none first n w (fun u w' => u = .int .i64 1 ∧ Below w.heap.size w w') ?_)
  unfold GDk.dmay_vc
  exact br_t rfl ⟨rfl, Bs.refl _⟩
theorem dsize_ret {w : World} {g gl mb : Nat} {S : DS} (h : DkAt w g gl mb S) : Calls Try.prog 58 #[.pointer (some ⟨g, 0, none⟩)] w (Ret (.int .i64 S.n) w) := by
  refine ret_in (GDk.dsize_calls (some ⟨g, 0, none⟩) w (fun u w' => u = .int .i64 S.n ∧ Below w.heap.size w w') ?_)
  unfold GDk.dsize_vc
  exact br_f rfl ⟨some ⟨gl, 0, none⟩, S.n, S.n, h.c0, rfl, Bs.refl _⟩
theorem dsize_nil (w : World) : Calls Try.prog 58 #[.pointer none] w (Ret (.int .i64 0) w) := by
  refine ret_in (GDk.dsize_calls none w (fun u w' => u = .int .i64 0 ∧ Below w.heap.size w w') ?_)
  unfold GDk.dsize_vc
  exact br_t rfl ⟨rfl, Bs.refl _⟩
theorem doff_ret {w : World} {g gl mb : Nat} {S : DS} (h : DkAt w g gl mb S) : Calls Try.prog 38 #[.pointer (some ⟨g, 0, none⟩)] w (Ret (.bool S.off) w) := by
  refine ret_in (GDk.doff_calls (some ⟨g, 0, none⟩) w (fun u w' => u = .bool S.off ∧ Below w.heap.size w w') ?_)
  unfold GDk.doff_vc
  exact br_f rfl ⟨S.off, h.c3, rfl, Bs.refl _⟩
theorem doff_nil (w : World) : Calls Try.prog 38 #[.pointer none] w (Ret (.bool true) w) := by
  refine ret_in (GDk.doff_calls none w (fun u w' => u = .bool true ∧ Below w.heap.size w w') ?_)
  unfold GDk.doff_vc
  exact br_t rfl ⟨rfl, Bs.refl _⟩
/-- New bytes. -/
def NewBs (w : World) (bs : List UInt8) (a : Option Addr) (n c : Nat) (w' : World) : Prop := n = bs.length ∧ Own w' w.heap.size 5 1 (.slice a n c) n (bs.map bV) ∧ Below w.heap.size w w'
theorem dread_new {w : World} {g gl mb : Nat} {S : DS} (h : DkAt w g gl mb S) (hW : DWf S) (first n : Int) :
    Calls Try.prog 18 #[.pointer (some ⟨g, 0, none⟩), .int .i64 first, .int .i64 n] w fun e w' => ∃ a m c, e = .returned (.tuple #[.slice a m c, .int .i64 (mayE S first n)]) ∧ NewBs w (readL S first n) a m c w' := by
  refine (GDk.dread_calls (some ⟨g, 0, none⟩) first n w (fun u w' => ∃ a m c, u = .tuple #[.slice a m c, .int .i64 (mayE S first n)] ∧ NewBs w (readL S first n) a m c w') ?_).mono (by rintro e w' ⟨v, rfl, a, m, c, rfl, h⟩; exact ⟨a, m, c, rfl, h⟩)
  unfold GDk.dread_vc readL
  refine callB (Bs.refl w) (dmay_ret h hW first n) fun w2 b2 B2 => ⟨_, rfl, br_dec (fun q => ⟨none, 0, 0, rfl, by rw [if_neg q]; rfl, by rw [if_neg q]; exact Own.nil _ _ _ _, B2⟩) fun q => ?_⟩
  have q : mayE S first n = 0 := Decidable.byContradiction q
  rw [if_pos q, q]
  obtain ⟨ho, h0, h1, h3, h4⟩ := mayE_zero q
  have hn2 := hW.n2
  obtain ⟨f, rfl⟩ := Int.eq_ofNat_of_zero_le h0
  obtain ⟨k, rfl⟩ := Int.eq_ofNat_of_zero_le h1
  rw [Int.toNat_natCast, Int.toNat_natCast]
  refine ⟨fun a m c x wy => ∃ i : Nat, x = i ∧ i ≤ k ∧ m = (readS S f i).length ∧ Own wy w.heap.size 5 1 (.slice a m c) m ((readS S f i).map bV) ∧ Bs w wy, fun _ _ _ x _ => k - x.toNat, ⟨0, rfl, by omega, rfl, Own.nil _ _ _ _, B2⟩, ?_⟩
  rintro a m c x wy ⟨i, rfl, hi, rfl, hO, By⟩
  refine br_dec (fun hlt => ?_) fun hge => ?_
  · have hik : i < k := by omega
    have hy := h.below By
    have hl := readS_len hW f i
    rw [wr64 (z := (f : Int) + i) (by omega) (by omega), wr64 (z := (i : Int) + 1) (by omega) (by omega), show (f : Int) + i = ((f + i : Nat) : Int) by omega]
    -- the piece that is put behind, whichever it is
    have fin : ∀ {wz : World} {g1 : Nat} {s : List UInt8}, s = nowS S (f + i) → Bk wz g1 (s.map bV).toArray 110 → Below wy.heap.size wy wz → Bs w wz →
        appO Try.prog [] wz 5 1 1 22 a (readS S f i).length c (.slice (some ⟨g1, 0, none⟩) 64 64) fun m48 a48 c48 w10 =>
          (∃ j : Nat, (i : Int) + 1 = j ∧ j ≤ k ∧ (readS S f i).length + m48 = (readS S f j).length ∧ Own w10 w.heap.size 5 1 (.slice a48 ((readS S f i).length + m48) c48) ((readS S f i).length + m48) ((readS S f j).map bV) ∧ Bs w w10) ∧ k - ((i : Int) + 1).toNat < k - (i : Int).toNat := fun {wz g1 s} hs hb by' Bz => by
      have h64 : s.length = 64 := by rw [hs]; exact hW.now _
      refine appB Bz (hO.below by' (Nat.le_refl _)) (Nat.le_refl _) Bz.size (src_block (n := 64) (size := 1) (cs := s.map bV) Try.underlying22 hb (by rw [List.length_map, h64]) (allOne_b s)) (by unfold maxLen; omega) (by omega) (fun q hq => by cases hq) fun a' c' w11 o11 gr11 B11 z11 => ⟨⟨i + 1, by omega, by omega, ?_, ?_, B11⟩, by omega⟩
      · rw [readS_len hW, readS_len hW]; omega
      · rw [readS_succ, List.map_append, ← hs]; exact o11
    cases hc : S.cch (f + i) with
    | some s =>
      have h64 := (hW.cch _ _ hc).2
      refine ⟨some mb, hy.c1, s, h64, true, hy.hit hc, newB By fun g1 w3 g10 sg1 n3 z3 b3 B3 => condB h64 (stB B3 g10 n3 (by rw [List.length_map, h64]; rfl) (fun q hq => by cases hq) fun w4 n4 f4 B4 z4 => br_f rfl ?_)⟩
      exact fin (by unfold nowS; rw [hc]; rfl) n4 (Bs.fr1 (show Bs wy w3 from b3) f4 (by omega)) B4
    | none =>
      refine ⟨some mb, hy.c1, zero64, rfl, false, hy.miss hc, newB By fun g1 w3 g10 sg1 n3 z3 b3 B3 => condB rfl (stB B3 g10 n3 (by rfl) (fun q hq => by cases hq) fun w4 n4 f4 B4 z4 => br_t rfl ?_)⟩
      have bx : Bs wy w4 := Bs.fr1 (show Bs wy w3 from b3) f4 (by omega)
      have h4' := hy.below bx
      refine ⟨some ⟨gl, 0, none⟩, S.n, S.n, h4'.c0, by omega, by omega, S.last (f + i), hW.last _, by rw [Int.toNat_natCast]; exact h4'.secs hW (by omega), condB (hW.last _) (stB B4 g10 n4 (by rw [List.length_map, hW.last]; rfl) (fun q hq => by cases hq) fun w5 n5 f5 B5 z5 => ?_)⟩
      exact fin (by unfold nowS; rw [hc]; rfl) n5 (Bs.fr1 bx f5 (by omega)) B5
  · obtain rfl : i = k := by omega
    exact ⟨a, _, c, rfl, rfl, hO, By⟩
theorem dread_nil (first n : Int) (w : World) : Calls Try.prog 18 #[.pointer none, .int .i64 first, .int .i64 n] w (Ret (.tuple #[.slice none 0 0, .int .i64 1]) w) := by
  refine ret_in (GDk.dread_calls none first n w (fun u w' => u = .tuple #[.slice none 0 0, .int .i64 1] ∧ Below w.heap.size w w') ?_)
  unfold GDk.dread_vc
  exact callB (Bs.refl w) (dmay_nil first n w) fun w2 b2 B2 => ⟨_, rfl, br_y (by decide) ⟨rfl, B2⟩⟩
end Go.Proofs.Ytpfmadinijofeaa
end
section
/- Loops over maps: how far they are. No program in sight. -/
namespace Go.Proofs.Ytpfmadinijofeaa
open Go.RowKit Go.MapKept
def iterLen (w : World) (g : Nat) : Nat := match w.heap[g]? with
  | some (.mapIter _ _ sb _) => sb.size
  | _ => 0
theorem IterAt.len {w : World} {g b : Nat} {m : List (Int × Value)} {seen : List Int} (h : IterAt w g b m seen) : iterLen w g = seen.length := by
  obtain ⟨es, clock, sb, hb, hs, hm, hi, L, hL, hsb, hsk⟩ := h
  unfold iterLen
  rw [hi]
  have h1 := congrArg List.length hsb
  have h2 := congrArg List.length hsk
  simp at h1 h2
  show sb.size = _
  omega
theorem nodup_sub : ∀ {l l' : List Int}, l.Nodup → (∀ x ∈ l, x ∈ l') → l.length ≤ l'.length
  | [], _, _, _ => Nat.zero_le _
  | x :: r, l', hn, h => by
    rw [List.nodup_cons] at hn
    have hx := h x (List.mem_cons_self ..)
    have h1 := List.length_erase_of_mem hx
    have h2 := nodup_sub (l := r) (l' := l'.erase x) hn.2 fun y hy => by
      have hne : y ≠ x := fun e => hn.1 (e ▸ hy)
      exact (List.mem_erase_of_ne hne).2 (h y (List.mem_cons_of_mem _ hy))
    have := List.length_pos_of_mem hx
    simp only [List.length_cons]
    omega
/-- What a loop over a map knows. -/
structure Loop (w : World) (g b : Nat) (m : List (Int × Value)) (seen : List Int) : Prop where
  at' : IterAt w g b m seen
  nodup : seen.Nodup
  sub : ∀ k ∈ seen, k ∈ m.map (·.1)
section
variable {w w1 : World} {g b : Nat} {m : List (Int × Value)} {seen : List Int}
theorem Loop.start (h : IterAt w g b m []) : Loop w g b m [] := ⟨h, List.nodup_nil, fun _ h => by cases h⟩
theorem Loop.step (h : Loop w g b m seen) {k : Int} {v : Value} (hm : (k, v) ∈ m) (hk : k ∉ seen) (h1 : IterAt w1 g b m (seen ++ [k])) : Loop w1 g b m (seen ++ [k]) :=
  ⟨h1, List.nodup_append.2 ⟨h.nodup, by simp, fun a ha b hb => by rw [List.mem_singleton] at hb; subst hb; exact fun e => hk (e ▸ ha)⟩, fun x hx => by
    rcases List.mem_append.1 hx with hx | hx
    · exact h.sub x hx
    · rw [List.mem_singleton] at hx; subst hx; exact List.mem_map.2 ⟨_, hm, rfl⟩⟩
theorem Loop.le (h : Loop w g b m seen) : seen.length ≤ m.length := by have := nodup_sub h.nodup h.sub; simpa using this
theorem Loop.more (h : Loop w g b m seen) {k : Int} {v : Value} (hm : (k, v) ∈ m) (hk : k ∉ seen) : seen.length < m.length := by
  have := nodup_sub (l := k :: seen) (l' := m.map (·.1)) (List.nodup_cons.2 ⟨hk, h.nodup⟩) fun x hx => by
    rcases List.mem_cons.1 hx with rfl | hx
    · exact List.mem_map.2 ⟨_, hm, rfl⟩
    · exact h.sub x hx
  simp at this
  omega
theorem Loop.keep (h : Loop w g b m seen) (hb : w1.heap[b]? = w.heap[b]?) (hg : w1.heap[g]? = w.heap[g]?) : Loop w1 g b m seen := ⟨h.at'.keep hb hg, h.nodup, h.sub⟩
theorem Loop.below (h : Loop w g b m seen) (hb : Below w.heap.size w w1) : Loop w1 g b m seen := h.keep (hb.block b h.at'.lt.2) (hb.block g h.at'.lt.1)
theorem Loop.box {x : Nat} {cs : Array Value} {t : TypeId} {fr : Nat × Nat} (h : Loop w g b m seen) (hx : w.heap[x]? = some (.cells cs t fr)) (hf : Fr [x] w w1) : Loop w1 g b m seen := by
  have h1 : b ≠ x := fun e => by
    obtain ⟨es, clock, sb, hb, _⟩ := h.at'
    rw [e, hx] at hb; cases hb
  have h2 : g ≠ x := fun e => by
    obtain ⟨es, clock, sb, hb, _, _, hi, _⟩ := h.at'
    rw [e, hx] at hi; cases hi
  exact h.keep (hf.block b h.at'.lt.2 (by rw [List.mem_singleton]; exact h1)) (hf.block g h.at'.lt.1 (by rw [List.mem_singleton]; exact h2))
end
end Go.Proofs.Ytpfmadinijofeaa
end
section
/- The program's disk: what writes it; walked. -/
namespace Go.Proofs.Ytpfmadinijofeaa
open Go.RowKit Go.Shelf
section
variable {w w1 w2 : World} {L : List Nat} {k : Nat}
theorem Fr.b (f : Fr L w w1) (b : Below w1.heap.size w1 w2) : Fr L w w2 := f.trans (Fr.ofBelow (L := L) b) (Gr.refl _ _)
theorem Fr.g (f : Fr L w w1) (f2 : Fr [k] w1 w2) (h : k ∈ L ∨ w.heap.size ≤ k) : Fr L w w2 := f.trans f2 fun j hj => by rw [List.mem_singleton] at hj; rw [hj]; exact h
theorem RowAt.frL {a : Option Addr} {vs : List Value} (h : RowAt w a vs) (f : Fr L w w1) (hn : ∀ q, a = some q → q.block ∉ L) : RowAt w1 a vs := by
  rcases h with h | ⟨b, off, ha, h⟩
  · exact .inl h
  · refine .inr ⟨b, off, ha, fun i v hv => ?_⟩
    have hc := h i v hv
    have hlt := block_lt_of_cell hc
    have hb := f.block b hlt (hn _ ha)
    unfold World.cell? at hc ⊢
    simp only [hb]
    exact hc
end
/-- A call's word: what it tells, the disk behind it, and that it wrote there alone. -/
def DDo (w : World) (g gl mb : Nat) (u : Value) (S' : DS) : Ending → World → Prop := fun e w' => e = .returned u ∧ DkAt w' g gl mb S' ∧ Fr [g, gl, mb] w w'
def DDoV (w : World) (g gl mb : Nat) (u : Value) (S' : DS) : Value → World → Prop := fun v w' => v = u ∧ DkAt w' g gl mb S' ∧ Fr [g, gl, mb] w w'
theorem ddo_in {P : Program} {f : FuncId} {av : Array Value} {w : World} {g gl mb : Nat} {u : Value} {S' : DS} (h : Calls P f av w fun e w' => ∃ v, e = .returned v ∧ DDoV w g gl mb u S' v w') : Calls P f av w (DDo w g gl mb u S') :=
  h.mono (by rintro e w' ⟨v, rfl, rfl, hh⟩; exact ⟨rfl, hh⟩)
theorem ddo_no {w wx : World} {g gl mb : Nat} {S S' : DS} {u v : Value} (h : DkAt w g gl mb S) (B : Bs w wx) (hv : v = u) (hd : S' = S) : DDoV w g gl mb u S' v wx := by
  subst hv; subst hd
  exact ⟨rfl, h.below B, Fr.ofBelow B⟩
theorem made_secs (n : Nat) : madeCells (List.replicate 64 (Value.int .u8 0)).toArray (n * 64) = sArr n 64 fun _ => zero64.map bV := by
  have hz : zero64.map bV = List.replicate 64 (Value.int .u8 0) := by unfold zero64; rw [List.map_replicate]; rfl
  refine sArr_of (fun i _ => by rw [hz, List.length_replicate]) (by simp [madeCells]) fun i c hi hc => ?_
  have hle : (i + 1) * 64 ≤ n * 64 := Nat.mul_le_mul_right 64 hi
  rw [hz, List.getElem?_replicate, if_pos hc]
  have hm : (i * 64 + c) % 64 < 64 := Nat.mod_lt _ (by decide)
  unfold madeCells
  rw [Array.getElem?_map, Array.getElem?_range, if_pos (by omega)]
  simp only [Option.map_some, List.size_toArray, List.length_replicate]
  congr 1
  rw [getElem!_pos _ _ (by rw [List.size_toArray, List.length_replicate]; exact hm), List.getElem_toArray]
  exact List.getElem_replicate _
theorem dnew_new (n : Nat) (h1 : 1 ≤ n) (h2 : n ≤ 8192) (w : World) : Calls Try.prog 13 #[.int .i64 n] w fun e w' => ∃ g gl mb, e = .returned (.tuple #[.pointer (some ⟨g, 0, none⟩), .int .i64 0]) ∧ DkAt w' g gl mb (newS n) ∧ w.heap.size ≤ g ∧ w.heap.size ≤ gl ∧ w.heap.size ≤ mb ∧ Below w.heap.size w w' := by
  refine (GDk.dnew_calls n w (fun u w' => ∃ g gl mb, u = .tuple #[.pointer (some ⟨g, 0, none⟩), .int .i64 0] ∧ DkAt w' g gl mb (newS n) ∧ w.heap.size ≤ g ∧ w.heap.size ≤ gl ∧ w.heap.size ≤ mb ∧ Below w.heap.size w w') ?_).mono (by rintro e w' ⟨v, rfl, g, gl, mb, rfl, h⟩; exact ⟨g, gl, mb, rfl, h⟩)
  unfold GDk.dnew_vc
  refine br_n (by omega) (br_n (by omega) ⟨by omega, by omega, by omega, by omega, newB (Bs.refl w) fun gl w2 gl0 sgl n2 z2 b2 B2 => newB B2 fun mb w3 mb0 smb n3 z3 b3 B3 => newB B3 fun g w4 g0 sg n4 z4 b4 B4 => ⟨g, gl, mb, rfl, ⟨?_, ?_, [], MapAt.below ⟨#[], 0, n3, MapKept.stamped_empty 0, rfl⟩ b4, fun k => ?_⟩, g0, gl0, mb0, B4⟩⟩)
  · rw [Int.toNat_natCast] at n4
    exact n4
  · rw [Int.toNat_natCast] at n2
    have n2' : Bk w2 gl (madeCells (List.replicate 64 (Value.int .u8 0)).toArray (n * 64)) 110 := n2
    rw [made_secs] at n2'
    exact (n2'.below b3).below b4
  · unfold cD
    split <;> rfl
theorem dnew_no (n : Int) (h : n < 1 ∨ n > 8192) (w : World) : Calls Try.prog 13 #[.int .i64 n] w (Ret (.tuple #[.pointer none, .int .i64 1]) w) := by
  refine ret_in (GDk.dnew_calls n w (fun u w' => u = .tuple #[.pointer none, .int .i64 1] ∧ Below w.heap.size w w') ?_)
  unfold GDk.dnew_vc
  exact br_dec (fun _ => ⟨rfl, Bs.refl _⟩) fun q => br_y (by omega) ⟨rfl, Bs.refl _⟩
theorem dput_any {w : World} {g gl mb : Nat} {S : DS} (h : DkAt w g gl mb S) (hW : DWf S) {k : Nat} {s : List UInt8} {gp op c : Nat} (hs : s.length = 64) (hc : cellsAt w gp op (s.map bV)) :
    Calls Try.prog 56 #[.pointer (some ⟨g, 0, none⟩), .int .i64 (k : Int), .slice (some ⟨gp, op, none⟩) 64 c] w (DDo w g gl mb (.bool (!(putK S k s).off)) (putK S k s)) := by
  refine ddo_in (GDk.dput_calls (some ⟨g, 0, none⟩) (k : Int) (some ⟨gp, op, none⟩) 64 c w (DDoV w g gl mb (.bool (!(putK S k s).off)) (putK S k s)) ?_)
  unfold GDk.dput_vc
  have hl0 := hW.left0
  have hlM := hW.leftM
  refine drewB (Bs.refl w) fun w2 b2 B2 e2 => ⟨some mb, (h.below b2).c1, Nat.le_refl _, s, hs, cellsAt_below hc b2 (Nat.le_refl _), (h.below b2).putM k s fun w3 h3 f3 z3 => ⟨S.left, h3.c2, ?_⟩⟩
  have F3 : Fr [g, gl, mb] w w3 := (Fr.ofBelow b2).trans f3 fun j hj => .inl (by simp at hj; simp [hj])
  refine br_dec (fun hl => ⟨S.left, h3.c2, ?_⟩) fun hl => ⟨S.off, h3.c3, ?_⟩
  · rw [wr64 (by omega) (by omega)]
    refine h3.setLeft (S.left - 1) (fun q hq => by cases hq) fun w4 h4 f4 z4 => ⟨S.left - 1, h4.c2, h4.setOff (decide (S.left - 1 = 0)) (fun q hq => by cases hq) fun w5 h5 f5 z5 => ⟨decide (S.left - 1 = 0), h5.c3, ?_, ?_, ?_⟩⟩
    · unfold putK
      dsimp only
      rw [if_pos hl]
    · unfold putK
      rw [if_pos hl, if_pos hl]
      exact h5
    · exact (F3.g f4 (.inl (by simp))).g f5 (.inl (by simp))
  · refine ⟨?_, ?_, F3⟩
    · unfold putK
      dsimp only
      rw [if_neg hl]
    · unfold putK
      rw [if_neg hl, if_neg hl]
      exact h3
/-- 'slices.Collect(slices.Chunk(b, 64))', as one step. -/
theorem chunksB_new {w : World} {a : Option Addr} {c m gb off : Nat} (ha : 0 < m → a = some ⟨gb, off, none⟩) (hm : m ≤ 1000000) (hcap : m * 64 ≤ c) {gs : List Nat} {K : Option Addr → Nat → Nat → World → Prop}
    (k : ∀ a' c' w2, Own w2 w.heap.size 22 1 (.slice a' m c') m ((List.range m).map (pieceV gb off)) → Below w.heap.size w w2 → K a' m c' w2) :
    Calls Try.prog 55 #[.slice a (m * 64) c, .int .i64 64] w fun e w1 => KeepG gs w w1 ∧ ∃ v : Value, e = .returned v ∧ Calls Try.prog 54 #[v] w1 fun e w2 => KeepG gs w1 w2 ∧ ∃ (a : Option Addr) (n c : Nat), e = .returned (.slice a n c) ∧ K a n c w2 := by
  refine ((callsIn_wide (n := 5)).1 (chunk_in Fence.wide 5 trivial rfl a (m * 64) c w)).mono ?_
  rintro e w1 ⟨rfl, rfl⟩
  have b1 : Below w.heap.size w (w.alloc (.cells #[.slice a (m * 64) c] 22)) := Below_one _
  have b2 : Below w.heap.size w ((w.alloc (.cells #[.slice a (m * 64) c] 22)).alloc (.cells #[.int .i64 64] 3)) := b1.alloc b1.size _
  refine ⟨keepG_below b2, _, rfl, ?_⟩
  have h0 : ((w.alloc (.cells #[.slice a (m * 64) c] 22)).alloc (.cells #[.int .i64 64] 3)).cell? ⟨w.heap.size, 0, none⟩ = some (.slice a (m * 64) c) := by
    rw [cell_of_row _ _ _ _ _ _ ((Below.heap_alloc _ _ _ (by simp)).trans (al_new rfl))]; rfl
  have h1 : ((w.alloc (.cells #[.slice a (m * 64) c] 22)).alloc (.cells #[.int .i64 64] 3)).cell? ⟨w.heap.size + 1, 0, none⟩ = some (.int .i64 64) := by
    rw [cell_of_row _ _ _ _ _ _ (al_new (by simp))]; rfl
  refine ((callsIn_wide (n := 5)).1 (collectB_in Fence.wide 5 trivial trivial trivial rfl (by omega) w.heap.size (w.heap.size + 1) gb off c m a ha hm hcap _ (by rw [World.size_alloc, World.size_alloc]; omega) (by rw [World.size_alloc, World.size_alloc]; omega) h0 h1)).mono ?_
  rintro e w2 ⟨v, rfl, hr, hn, hb⟩
  have ho := Own.ofRow hr
  obtain ⟨a', c', rfl⟩ := ho.isSlice
  have hb' : Below w.heap.size w w2 := b2.trans (hb.mono b2.size)
  exact ⟨keepG_below hb, a', m, c', rfl, k a' c' w2 (ho.base_le fun j hj => Nat.le_trans b2.size (ho.lt j hj).1) hb'⟩
theorem tdiv64 (n : Nat) : Int.tdiv (n : Int) 64 = ((n / 64 : Nat) : Int) := by rw [Int.tdiv_eq_ediv_of_nonneg (by omega)]; omega
theorem tmod64 (n : Nat) : Int.tmod (n : Int) 64 = ((n % 64 : Nat) : Int) := by rw [Int.tmod_eq_emod_of_nonneg (by omega)]; omega
theorem dwrite_any {w : World} {g gl mb : Nat} {S : DS} (h : DkAt w g gl mb S) (hW : DWf S) {a : Option Addr} {c : Nat} {bs : List UInt8} (hr : RowAt w a (bs.map bV)) (hl : bs.length ≤ 60000000) (hcap : bs.length ≤ c) (ha : ∀ q, a = some q → q.block ∉ [g, gl, mb]) (first : Int) :
    Calls Try.prog 17 #[.pointer (some ⟨g, 0, none⟩), .int .i64 first, .slice a bs.length c] w (DDo w g gl mb (.int .i64 (writeE S first bs)) (writeD S first bs)) := by
  refine ddo_in (GDk.dwrite_calls (some ⟨g, 0, none⟩) first a bs.length c w (DDoV w g gl mb (.int .i64 (writeE S first bs)) (writeD S first bs)) ?_)
  unfold GDk.dwrite_vc
  rw [tdiv64, tmod64, wr64 (z := ((bs.length / 64 : Nat) : Int)) (by omega) (by omega)]
  refine ⟨by decide, callB (Bs.refl w) (dmay_ret h hW first _) fun w2 b2 B2 => ⟨_, rfl, br_dec (fun q => ddo_no h B2 (by unfold writeE; rw [if_pos q]) (by unfold writeD; rw [if_neg fun r => q r.1])) fun q => ⟨by decide, br_dec (fun q2 => ddo_no h B2 (by unfold writeE; rw [if_neg q, if_pos (by omega)]) (by unfold writeD; rw [if_neg fun r => by have := r.2; omega])) fun q2 => ?_⟩⟩⟩
  have q : mayE S first ((bs.length / 64 : Nat) : Int) = 0 := Decidable.byContradiction q
  obtain ⟨ho, h0, h1, h3, h4⟩ := mayE_zero q
  have hn2 := hW.n2
  obtain ⟨f, rfl⟩ := Int.eq_ofNat_of_zero_le h0
  obtain ⟨m, hm⟩ : ∃ m, bs.length = m * 64 := ⟨bs.length / 64, by omega⟩
  have hmd : bs.length / 64 = m := by omega
  have hE : writeE S (f : Int) bs = if (wrS S f (pieceB bs) m).off = true then 12 else 0 := by
    unfold writeE
    rw [if_neg (fun r => r q), if_neg (by omega), hmd, Int.toNat_natCast]
  have hD : writeD S (f : Int) bs = wrS S f (pieceB bs) m := by
    unfold writeD
    rw [if_pos ⟨q, by omega⟩, hmd, Int.toNat_natCast]
  rw [hE, hD]
  obtain ⟨gb, off, hgo⟩ : ∃ gb off, 0 < m → a = some ⟨gb, off, none⟩ := by
    rcases hr with e | ⟨b, o, e, _⟩
    · refine ⟨0, 0, fun hp => ?_⟩
      rw [List.map_eq_nil_iff] at e
      rw [e] at hm
      simp at hm
      omega
    · exact ⟨b, o, fun _ => e⟩
  rw [hm]
  refine chunksB_new (m := m) (c := c) hgo (by omega) (by omega) fun a' c' w4 hO b4 => ?_
  have B4 := B2.to b4
  have h4' := h.below B4
  obtain ⟨l1, l2, l3⟩ := h.lt
  have hs2 := B2.size
  refine ⟨fun x wx => ∃ i : Nat, x = i ∧ i ≤ m ∧ (wrS S f (pieceB bs) i).off = false ∧ DkAt wx g gl mb (wrS S f (pieceB bs) i) ∧ Fr [g, gl, mb] w wx ∧ Fr [g, gl, mb] w4 wx, fun x _ => m - x.toNat, ⟨0, rfl, by omega, ho, h4', Fr.ofBelow B4, Fr.refl _ _⟩, ?_⟩
  rintro x wx ⟨i, rfl, hi, hoff, hx, fx, fx4⟩
  have hWi : DWf (wrS S f (pieceB bs) i) := hW.wr (first := f) (f := pieceB bs) (m := i) (fun k hk => pieceB_len hm (by omega)) (by omega)
  refine br_dec (fun hlt => ?_) fun hge => ?_
  · have him : i < m := by omega
    have hOx : Own wx w2.heap.size 22 1 (.slice a' m c') m ((List.range m).map (pieceV gb off)) := hO.keep fun k hk => by
      obtain ⟨k1, k2⟩ := hO.lt k hk
      exact fx4.block k k2 (by simp; omega)
    have hpl := pieceB_len hm him
    rcases hOx.row with e | ⟨pb, po, rfl, hc⟩
    · have := congrArg List.length e
      simp at this
      omega
    have hci := hc i (pieceV gb off i) (by simp [him])
    have ea := hgo (by omega)
    have hrx : RowAt wx a (bs.map bV) := hr.frL fx ha
    have hpc : cellsAt wx gb (off + i * 64) ((pieceB bs i).map bV) := by
      refine cellsAt_of fun j v hv => ?_
      rcases hrx with e | ⟨b, o, e, hcb⟩
      · rw [List.map_eq_nil_iff] at e
        rw [e] at hm
        simp at hm
        omega
      · rw [ea] at e
        injection e with e
        injection e with e1 e2 _
        subst e1; subst e2
        have hj : j < 64 := by
          have := (List.getElem?_eq_some_iff.1 hv).1
          rw [List.length_map, hpl] at this
          exact this
        have := hcb (i * 64 + j) v (by
          rw [List.getElem?_map] at hv ⊢
          unfold pieceB at hv
          rw [List.getElem?_take_of_lt hj, List.getElem?_drop] at hv
          exact hv)
        rwa [← Nat.add_assoc] at this
    rw [wr64 (z := (f : Int) + i) (by omega) (by omega), wr64 (z := (i : Int) + 1) (by omega) (by omega), show (f : Int) + i = ((f + i : Nat) : Int) by omega]
    refine ⟨by omega, by omega, some ⟨gb, off + i * 64, none⟩, 64, 64, by rw [Int.toNat_natCast, Nat.mul_one]; exact hci, (dput_any hx hWi hpl hpc).mono ?_⟩
    rintro e w6 ⟨rfl, h6, f6⟩
    have hst : wrS S f (pieceB bs) (i + 1) = putK (wrS S f (pieceB bs) i) (f + i) (pieceB bs i) := by rw [wrS, if_neg (by rw [hoff]; decide)]
    rw [← hst] at h6 ⊢
    have f6w := fx.trans f6 (Gr.refl _ _)
    refine ⟨keepG_nil _ _, _, rfl, ?_⟩
    cases hq : (wrS S f (pieceB bs) (i + 1)).off
    · exact br_f rfl ⟨⟨i + 1, by omega, by omega, hq, h6, f6w, fx4.trans f6 (Gr.refl _ _)⟩, by dsimp only; omega⟩
    · have hall := wrS_stay hq (j := m) (by omega)
      rw [hall, if_pos hq]
      exact br_t rfl ⟨rfl, h6, f6w⟩
  · obtain rfl : i = m := by omega
    rw [if_neg (by rw [hoff]; decide)]
    exact ⟨rfl, hx, fx⟩
theorem dwrite_nil (first : Int) (w : World) : Calls Try.prog 17 #[.pointer none, .int .i64 first, .slice none 0 0] w (Ret (.int .i64 1) w) := by
  refine ret_in (GDk.dwrite_calls none first none 0 0 w (fun u w' => u = .int .i64 1 ∧ Below w.heap.size w w') ?_)
  unfold GDk.dwrite_vc
  exact ⟨by decide, callB (Bs.refl w) (dmay_nil first _ w) fun w2 b2 B2 => ⟨_, rfl, br_y (by decide) ⟨rfl, B2⟩⟩⟩
theorem dcut_any {w : World} {g gl mb : Nat} {S : DS} (h : DkAt w g gl mb S) (n : Int) : Calls Try.prog 37 #[.pointer (some ⟨g, 0, none⟩), .int .i64 n] w (DDo w g gl mb (.tuple #[]) (cutD S n)) := by
  refine ddo_in (GDk.dcut_calls (some ⟨g, 0, none⟩) n w (DDoV w g gl mb (.tuple #[]) (cutD S n)) ?_)
  unfold GDk.dcut_vc
  exact br_t rfl (h.setLeft (max n 0) (fun q hq => by cases hq) fun w2 h2 f2 z2 => ⟨rfl, h2, f2.mono fun k hk => .inl (by simp at hk; simp [hk])⟩)
theorem dcut_nil (n : Int) (w : World) : Calls Try.prog 37 #[.pointer none, .int .i64 n] w (Ret (.tuple #[]) w) := by
  refine ret_in (GDk.dcut_calls none n w (fun u w' => u = .tuple #[] ∧ Below w.heap.size w w') ?_)
  unfold GDk.dcut_vc
  exact br_f rfl ⟨rfl, Bs.refl _⟩
end Go.Proofs.Ytpfmadinijofeaa
end
section
/- Rows of ints. No program in sight. -/
namespace Go.Proofs.Ytpfmadinijofeaa
open Go.RowKit Go.ChangeShapes
def iV (z : Int) : Value := .int .i64 z
def ints (zs : List Int) : Prop := ∀ z ∈ zs, -9223372036854775808 ≤ z ∧ z ≤ 9223372036854775807
theorem RowAt.int {w : World} {a : Option Addr} {zs : List Int} (h : RowAt w a (zs.map iV)) {k : Nat} (hk : k < zs.length) : ∃ b off, a = some ⟨b, off, none⟩ ∧ w.cell? ⟨b, off + k, none⟩ = some (.int .i64 zs[k]) := by
  rcases h with h | ⟨b, off, ha, h⟩
  · rw [List.map_eq_nil_iff] at h; subst h; simp at hk
  · exact ⟨b, off, ha, h k _ (by rw [List.getElem?_map, List.getElem?_eq_getElem hk]; rfl)⟩
theorem one_iV {zs : List Int} : ∀ u ∈ zs.map iV, u.oneCell' = true := by
  intro u hu
  obtain ⟨x, _, rfl⟩ := List.mem_map.1 hu
  rfl
theorem min_takeI (zs : List Int) (n : Nat) : min (zs.length : Int) (n : Int) = ((zs.take n).length : Int) := by
  rw [List.length_take]; omega
variable {P : Program} {W : World} {H : Type} {enc : TypeId × Value → H}
theorem row_of_ints {a : Addr} {zs : List Int} {len : Nat} (hl : len ≤ zs.length) (hc : ∀ i, i < zs.length → W.cell? (a.add i) = some (.int .i64 (zs.getD i 0))) : (zs.take len).length = len ∧ RowAt W (some a) ((zs.take len).map iV) := by
  refine ⟨by simp; omega, ?_⟩
  cases hz : zs with
  | nil => exact .inl (by simp)
  | cons z0 r =>
    rw [← hz]
    have h0 := hc 0 (by rw [hz]; simp)
    have ha := addr_plain h0
    refine .inr ⟨a.block, a.off, by rw [← ha], fun i v hv => ?_⟩
    rw [List.getElem?_map, List.getElem?_take] at hv
    split at hv
    · rcases hq : zs[i]? with _ | z
      · rw [hq] at hv; cases hv
      · rw [hq] at hv
        simp only [Option.map_some, Option.some.injEq] at hv
        have hi : i < zs.length := (List.getElem?_eq_some_iff.1 hq).1
        have h1 := hc i hi
        rw [ha, Addr.add_lit, List.getD_eq_getElem?_getD, hq] at h1
        rw [← hv]
        exact h1
    · cases hv
theorem open_i64s {t e : TypeId} {v : Value} {d : DataW H} {p : List MemPlace} (ht : P.underlying t = some (.slice e)) (he : P.underlying e = some (.int .i64)) (hc : P.cellsOf e = 1)
    (hv : ∃ a l c, v = .slice a l c) (h : DataW.Trod enc P W 0 (fun _ => true) true t v d p) : ∃ (zs : List Int) (a : Option Addr) (c : Nat), v = .slice a zs.length c ∧ zs.length ≤ c ∧ c ≤ maxLen ∧ RowAt W a (zs.map iV) ∧ ints zs := by
  obtain ⟨a, l, c, rfl⟩ := hv
  obtain ⟨fuel, hf⟩ := h
  rcases open_ints ht he hc hf with ⟨hcs, _⟩ | ⟨x, l', c', zs, hcs, _, hl, hm, hz, _, hcell, hwz⟩
  · simp [Value.cells] at hcs
    obtain ⟨rfl, rfl, rfl⟩ := hcs
    exact ⟨[], none, 0, rfl, Nat.le_refl _, by decide, .inl rfl, fun _ h => by cases h⟩
  · simp [Value.cells] at hcs
    obtain ⟨rfl, rfl, rfl⟩ := hcs
    simp only [if_true] at hz
    obtain ⟨h1, h2⟩ := row_of_ints (len := l) (by omega) hcell
    exact ⟨zs.take l, some x, c, by rw [h1], by rw [h1]; exact hl, hm, h2, fun z hz => i64_range (hwz z (List.mem_of_mem_take hz))⟩
end Go.Proofs.Ytpfmadinijofeaa
end
section
/- The program's disk: what lasts, behind a sync and behind a crash; walked. -/
namespace Go.Proofs.Ytpfmadinijofeaa
open Go.RowKit Go.Shelf Go.Maps Go.Sort
theorem cD_some {S : DS} {k : Int} {v : Value} (h : cD S k = some v) : ∃ (i : Nat) (s : List UInt8), k = i ∧ S.cch i = some s ∧ v = secV s := by
  unfold cD at h
  split at h
  · cases h
  · rename_i hk
    rw [Option.map_eq_some_iff] at h
    obtain ⟨s, hs, rfl⟩ := h
    exact ⟨k.toNat, s, by omega, hs, rfl⟩
theorem cD_mem {S : DS} {m : List (Int × Value)} (hn : (m.map (·.1)).Nodup) (hl : ∀ k, lkM m k = cD S k) (k : Int) : k ∈ m.map (·.1) ↔ 0 ≤ k ∧ (S.cch k.toNat).isSome = true := by
  constructor
  · intro h
    obtain ⟨p, hp, rfl⟩ := List.mem_map.1 h
    have h1 := lkM_of_mem hn (k := p.1) (v := p.2) hp
    rw [hl] at h1
    obtain ⟨i, s, hi, hs, _⟩ := cD_some h1
    rw [hi, Int.toNat_natCast, hs]
    exact ⟨by omega, rfl⟩
  · rintro ⟨h0, h1⟩
    obtain ⟨s, hs⟩ := Option.isSome_iff_exists.1 h1
    have := hl k
    unfold cD at this
    rw [if_neg (by omega), hs] at this
    exact List.mem_map.2 ⟨_, lkM_mem this, rfl⟩
theorem sortK_dirty {S : DS} (hW : DWf S) {m : List (Int × Value)} (hn : (m.map (·.1)).Nodup) (hl : ∀ k, lkM m k = cD S k) : sortK m = dirtyI S := by
  unfold sortK
  have hnd : (dirtyI S).Nodup := (dirtyI_sorted S).imp fun h => by omega
  have hp : (m.map (·.1)).Perm (dirtyI S) := (List.perm_ext_iff_of_nodup hn hnd).2 fun k => by rw [mem_dirtyI hW, cD_mem hn hl]
  rw [mergeSort_of_perm_i hp]
  exact List.mergeSort_of_pairwise ((dirtyI_sorted S).imp fun h => by simp [leI]; omega)
theorem dirty_range {S : DS} (hW : DWf S) {m : List (Int × Value)} (hn : (m.map (·.1)).Nodup) (hl : ∀ k, lkM m k = cD S k) : (∀ p ∈ m, -9223372036854775808 ≤ p.1 ∧ p.1 ≤ 9223372036854775807) ∧ m.length ≤ 8192 := by
  have hn2 := hW.n2
  have h1 : ∀ k ∈ m.map (·.1), 0 ≤ k ∧ k < 8192 := fun k hk => by
    obtain ⟨h0, h1⟩ := (cD_mem hn hl k).1 hk
    obtain ⟨s, hs⟩ := Option.isSome_iff_exists.1 h1
    have := (hW.cch _ s hs).1
    omega
  refine ⟨fun p hp => by have := h1 p.1 (List.mem_map.2 ⟨p, hp, rfl⟩); omega, ?_⟩
  have hsub := nodup_sub (l := m.map (·.1)) (l' := (List.range 8192).map fun (i : Nat) => (i : Int)) hn fun k hk => by
    have := h1 k hk
    exact List.mem_map.2 ⟨k.toNat, List.mem_range.2 (by omega), by omega⟩
  simpa using hsub
def NewIntsD (w : World) (zs : List Int) (a : Option Addr) (n c : Nat) (w' : World) : Prop := n = zs.length ∧ Own w' w.heap.size 3 1 (.slice a n c) n (zs.map iV) ∧ Below w.heap.size w w'
theorem ddirty_new {w : World} {g gl mb : Nat} {S : DS} (h : DkAt w g gl mb S) (hW : DWf S) :
    Calls Try.prog 36 #[.pointer (some ⟨g, 0, none⟩)] w fun e w' => ∃ a n c, e = .returned (.slice a n c) ∧ NewIntsD w (dirtyI S) a n c w' := by
  refine (GDk.ddirty_calls (some ⟨g, 0, none⟩) w (fun u w' => ∃ a n c, u = .slice a n c ∧ NewIntsD w (dirtyI S) a n c w') ?_).mono (by rintro e w' ⟨v, rfl, a, n, c, rfl, h⟩; exact ⟨a, n, c, rfl, h⟩)
  unfold GDk.ddirty_vc
  obtain ⟨m, hm, hl⟩ := h.map
  obtain ⟨hr, hlen⟩ := dirty_range hW hm.nodup hl
  refine br_f rfl ⟨some mb, h.c1, keysDisk_new (K := fun u w' => ∃ a n c, u = .slice a n c ∧ NewIntsD w (dirtyI S) a n c w') hm hr (by omega) (Bs.refl w) fun a c w2 ho hn b2 B2 => ?_⟩
  rw [sortK_dirty hW hm.nodup hl] at ho ⊢
  exact ⟨a, _, c, rfl, rfl, ho, B2⟩
theorem ddirty_nil (w : World) : Calls Try.prog 36 #[.pointer none] w (Ret (.slice none 0 0) w) := by
  refine ret_in (GDk.ddirty_calls none w (fun u w' => u = .slice none 0 0 ∧ Below w.heap.size w w') ?_)
  unfold GDk.ddirty_vc
  exact br_t rfl ⟨rfl, Bs.refl _⟩
def seenS (S : DS) (seen : List Int) : DS := ⟨S.n, fun i => if (i : Int) ∈ seen then nowS S i else S.last i, S.cch, S.left, S.off⟩
theorem seenS_wf {S : DS} (h : DWf S) (seen : List Int) : DWf (seenS S seen) :=
  ⟨h.n1, h.n2, fun i => by
    show (if (i : Int) ∈ seen then nowS S i else S.last i).length = 64
    split
    · exact h.now i
    · exact h.last i, h.cch, h.left0, h.leftM⟩
theorem off_of {S : DS} (q : syncE S ≠ 0) : syncD S = S := by
  unfold syncE at q
  unfold syncD
  by_cases ho : S.off = true
  · rw [if_pos ho]
  · rw [if_neg ho] at q; exact absurd rfl q
theorem dsync_any {w : World} {g gl mb : Nat} {S : DS} (h : DkAt w g gl mb S) (hW : DWf S) : Calls Try.prog 65 #[.pointer (some ⟨g, 0, none⟩)] w (DDo w g gl mb (.int .i64 (syncE S)) (syncD S)) := by
  refine ddo_in (GDk.dsync_calls (some ⟨g, 0, none⟩) w (DDoV w g gl mb (.int .i64 (syncE S)) (syncD S)) ?_)
  unfold GDk.dsync_vc
  have hm0 : mayE S 0 0 = syncE S := by
    unfold mayE syncE
    split
    · rfl
    · rw [if_pos ⟨by omega, by omega, by omega, by omega⟩]
  refine callB (Bs.refl w) (dmay_ret h hW 0 0) fun w2 b2 B2 => ⟨_, rfl, ?_⟩
  rw [hm0]
  refine br_dec (fun q => ddo_no h B2 rfl (off_of q)) fun q => ?_
  have q : syncE S = 0 := Decidable.byContradiction q
  have ho : ¬ S.off = true := fun r => by unfold syncE at q; rw [if_pos r] at q; omega
  have hS : syncD S = ⟨S.n, nowS S, fun _ => none, S.left, S.off⟩ := by unfold syncD; rw [if_neg ho]
  rw [q, hS]
  have h2 := h.below B2
  obtain ⟨l1, l2, l3⟩ := h.lt
  obtain ⟨n1, n2, n3⟩ := h.ne
  have hs2 := B2.size
  obtain ⟨m, hm, hl⟩ := h2.map
  have hn := hm.nodup
  refine ⟨some mb, h2.c1, mb, m, rfl, hm, fun g2 w3 sg2 hit b3 z3 => ?_⟩
  have B3 := B2.to b3
  refine ⟨fun wx => ∃ seen, Loop wx g2 mb m seen ∧ DkAt wx g gl mb (seenS S seen) ∧ Fr [g, gl, mb] w wx ∧ w3.heap.size ≤ wx.heap.size, fun wx => m.length - iterLen wx g2, ⟨[], Loop.start hit, ?_, Fr.ofBelow B3, Nat.le_refl _⟩, ?_⟩
  · have := h2.below b3
    exact this
  rintro wx ⟨seen, hL, hx, fx, hsx⟩
  refine ⟨mb, m, seen, hL.at', fun hall => ?_, fun k v w7 hkv hks hit1 hf1 hz1 => ?_⟩
  · refine ⟨some mb, hx.c1, .inr (hx.clear fun w6 h6 f6 z6 => ⟨rfl, ?_, fx.g f6 (.inl (by simp))⟩)⟩
    have hlast : (seenS S seen).last = nowS S := by
      funext i
      show (if (i : Int) ∈ seen then nowS S i else S.last i) = nowS S i
      by_cases hi : (i : Int) ∈ seen
      · rw [if_pos hi]
      · rw [if_neg hi]
        unfold nowS
        cases hc : S.cch i with
        | none => rfl
        | some s =>
          have hlk := hl (i : Int)
          rw [cD_nat, hc] at hlk
          exact absurd (hall _ (lkM_mem hlk)) hi
    have h6' : DkAt w6 g gl mb ⟨S.n, (seenS S seen).last, fun _ => none, S.left, S.off⟩ := h6
    rw [hlast] at h6'
    exact h6'
  · have hv := lkM_of_mem hn hkv
    have hv' := hv
    rw [hl] at hv'
    obtain ⟨i, s, rfl, hs, rfl⟩ := cD_some hv'
    obtain ⟨hin, h64⟩ := hW.cch i s hs
    have hL1 := hL.step hkv hks hit1
    have hx7 : DkAt w7 g gl mb (seenS S seen) := hx.fr hf1 (by rw [List.mem_singleton]; omega) (by rw [List.mem_singleton]; omega) (by rw [List.mem_singleton]; omega)
    have fx7 : Fr [g, gl, mb] w w7 := fx.g hf1 (.inr (by omega))
    refine ⟨s, h64, (i : Int), ⟨mb, m, seen, hit1, hv⟩, newB (Bs.refl w7) fun g3 w8 g30 sg3 n8 z8 b8 B8 => condB h64 (stB B8 g30 n8 (by rw [List.length_map, h64]; rfl) (fun q hq => by cases hq) fun w9 n9 f9 B9 z9 => drewB B9 fun w10 b10 B10 e10 => ?_)⟩
    have h10 := hx7.below B10
    have n10 : Bk w10 g3 (s.map bV).toArray 110 := n9.below b10
    refine ⟨some ⟨gl, 0, none⟩, S.n, S.n, h10.c0, s, h64, cellsAt_row n10 (by rw [List.drop_zero, List.take_length]), by omega, by omega, condB h64 ?_⟩
    have hstep : (⟨S.n, fun j => if j = i then s else (seenS S seen).last j, S.cch, S.left, S.off⟩ : DS) = seenS S (seen ++ [(i : Int)]) := by
      unfold seenS
      congr 1
      funext j
      dsimp only
      by_cases e : j = i
      · subst e
        rw [if_pos rfl, if_pos (by simp)]
        unfold nowS
        rw [hs]
        rfl
      · rw [if_neg e]
        by_cases hj : (j : Int) ∈ seen
        · rw [if_pos hj, if_pos (by simp [hj])]
        · rw [if_neg hj, if_neg (by simp [hj]; omega)]
    rw [Int.toNat_natCast]
    refine h10.setSec (seenS_wf hW seen) hin h64 (fun q hq => by cases hq) fun w11 h11 f11 z11 => ?_
    have h11' : DkAt w11 g gl mb ⟨S.n, fun j => if j = i then s else (seenS S seen).last j, S.cch, S.left, S.off⟩ := h11
    rw [hstep] at h11'
    have hL11 : Loop w11 g2 mb m (seen ++ [(i : Int)]) := (hL1.below B10).box h10.lst f11
    refine ⟨⟨_, hL11, h11', (fx7.b B10).g f11 (.inl (by simp)), by have := B10.size; omega⟩, ?_⟩
    have hmore := hL.more hkv hks
    dsimp only
    rw [hL11.at'.len, hL.at'.len]
    simp
    omega
theorem dsync_nil (w : World) : Calls Try.prog 65 #[.pointer none] w (Ret (.int .i64 1) w) := by
  refine ret_in (GDk.dsync_calls none w (fun u w' => u = .int .i64 1 ∧ Below w.heap.size w w') ?_)
  unfold GDk.dsync_vc
  exact callB (Bs.refl w) (dmay_nil 0 0 w) fun w2 b2 B2 => ⟨_, rfl, br_y (by decide) ⟨rfl, B2⟩⟩
/-- So many of the cache have been looked at. -/
def crS (S : DS) (kept : List Bool) (k : Nat) : DS := ⟨S.n, fun i => if i ∈ (dirtyL S).take k ∧ kept.getD (rk (dirtyS S) i) false = true then nowS S i else S.last i, S.cch, S.left, S.off⟩
theorem crS_wf {S : DS} (h : DWf S) (kept : List Bool) (k : Nat) : DWf (crS S kept k) :=
  ⟨h.n1, h.n2, fun i => by
    show (if i ∈ (dirtyL S).take k ∧ kept.getD (rk (dirtyS S) i) false = true then nowS S i else S.last i).length = 64
    split
    · exact h.now i
    · exact h.last i, h.cch, h.left0, h.leftM⟩
theorem crS_no {S : DS} {kept : List Bool} {k i : Nat} (hk : (dirtyL S)[k]? = some i) (hn : kept.getD k false = false) : crS S kept (k + 1) = crS S kept k := by
  obtain ⟨h1, h2, h3⟩ := filt_get (dirtyS S) S.n k i hk
  unfold crS
  congr 1
  funext j
  by_cases e : j = i
  · subst e
    rw [if_neg fun q => by rw [← h1, hn] at q; exact absurd q.2 (by decide), if_neg fun q => by rw [← h1, hn] at q; exact absurd q.2 (by decide)]
  · have hiff : j ∈ (dirtyL S).take (k + 1) ↔ j ∈ (dirtyL S).take k := by
      rw [List.take_add_one, hk, List.mem_append]
      simp [e]
    simp only [hiff]
theorem crS_yes {S : DS} {kept : List Bool} {k i : Nat} {s : List UInt8} (hk : (dirtyL S)[k]? = some i) (hy : kept.getD k false = true) (hs : S.cch i = some s) :
    (⟨S.n, fun j => if j = i then s else (crS S kept k).last j, S.cch, S.left, S.off⟩ : DS) = crS S kept (k + 1) := by
  obtain ⟨h1, h2, h3⟩ := filt_get (dirtyS S) S.n k i hk
  unfold crS
  congr 1
  funext j
  dsimp only
  by_cases e : j = i
  · subst e
    rw [if_pos rfl, if_pos ⟨by rw [List.take_add_one, hk, List.mem_append]; simp, by rw [← h1]; exact hy⟩]
    unfold nowS
    rw [hs]
    rfl
  · rw [if_neg e]
    have hiff : j ∈ (dirtyL S).take (k + 1) ↔ j ∈ (dirtyL S).take k := by
      rw [List.take_add_one, hk, List.mem_append]
      simp [e]
    simp only [hiff]
theorem crS_all {S : DS} (hW : DWf S) (kept : List Bool) : (crS S kept (dirtyL S).length).last = (crashD S kept).last := by
  funext i
  show (if i ∈ (dirtyL S).take (dirtyL S).length ∧ kept.getD (rk (dirtyS S) i) false = true then nowS S i else S.last i) = if dirtyS S i = true ∧ kept.getD (rk (dirtyS S) i) false = true then nowS S i else S.last i
  have hiff : i ∈ (dirtyL S).take (dirtyL S).length ↔ dirtyS S i = true := by
    rw [List.take_length]
    unfold dirtyL
    rw [List.mem_filter, List.mem_range]
    refine ⟨fun q => q.2, fun q => ⟨?_, q⟩⟩
    obtain ⟨s, hs⟩ := Option.isSome_iff_exists.1 q
    exact (hW.cch i s hs).1
  simp only [hiff]
theorem getD_b {l : List Bool} {i : Nat} (h : i < l.length) : l.getD i false = l[i] := by rw [List.getD_eq_getElem?_getD, List.getElem?_eq_getElem h]; rfl
theorem RowAt.bool {w : World} {a : Option Addr} {bs : List Bool} (h : RowAt w a (bs.map Value.bool)) {k : Nat} (hk : k < bs.length) : ∃ b off, a = some ⟨b, off, none⟩ ∧ w.cell? ⟨b, off + k, none⟩ = some (.bool bs[k]) := by
  rcases h with h | ⟨b, off, ha, h⟩
  · rw [List.map_eq_nil_iff] at h; subst h; simp at hk
  · exact ⟨b, off, ha, h k _ (by simp [hk])⟩
theorem dcrash_g {w : World} {g gl mb : Nat} {S : DS} (h : DkAt w g gl mb S) (hW : DWf S) {a : Option Addr} {c : Nat} {kept : List Bool} (hr : ∀ w1, Fr [g, gl, mb] w w1 → RowAt w1 a (kept.map Value.bool)) :
    Calls Try.prog 39 #[.pointer (some ⟨g, 0, none⟩), .slice a kept.length c] w (DDo w g gl mb (.tuple #[]) (crashD S kept)) := by
  refine ddo_in (GDk.dcrash_calls (some ⟨g, 0, none⟩) a kept.length c w (DDoV w g gl mb (.tuple #[]) (crashD S kept)) ?_)
  unfold GDk.dcrash_vc
  have hlen := dirtyL_le hW
  have hlI : (dirtyI S).length = (dirtyL S).length := by unfold dirtyI; rw [List.length_map]
  obtain ⟨l1, l2, l3⟩ := h.lt
  refine br_f rfl ((ddirty_new h hW).mono ?_)
  rintro e w2 ⟨ad, nd, cd, rfl, rfl, od, bd⟩
  refine ⟨keepG_nil _ _, ad, _, cd, rfl, fun x wx => ∃ k : Nat, x = k ∧ k ≤ (dirtyL S).length ∧ DkAt wx g gl mb (crS S kept k) ∧ Fr [g, gl, mb] w wx ∧ Fr [g, gl, mb] w2 wx, fun x _ => (dirtyL S).length - x.toNat, ⟨0, rfl, by omega, ?_, Fr.ofBelow bd, Fr.refl _ _⟩, ?_⟩
  · have h2 := h.below bd
    have : crS S kept 0 = S := by
      unfold crS
      simp
    rw [this]
    exact h2
  rintro x wx ⟨k, rfl, hk, hx, fx, fx2⟩
  refine br_dec (fun hlt => ?_) fun hge => ?_
  · have hkl : k < (dirtyL S).length := by omega
    have hodx : Own wx w.heap.size 3 1 (.slice ad (dirtyI S).length cd) (dirtyI S).length ((dirtyI S).map iV) := od.keep fun j hj => by
      obtain ⟨j1, j2⟩ := od.lt j hj
      exact fx2.block j j2 (by simp; omega)
    obtain ⟨b0, o0, rfl, hc⟩ := hodx.row.int (k := k) (by omega)
    have hg := List.getElem?_eq_getElem hkl
    obtain ⟨r1, r2, r3⟩ := filt_get (dirtyS S) S.n k _ hg
    have hat : (dirtyI S)[k] = (((dirtyL S)[k] : Nat) : Int) := by unfold dirtyI; simp
    rw [wr64 (z := (k : Int) + 1) (by omega) (by omega)]
    refine ⟨by omega, by omega, (((dirtyL S)[k] : Nat) : Int), by rw [Int.toNat_natCast, Nat.mul_one, hc, hat], ?_⟩
    have no : kept.getD k false = false → (∃ j : Nat, (k : Int) + 1 = j ∧ j ≤ (dirtyL S).length ∧ DkAt wx g gl mb (crS S kept j) ∧ Fr [g, gl, mb] w wx ∧ Fr [g, gl, mb] w2 wx) ∧ (dirtyL S).length - ((k : Int) + 1).toNat < (dirtyL S).length - (k : Int).toNat := fun q => ⟨⟨k + 1, by omega, by omega, by rw [crS_no hg q]; exact hx, fx, fx2⟩, by omega⟩
    refine br_dec (fun hkk => ?_) fun hkk => no (by rw [List.getD_eq_getElem?_getD, List.getElem?_eq_none (by omega)]; rfl)
    have hkl2 : k < kept.length := by omega
    obtain ⟨b1, o1, rfl, hb⟩ := (hr _ fx).bool hkl2
    refine ⟨by omega, by omega, kept[k], by rw [Int.toNat_natCast, Nat.mul_one]; exact hb, ?_⟩
    cases hkb : kept[k]
    · exact br_f rfl (no (by rw [getD_b hkl2, hkb]))
    · obtain ⟨s, hs⟩ := Option.isSome_iff_exists.1 r3
      have h64 := (hW.cch _ s hs).2
      refine br_t rfl (drewB (Bs.refl wx) fun w4 b4 B4 e4 => ?_)
      have h4 := hx.below b4
      refine ⟨some ⟨gl, 0, none⟩, S.n, S.n, h4.c0, some mb, h4.c1, s, h64, ?_, by omega, by omega, condB h64 ?_⟩
      · obtain ⟨r, q1, q2, _⟩ := h4.hit (k := (dirtyL S)[k]) (s := s) hs
        exact ⟨r, q1, q2⟩
      rw [Int.toNat_natCast]
      refine h4.setSec (crS_wf hW kept k) r2 h64 (fun q hq => by cases hq) fun w5 h5 f5 z5 => ?_
      have h5' : DkAt w5 g gl mb ⟨S.n, fun j => if j = (dirtyL S)[k] then s else (crS S kept k).last j, S.cch, S.left, S.off⟩ := h5
      rw [crS_yes hg (by rw [getD_b hkl2, hkb]) hs] at h5'
      exact ⟨⟨k + 1, by omega, by omega, h5', (fx.b b4).g f5 (.inl (by simp)), (fx2.b b4).g f5 (.inl (by simp))⟩, by dsimp only; omega⟩
  · obtain rfl : k = (dirtyL S).length := by omega
    refine ⟨some mb, hx.c1, .inr (hx.clear fun w6 h6 f6 z6 => h6.setLeft 0 (fun q hq => by cases hq) fun w7 h7 f7 z7 => h7.setOff false (fun q hq => by cases hq) fun w8 h8 f8 z8 => ⟨rfl, ?_, ((fx.g f6 (.inl (by simp))).g f7 (.inl (by simp))).g f8 (.inl (by simp))⟩)⟩
    have h8' : DkAt w8 g gl mb ⟨S.n, (crS S kept (dirtyL S).length).last, fun _ => none, 0, false⟩ := h8
    rw [crS_all hW] at h8'
    exact h8'
theorem dcrash_any {w : World} {g gl mb : Nat} {S : DS} (h : DkAt w g gl mb S) (hW : DWf S) {a : Option Addr} {c : Nat} {kept : List Bool} (hr : RowAt w a (kept.map Value.bool)) (ha : ∀ q, a = some q → q.block ∉ [g, gl, mb]) :
    Calls Try.prog 39 #[.pointer (some ⟨g, 0, none⟩), .slice a kept.length c] w (DDo w g gl mb (.tuple #[]) (crashD S kept)) := dcrash_g h hW fun _ f => hr.frL f ha
theorem dcrash_nil (a : Option Addr) (n c : Nat) (w : World) : Calls Try.prog 39 #[.pointer none, .slice a n c] w (Ret (.tuple #[]) w) := by
  refine ret_in (GDk.dcrash_calls none a n c w (fun u w' => u = .tuple #[] ∧ Below w.heap.size w w') ?_)
  unfold GDk.dcrash_vc
  exact br_t rfl ⟨rfl, Bs.refl _⟩
end Go.Proofs.Ytpfmadinijofeaa
end
section
/- The table of nibbles, as the program makes it. -/
namespace Go.Proofs.Ytpfmadinijofeaa
open Go.RowKit
def V32 (n : Nat) : Value := .int .u32 n
def tabCells (k : Nat) : Array Value := ((tbl.take k ++ List.replicate (16 - k) 0).map V32).toArray
theorem tabCells_zero : tabCells 0 = #[Value.int IntKind.u32 0, Value.int IntKind.u32 0, Value.int IntKind.u32 0, Value.int IntKind.u32 0,
            Value.int IntKind.u32 0, Value.int IntKind.u32 0, Value.int IntKind.u32 0, Value.int IntKind.u32 0,
            Value.int IntKind.u32 0, Value.int IntKind.u32 0, Value.int IntKind.u32 0, Value.int IntKind.u32 0,
            Value.int IntKind.u32 0, Value.int IntKind.u32 0, Value.int IntKind.u32 0, Value.int IntKind.u32 0] := by rfl
theorem tabCells_16 : tabCells 16 = #[Value.int IntKind.u32 0, Value.int IntKind.u32 498536548, Value.int IntKind.u32 997073096, Value.int IntKind.u32 651767980, Value.int IntKind.u32 1994146192, Value.int IntKind.u32 1802195444, Value.int IntKind.u32 1303535960, Value.int IntKind.u32 1342533948, Value.int IntKind.u32 3988292384, Value.int IntKind.u32 4027552580, Value.int IntKind.u32 3604390888, Value.int IntKind.u32 3412177804, Value.int IntKind.u32 2607071920, Value.int IntKind.u32 2262029012, Value.int IntKind.u32 2685067896, Value.int IntKind.u32 3183342108] := by rfl
theorem tabCells_at (k : Nat) (h : k < 16) : (tabCells k)[k]? = some (.int .u32 0) := by
  have e : (tbl.take k ++ List.replicate (16 - k) 0)[k]? = some 0 := (by decide : ∀ k, k < 16 → (tbl.take k ++ List.replicate (16 - k) 0)[k]? = some 0) k h
  unfold tabCells
  rw [List.getElem?_toArray, List.getElem?_map, e]; rfl
theorem tabCells_step (k : Nat) (h : k < 16) : (tabCells k).setIfInBounds k (V32 (iter st 4 k)) = tabCells (k + 1) := by
  have e : (tbl.take k ++ List.replicate (16 - k) 0).set k (iter st 4 k) = tbl.take (k + 1) ++ List.replicate (16 - (k + 1)) 0 := (by decide : ∀ k, k < 16 → (tbl.take k ++ List.replicate (16 - k) 0).set k (iter st 4 k) = tbl.take (k + 1) ++ List.replicate (16 - (k + 1)) 0) k h
  unfold tabCells
  rw [← e, List.map_set]; simp
set_option maxHeartbeats 400000 in
theorem table_any (w : World) :
    Calls Try.prog 99 #[] w fun e w' => e = .returned (.agg (tabCells 16)) ∧ Below w.heap.size w w' := by
  go_enter Try.func99, Try.ntmps99
  go_wp2
  go_loopw [2,3,4,5,6,7,8] (fun t2 t3 t4 t5 t6 t7 t8 wr => ∃ k : Nat, k ≤ 16 ∧ t4 = .int .i64 k ∧ wr = (w.alloc (Obj.cells (tabCells 0) 154)).alloc (Obj.cells (tabCells k) 154)) (fun t2 t3 t4 t5 t6 t7 t8 wr => 16 - (intOf t4).toNat)
  case atStart => 
    exact ⟨0, by omega, rfl, by simp only [tabCells_zero]⟩
  case round =>
    obtain ⟨k, hk, rfl, rfl⟩ := hrel
    by_cases hlt : k < 16
    · have hcell := tabCells_at k hlt
      go_wp2
      go_loop [3,9,10,11,12,13,14,15,16,17,18,19] (fun t3 t9 t10 t11 t12 t13 t14 t15 t16 t17 t18 t19 => ∃ j : Nat, j ≤ 4 ∧ t9 = .int .i64 j ∧ t3 = V32 (iter st j k)) (fun t3 t9 t10 t11 t12 t13 t14 t15 t16 t17 t18 t19 => 4 - (intOf t9).toNat)
      case atStart => exact ⟨0, by omega, rfl, rfl⟩
      case round => 
        obtain ⟨j, hj, rfl, rfl⟩ := hrel
        have h0 : iter st j k < 4294967296 := iter_lt j (by omega)
        have h1 : iter st (j + 1) k = st (iter st j k) := rfl
        have H1 := hid h1; clear h1
        generalize hn : iter st j k = n at *
        have Hn := hid hn; clear hn
        unfold V32
        by_cases hltj : j < 4
        · have hb : bits BinOp.and IntKind.u32 (n : Int) 1 = ((n % 2 : Nat) : Int) := by rw [show (1 : Int) = ((1 : Nat) : Int) from rfl, u32_and_nat _ _ h0 (by omega), nat_mask1]
          have hx : bits BinOp.xor IntKind.u32 (n / 2) 3988292384 = ((n / 2 ^^^ 3988292384 : Nat) : Int) := by rw [show (3988292384 : Int) = ((3988292384 : Nat) : Int) from rfl, show (n : Int) / 2 = ((n / 2 : Nat) : Int) from rfl, u32_xor_nat _ _ (by omega) (by omega)]
          have HB := hid hb; clear hb
          have HX := hid hx; clear hx
          go_wp2
          · go_round
            case rel => 
              refine ⟨j + 1, by omega, by go_num, ?_⟩
              have hb1 : (bits BinOp.and IntKind.u32 (n : Int) 1 == 1) = true := by assumption
              rw [HB.out] at hb1
              rw [H1.out, HX.out]; unfold st; rw [if_pos (by simp at hb1; omega)]
            case measure => simp [intOf]; omega
          · go_round
            case rel => 
              refine ⟨j + 1, by omega, by go_num, ?_⟩
              have hb1 : (bits BinOp.and IntKind.u32 (n : Int) 1 == 1) = false := by assumption
              rw [HB.out] at hb1
              rw [H1.out]; unfold st; rw [if_neg (by simp at hb1; omega)]; rfl
            case measure => simp [intOf]; omega
        · go_wp2
          have hstep := tabCells_step k hlt
          rw [show (4 : Nat) = j by omega, Hn.out] at hstep
          go_roundw
          case rel => 
              refine ⟨k + 1, by omega, by go_num, ?_⟩
              rw [← hstep]; rfl
          case measure => simp [intOf]; omega
    · obtain rfl : k = 16 := by omega
      have hw1 := heap_alloc2_new w (Obj.cells (tabCells 0) 154) (Obj.cells (tabCells 16) 154)
      have hw0 := heap_alloc2_old w (Obj.cells (tabCells 0) 154) (Obj.cells (tabCells 16) 154)
      have hb : Below w.heap.size w ((w.alloc (Obj.cells (tabCells 0) 154)).alloc (Obj.cells (tabCells 16) 154)) := ((Below.refl _ _).alloc (Nat.le_refl _) _).alloc (by simp) _
      generalize (w.alloc (Obj.cells (tabCells 0) 154)).alloc (Obj.cells (tabCells 16) 154) = W at *
      have H1 := hid hw1
      have H0 := hid hw0
      clear hw1 hw0
      go_wp2_with (first | (refine wpList_load_row rfl 154 (.tmp 1) rfl (w.heap.size + 1) rfl 154 (tabCells 16) (0, 0) _ H1.out Try.underlying154 rfl (by kernel_rfl) ?_) | (refine wpList_store_row rfl 154 (.tmp 0) (.tmp 24) rfl w.heap.size (tabCells 16) rfl rfl 154 (tabCells 0) H0.out (by kernel_rfl) rfl (by kernel_rfl) ?_))
      refine bodyPost_ret (results_cell_row rfl _ _ w.heap.size 154 (tabCells 16) (0, 0) _ rfl (setRow_heap _ _ _ _ _ _ H0.out) Try.underlying154 rfl (by kernel_rfl)) rfl ⟨rfl, ?_⟩
      exact hb.trans ⟨rfl, rfl, rfl, by simp, fun k hk => by simp [World.setRow, Array.getElem?_modify]; omega⟩
end Go.Proofs.Ytpfmadinijofeaa
end
section
/- 'More' and 'Sum' of crc: what they come to. -/
namespace Go.Proofs.Ytpfmadinijofeaa
open Go.RowKit
theorem tabCells_get (k : Nat) (h : k < 16) : (tabCells 16)[k]? = some (V32 (tbl.getD k 0)) := by
  unfold tabCells
  rw [List.getElem?_toArray, List.getElem?_map, show (tbl.take 16 ++ List.replicate (16 - 16) 0) = tbl from rfl, List.getD_eq_getElem?_getD]
  rcases hq : tbl[k]? with _ | x
  · rw [List.getElem?_eq_none_iff] at hq
    have : tbl.length = 16 := rfl
    omega
  · rfl
theorem crcL_snoc (n : Nat) (bs : List UInt8) (k : Nat) (h : k < bs.length) : crcL n (bs.take (k + 1)) = cb (crcL n (bs.take k)) bs[k].toNat := by
  rw [List.take_succ_eq_append_getElem h, crcL_append]; rfl
theorem u32_xor_step (y t : Nat) (hy : y < 4294967296) (ht : t < 4294967296) : bits BinOp.xor IntKind.u32 ((y : Int) / 16) (t : Int) = (((y / 16) ^^^ t : Nat) : Int) := by
  rw [show (y : Int) / 16 = ((y / 16 : Nat) : Int) from rfl, u32_xor_nat _ _ (by omega) ht]
theorem u32_not (n : Nat) (h : n < 4294967296) : bits BinOp.xor IntKind.u32 IntKind.u32.max (n : Int) = ((cpl n : Nat) : Int) := by
  rw [show IntKind.u32.max = ((4294967295 : Nat) : Int) from rfl, u32_xor_nat _ _ (by omega) h]; rfl
set_option maxHeartbeats 400000 in
theorem more_any (n : Nat) (a : Option Addr) (cap : Nat) (bs : List UInt8) (w : World) (hn : n < 4294967296) (hl : bs.length ≤ maxLen) (hr : RowAt w a (bs.map bV)) :
    Calls Try.prog 88 #[.int .u32 n, .slice a bs.length cap] w fun e w' => e = .returned (.int .u32 (more n bs)) ∧ Below w.heap.size w w' := by
  unfold maxLen at hl
  have HR := hid hr; clear hr
  go_enter Try.func88, Try.ntmps88
  go_wp2_with (first | (go_at_call 99; refine (table_any _).mono ?_; rintro e W ⟨rfl, hb⟩) | (rw [← tabCells_zero]; refine wpList_store_row rfl 154 (.tmp 5) (.tmp 9) rfl _ (tabCells 16) rfl rfl 154 (tabCells 0) (heap_alloc_new _ _) (by kernel_rfl) rfl (by kernel_rfl) ?_))
  have hg : ((W.alloc (Obj.cells (tabCells 0) 154)).setRow W.heap.size (tabCells 16)).heap[W.heap.size]? = some (.cells (tabCells 16) 154 (0, 0)) := setRow_heap _ _ _ _ _ _ (heap_alloc_new _ _)
  have hw : Below w.heap.size w ((W.alloc (Obj.cells (tabCells 0) 154)).setRow W.heap.size (tabCells 16)) := Below_setRow (hb.alloc hb.size _) hb.size _
  generalize (W.alloc (Obj.cells (tabCells 0) 154)).setRow W.heap.size (tabCells 16) = W2 at *
  generalize W.heap.size = g at *
  have HG := hid hg; clear hg
  have HW := hid hw; clear hw hb
  have HR2 := hid (HR.out.below HW.out (Nat.le_refl _)); clear HR
  have hc := u32_not n hn
  rw [hc]; clear hc
  go_loop [6,8,15,16,17,18,19,20,21,22,23,24,25,26,27,28,29,30,31,32,33,34,35,14] (fun t6 _ _ _ _ _ _ _ _ _ _ _ _ _ _ _ _ _ _ _ _ _ _ t14 => ∃ k : Nat, k ≤ bs.length ∧ t14 = .int .i64 k ∧ t6 = V32 (crcL (cpl n) (bs.take k))) (fun t6 _ _ _ _ _ _ _ _ _ _ _ _ _ _ _ _ _ _ _ _ _ _ t14 => bs.length - (intOf t14).toNat)
  case atStart => exact ⟨0, by omega, rfl, rfl⟩
  case round =>
    obtain ⟨k, hk, rfl, rfl⟩ := hrel
    have h0 : crcL (cpl n) (bs.take k) < 4294967296 := crcL_lt _ (cpl_lt hn)
    by_cases hlt : k < bs.length
    · have hsn := hid (crcL_snoc (cpl n) bs k hlt)
      generalize hm : crcL (cpl n) (bs.take k) = m at *
      have Hm := hid hm; clear hm
      obtain ⟨b, off, rfl, hc⟩ := HR2.out.byte hlt
      have hx := (bs[k]).toNat_lt
      generalize hxx : (bs[k]).toNat = x at *
      have e1 := u32_xor_nat m x h0 (by omega)
      have l1 := xlt h0 (show x < 4294967296 by omega)
      generalize hy1 : m ^^^ x = y at *
      have c1 : W2.cell? ⟨g, y % 16, none⟩ = some (.int .u32 (tbl.getD (y % 16) 0 : Nat)) := (cell_of_row _ _ _ _ _ _ HG.out).trans (tabCells_get _ (Nat.mod_lt _ (by omega)))
      have e2 := u32_xor_step y (tbl.getD (y % 16) 0) l1 (tbl_lt _)
      have l2 := nib_lt l1
      have hy2 : nib y = (y / 16) ^^^ tbl.getD (y % 16) 0 := rfl
      rw [← hy2] at e2
      generalize hy3 : tbl.getD (y % 16) 0 = t1 at *
      generalize hy4 : nib y = z at *
      have c2 : W2.cell? ⟨g, z % 16, none⟩ = some (.int .u32 (tbl.getD (z % 16) 0 : Nat)) := (cell_of_row _ _ _ _ _ _ HG.out).trans (tabCells_get _ (Nat.mod_lt _ (by omega)))
      have e3 := u32_xor_step z (tbl.getD (z % 16) 0) l2 (tbl_lt _)
      have hy5 : nib z = (z / 16) ^^^ tbl.getD (z % 16) 0 := rfl
      rw [← hy5] at e3
      generalize hy6 : tbl.getD (z % 16) 0 = t2 at *
      have hfin : cb m x = nib z := by unfold cb; rw [hy1, hy4]
      rw [hfin] at hsn
      generalize nib z = z3 at *
      clear hxx hy1 hy2 hy3 hy4 hy5 hy6 hfin
      unfold V32
      go_wp2
      go_round
      case rel => exact ⟨k + 1, by omega, by go_num, by rw [hsn.out]⟩
      case measure => simp [intOf]; omega
    · obtain rfl : k = bs.length := by omega
      rw [List.take_length] at h0 ⊢
      have hfin : more n bs = cpl (crcL (cpl n) bs) := rfl
      generalize crcL (cpl n) bs = m at *
      have hc := u32_not m h0
      have Hf := hid hfin; clear hfin
      unfold V32
      go_wp2
      go_ret
      exact ⟨by rw [Hf.out]; rfl, HW.out⟩
theorem crcP_snoc (n : Nat) (ps : List (List UInt8)) (k : Nat) (h : k < ps.length) : crcP n (ps.take (k + 1)) = more (crcP n (ps.take k)) ps[k] := by
  rw [List.take_succ_eq_append_getElem h]; unfold crcP; rw [List.foldl_append]; rfl
set_option maxHeartbeats 400000 in
theorem csum_any (a : Option Addr) (cap : Nat) (ps : List (List UInt8)) (w : World) (hl : ps.length ≤ maxLen) (hr : PartsAt w a ps) :
    Calls Try.prog 73 #[.slice a ps.length cap] w fun e w' => e = .returned (.int .u32 (crcP 0 ps)) ∧ Below w.heap.size w w' := by
  unfold maxLen at hl
  have HR := hid hr; clear hr
  go_enter Try.func73, Try.ntmps73
  go_wp2
  go_loopw [3,5,9,10,11,12,13,14,15,8] (fun t3 _ _ _ _ _ _ _ _ t8 wr => ∃ k : Nat, k ≤ ps.length ∧ t8 = .int .i64 k ∧ t3 = V32 (crcP 0 (ps.take k)) ∧ Below w.heap.size w wr) (fun t3 _ _ _ _ _ _ _ _ t8 wr => ps.length - (intOf t8).toNat)
  case atStart => exact ⟨0, by omega, rfl, rfl, Below.refl _ _⟩
  case round =>
    obtain ⟨k, hk, rfl, rfl, hb⟩ := hrel
    have h0 : crcP 0 (ps.take k) < 4294967296 := crcP_lt _ (by omega)
    by_cases hlt : k < ps.length
    · obtain ⟨b, off, v, c, rfl, hc, hr, hvc, hm⟩ := (HR.out.below hb (Nat.le_refl _)).part hlt
      have hsn := hid (crcP_snoc 0 ps k hlt)
      generalize crcP 0 (ps.take k) = m at *
      generalize ps[k] = p at *
      have HP := hid hr; clear hr
      have HB := hid hb; clear hb
      unfold V32
      go_wp2_with (go_at_call 88; refine (more_any _ _ _ _ _ h0 hm HP.out).mono ?_; rintro e W ⟨rfl, hbW⟩)
      go_roundw
      case rel => exact ⟨k + 1, by omega, by go_num, by rw [hsn.out], HB.out.trans (hbW.mono HB.out.size)⟩
      case measure => simp [intOf]; omega
    · obtain rfl : k = ps.length := by omega
      rw [List.take_length] at h0 ⊢
      unfold V32
      go_wp2
      go_ret
      exact ⟨rfl, hb⟩
end Go.Proofs.Ytpfmadinijofeaa
end
section
/- The program's slots: numbers, heads, bodies, places; walked. -/
namespace Go.Proofs.Ytpfmadinijofeaa
open Go.RowKit
theorem numByte (n x : Nat) (hx : x ≤ 7) : IntKind.u8.wrap (Int.fdiv (n : Int) (2 ^ (min (IntKind.i64.wrap (8 * (x : Int))).toNat (IntKind.bits .u64)))) = ((UInt8.ofNat (n / 2 ^ (8 * x) % 256)).toNat : Int) := by
  rw [wr64 (by omega) (by omega), show (8 * (x : Int)).toNat = 8 * x by omega, show min (8 * x) (IntKind.bits .u64) = 8 * x from Nat.min_eq_left (show 8 * x ≤ 64 by omega)]
  rw [ofNat_toNat (Nat.mod_lt _ (by omega)), IntKind.wrap_u8]
  have e : ((2 : Int) ^ (8 * x)) = ((2 ^ (8 * x) : Nat) : Int) := by rw [Int.natCast_pow]; rfl
  rw [e]
  clear e
  generalize 2 ^ (8 * x) = p
  rw [Int.fdiv_eq_ediv_of_nonneg _ (Int.natCast_nonneg p), ← Int.natCast_ediv]
  omega
/-- One byte more. -/
theorem appU {w0 w : World} {n1 n c : Nat} {a : Option Addr} {xs : List UInt8} {b : UInt8} {v : Value} {gs : List Nat} {K : Nat → Option Addr → Nat → World → Prop} (B : Bs w0 w) (o : Own w n1 5 1 (.slice a n c) n (xs.map bV)) (h1 : w0.heap.size ≤ n1) (h2 : n1 ≤ w.heap.size) (hl : n ≤ 1000000000)
    (hv : v = bV b) (hg : ∀ g ∈ gs, g < n1)
    (k : ∀ a' c' w2, Own w2 n1 5 1 (.slice a' (n + 1) c') (n + 1) ((xs ++ [b]).map bV) → Bs w0 w2 → w.heap.size ≤ w2.heap.size → K 1 a' c' w2) :
    newO w (.cells #[v] 5) fun g w1 => appO Try.prog gs w1 5 1 1 22 a n c (.slice (some ⟨g, 0, none⟩) 1 1) K := by
  subst hv
  refine newB B fun g w1 g0 sg n1' z1 b1 B1 => appB B1 (o.below b1 (Nat.le_refl _)) h1 (Nat.le_trans h2 b1.size) (src_block (cs := [bV b]) Try.underlying22 n1' rfl rfl) (by unfold maxLen; omega) (by omega) (fun g hg' e => by have := (o.lt g e).1; have := hg g hg'; omega) fun a' c' w2 o2 g2 B2 z2 => k a' c' w2 ?_ B2 (Nat.le_trans b1.size z2)
  rw [List.map_append]
  exact o2
theorem own_lit {w : World} {g base : Nat} {bs : List UInt8} (h : w.heap[g]? = some (.cells (bs.map bV).toArray 5 (0, 0))) (hg : base ≤ g) (hl : bs.length ≤ maxLen) : Own w base 5 1 (.slice (some ⟨g, 0, none⟩) bs.length bs.length) bs.length (bs.map bV) :=
  ⟨by simp, .inr ⟨g, 0, bs.length, (bs.map bV).toArray, rfl, hg, h, Nat.le_refl _, hl, by simp, by rw [Nat.mul_one]; exact List.take_of_length_le (by simp)⟩⟩
theorem srcB {w : World} {a : Option Addr} {c : Nat} {bs : List UInt8} (h : RowAt w a (bs.map bV)) : Src Try.prog 1 22 (.slice a bs.length c) bs.length (bs.map bV) w := by
  have hs := Src.ofRow (P := Try.prog) (w := w) Try.underlying22 a c (bs.map bV) h (fun u hu => by obtain ⟨x, _, rfl⟩ := List.mem_map.1 hu; rfl)
  rwa [List.length_map] at hs
def NewB (w0 : World) (n1 : Nat) (bs : List UInt8) (e : Ending) (w' : World) : Prop := ∃ a c, e = .returned (.slice a bs.length c) ∧ Own w' n1 5 1 (.slice a bs.length c) bs.length (bs.map bV) ∧ Bs w0 w'
theorem number_on {w0 w : World} (B : Bs w0 w) {n1 c : Nat} {a : Option Addr} {xs : List UInt8} (o : Own w n1 5 1 (.slice a xs.length c) xs.length (xs.map bV)) (h1 : w0.heap.size ≤ n1) (h2 : n1 ≤ w.heap.size) (hl : xs.length ≤ 1000000) (n k : Nat) (hk : k ≤ 8) :
    Calls Try.prog 74 #[.slice a xs.length c, .int .u64 (n : Int), .int .i64 (k : Int)] w fun e w' => NewB w0 n1 (xs ++ beB n k) e w' ∧ w.heap.size ≤ w'.heap.size := by
  refine (GSn.number_calls a xs.length c n k w (fun v w' => ∃ a c, v = .slice a (xs ++ beB n k).length c ∧ Own w' n1 5 1 (.slice a (xs ++ beB n k).length c) (xs ++ beB n k).length ((xs ++ beB n k).map bV) ∧ Bs w0 w' ∧ w.heap.size ≤ w'.heap.size) ?_).mono (by rintro e w' ⟨v, rfl, a, c, rfl, h1, h2, h3⟩; exact ⟨⟨a, c, rfl, h1, h2⟩, h3⟩)
  unfold GSn.number_vc
  refine ⟨fun a2 m c2 x w2 => ∃ j : Nat, j ≤ k ∧ x = (k : Int) - 1 - j ∧ m = (xs ++ beJ n k j).length ∧ Own w2 n1 5 1 (.slice a2 m c2) m ((xs ++ beJ n k j).map bV) ∧ Bs w0 w2 ∧ w.heap.size ≤ w2.heap.size, fun _ _ _ x _ => (x + 1).toNat, ⟨0, by omega, by rw [wr64 (by omega) (by omega)]; omega, by simp [beJ], by simpa [beJ] using o, B, Nat.le_refl _⟩, ?_⟩
  rintro a2 m c2 x w2 ⟨j, hj, rfl, rfl, o2, B2, z2⟩
  refine br_dec (fun h => ?_) fun h => ?_
  · have hl2 : (xs ++ beJ n k j).length = xs.length + j := by rw [List.length_append, beJ_len]
    obtain ⟨x, hx⟩ : ∃ x : Nat, (k : Int) - 1 - j = (x : Int) := ⟨k - 1 - j, by omega⟩
    rw [hx]
    refine ⟨by rw [wr64 (by omega) (by omega)]; omega, appU B2 o2 h1 (Nat.le_trans h2 z2) (by omega) (b := UInt8.ofNat (n / 2 ^ (8 * x) % 256)) (by rw [numByte n x (by omega)]; rfl) (fun g hg => by cases hg) fun a' c' w3 o3 B3 z3 => ⟨⟨j + 1, by omega, by rw [wr64 (by omega) (by omega)]; omega, ?_, ?_, B3, Nat.le_trans z2 z3⟩, by dsimp only; rw [wr64 (by omega) (by omega)]; omega⟩⟩
    · simp only [List.length_append, beJ_succ, List.length_singleton]; omega
    · rw [beJ_succ, show k - 1 - j = x by omega, ← List.append_assoc]
      exact o3
  · obtain rfl : j = k := by omega
    exact ⟨a2, c2, rfl, o2, B2, z2⟩
theorem room_ret (z : Int) (w : World) : Calls Try.prog 32 #[.int .i64 z] w (Ret (.int .i64 (roomZ z)) w) := by
  refine ret_in (GSn.room_calls z w (fun u w' => u = .int .i64 (roomZ z) ∧ Below w.heap.size w w') ?_)
  unfold GSn.room_vc roomZ
  refine br_dec (fun h => ⟨by rw [if_pos (.inl h)], Bs.refl _⟩) fun h => br_dec (fun h2 => ⟨by rw [if_pos (.inr h2)], Bs.refl _⟩) fun h2 => ⟨?_, Bs.refl _⟩
  rw [if_neg (by omega), wr64 (z := z - 1) (by omega) (by omega), wr64 (by omega) (by omega)]
theorem head_new (gen : Nat) (hg : gen < 9223372036854775808) {a : Option Addr} {c : Nat} {im : List UInt8} (w : World) (hr : RowAt w a (im.map bV)) (hl : im.length ≤ 1000000) (hc : im.length ≤ c) :
    Calls Try.prog 52 #[.int .i64 (gen : Int), .slice a im.length c] w (NewB w w.heap.size (headK gen im)) := by
  refine (GSn.head_calls gen a im.length c w (fun v w' => ∃ a c, v = .slice a (headK gen im).length c ∧ Own w' w.heap.size 5 1 (.slice a (headK gen im).length c) (headK gen im).length ((headK gen im).map bV) ∧ Bs w w') ?_).mono (by rintro e w' ⟨v, rfl, a, c, rfl, h⟩; exact ⟨a, c, rfl, h⟩)
  unfold GSn.head_vc
  rw [wru64 (by omega) (by omega), wru64 (by omega) (by omega)]
  refine (number_on (Bs.refl w) (xs := []) (Own.nil w w.heap.size 5 1) (Nat.le_refl _) (Nat.le_refl _) (by simp) gen 8 (by omega)).mono ?_
  rintro e w2 ⟨⟨a2, c2, rfl, o2, B2⟩, z2⟩
  rw [List.nil_append] at o2 ⊢
  refine ⟨keepG_nil _ _, a2, _, c2, rfl, (number_on B2 o2 (Nat.le_refl _) z2 (by rw [beB_len]; omega) im.length 8 (by omega)).mono ?_⟩
  rintro e w3 ⟨⟨a3, c3, he, o3, B3⟩, z3⟩
  rw [show beB gen 8 ++ beB im.length 8 = headH gen im.length from rfl] at he o3
  subst he
  refine ⟨keepG_nil _ _, a3, _, c3, rfl, ?_⟩
  show newO w3 (.cells #[.slice a3 (headH gen im.length).length c3, _] _) _
  have hpl := headH_len gen im.length
  refine newB B3 fun g w4 g0 sg n4 z4 b4 B4 => ?_
  have o4 := o3.below b4 (Nat.le_refl _)
  have hp : PartsAt w4 (some ⟨g, 0, none⟩) [headH gen im.length, im] := by
    refine ⟨[(a3, c3), (a, c)], RowAt.ofWhole n4, rfl, fun v p hm => ?_⟩
    simp at hm
    rcases hm with ⟨rfl, rfl⟩ | ⟨rfl, rfl⟩
    · exact ⟨o4.row, o4.cap.1, by unfold maxLen; omega⟩
    · exact ⟨hr.below B4 (Nat.le_refl _), hc, by unfold maxLen; omega⟩
  refine (csum_any (some ⟨g, 0, none⟩) 2 [headH gen im.length, im] w4 (by show 2 ≤ maxLen; decide) hp).mono ?_
  rintro e w5 ⟨rfl, b5⟩
  have B5 := B4.to b5
  have o5 := o4.below b5 (Nat.le_refl _)
  have hcr : crcP 0 [headH gen im.length, im] = more 0 (headH gen im.length ++ im) := by
    rw [crcP_join]
    simp
  have hlt : more 0 (headH gen im.length ++ im) < 4294967296 := more_lt _ (by omega)
  rw [hcr]
  refine ⟨keepG_nil _ _, _, rfl, newB B5 fun g2 w6 g20 sg2 n6 z6 b6 B6 => ?_⟩
  have o6 := o5.below b6 (Nat.le_refl _)
  have h3 : Own w6 w5.heap.size 5 1 (.slice (some ⟨g2, 0, none⟩) 1 1) 1 (([3] : List UInt8).map bV) := own_lit (bs := [3]) n6 (by omega) (by unfold maxLen; decide)
  refine appB (n1 := w5.heap.size) B6 h3 B5.size (by omega) (srcB o6.row) (by unfold maxLen; omega) (by omega) (fun q hq => by cases hq) fun a' c' w7 o7 g7 B7 z7 => ?_
  have o7 : Own w7 w5.heap.size 5 1 (.slice a' (([3] : List UInt8) ++ headH gen im.length).length c') (([3] : List UInt8) ++ headH gen im.length).length ((([3] : List UInt8) ++ headH gen im.length).map bV) := by
    rw [List.map_append, List.length_append]
    exact o7
  rw [show IntKind.u64.wrap ((more 0 (headH gen im.length ++ im) : Nat) : Int) = ((more 0 (headH gen im.length ++ im) : Nat) : Int) from wru64 (by omega) (by omega)]
  have e7 : 1 + (headH gen im.length).length = (([3] : List UInt8) ++ headH gen im.length).length := by rw [List.length_append]; rfl
  rw [e7]
  refine (number_on B7 o7 B5.size (by omega) (by simp [hpl]) (more 0 (headH gen im.length ++ im)) 4 (by omega)).mono ?_
  rintro e w8 ⟨⟨a8, c8, rfl, o8, B8⟩, z8⟩
  refine ⟨keepG_nil _ _, a8, _, c8, rfl, ?_⟩
  have hl8 : (([3] : List UInt8) ++ headH gen im.length ++ beB (more 0 (headH gen im.length ++ im)) 4).length = 21 := by simp [hpl, beB_len]
  rw [hl8] at o8 ⊢
  rw [show IntKind.i64.wrap (64 - ((21 : Nat) : Int)) = 43 by decide]
  refine ⟨by decide, _, o8.base_le fun _ _ => Nat.zero_le _, by unfold maxLen; decide, by decide, fun q hq => (by cases hq), fun a9 c9 w9 o9 g9 or9 => ⟨a9, c9, ?_, ?_, ?_⟩⟩
  · rw [headK_len]; rfl
  · rw [headK_len]
    have e9 : ((([3] : List UInt8) ++ headH gen im.length ++ beB (more 0 (headH gen im.length ++ im)) 4).map bV) ++ repL (43 : Int).toNat [.int .u8 0] = (headK gen im).map bV := by
      unfold headK zerosB
      rw [List.map_append (l₂ := List.replicate 43 0), List.map_replicate]
      rfl
    rw [e9] at o9
    refine o9.base_le fun q hq => ?_
    rcases or9 with h | ⟨g, h, h3⟩
    · exact Nat.le_trans B5.size (o8.lt q (h ▸ hq)).1
    · rw [h] at hq; injection hq with hq; have := B8.size; omega
  · exact ⟨g9.os.trans B8.os, g9.tape.trans B8.tape, g9.output.trans B8.output, Nat.le_trans B8.size g9.size, fun q hq => (g9.block q (by have := B8.size; omega) fun e => by have := (o8.lt q e.symm).1; have := B5.size; omega).trans (B8.block q hq)⟩
end Go.Proofs.Ytpfmadinijofeaa
end
section
/- The program's slots: saving; walked. -/
namespace Go.Proofs.Ytpfmadinijofeaa
open Go.RowKit
theorem DkAt.bs {w w1 : World} {g gl mb : Nat} {S : DS} (h : DkAt w g gl mb S) (B : Bs w w1) : DkAt w1 g gl mb S := h.below B
theorem RowAt.bs {w w1 : World} {a : Option Addr} {vs : List Value} (h : RowAt w a vs) (B : Bs w w1) : RowAt w1 a vs := h.below B (Nat.le_refl _)
theorem zerosB_succ (n : Nat) : zerosB (n + 1) = zerosB n ++ [0] := List.replicate_succ'
theorem zerosB_len (n : Nat) : (zerosB n).length = n := List.length_replicate
theorem whole_new {a : Option Addr} {c : Nat} {im : List UInt8} (w : World) (hr : RowAt w a (im.map bV)) (hl : im.length ≤ 1000000) : Calls Try.prog 51 #[.slice a im.length c] w (NewB w w.heap.size (bodyB im)) := by
  refine (GSn.whole_calls a im.length c w (fun v w' => ∃ a c, v = .slice a (bodyB im).length c ∧ Own w' w.heap.size 5 1 (.slice a (bodyB im).length c) (bodyB im).length ((bodyB im).map bV) ∧ Bs w w') ?_).mono (by rintro e w' ⟨v, rfl, a, c, rfl, h⟩; exact ⟨a, c, rfl, h⟩)
  unfold GSn.whole_vc
  refine newB (Bs.refl w) fun g w2 g0 sg n2 z2 b2 B2 => ?_
  have o2 : Own w2 w.heap.size 5 1 (.slice (some ⟨g, 0, none⟩) 0 0) 0 (([] : List UInt8).map bV) := own_lit (bs := []) n2 g0 (Nat.zero_le _)
  refine appB B2 o2 (Nat.le_refl _) B2.size (srcB (hr.bs B2)) (by unfold maxLen; omega) (by omega) (fun q hq => by cases hq) fun a' c' w3 o3 g3 B3 z3 => ?_
  have o3 : Own w3 w.heap.size 5 1 (.slice a' (0 + im.length) c') (0 + im.length) (im.map bV) := o3
  refine ⟨fun a3 m c3 wx => ∃ j : Nat, j ≤ (64 - im.length % 64) % 64 ∧ m = (im ++ zerosB j).length ∧ Own wx w.heap.size 5 1 (.slice a3 m c3) m ((im ++ zerosB j).map bV) ∧ Bs w wx, fun _ m _ _ => im.length + 64 - m, ⟨0, Nat.zero_le _, by simp [zerosB], by simpa [zerosB] using o3, B3⟩, ?_⟩
  rintro a3 m c3 wx ⟨j, hj, rfl, ox, Bx⟩
  have hl2 : (im ++ zerosB j).length = im.length + j := by rw [List.length_append, zerosB_len]
  refine ⟨by decide, ?_⟩
  rw [tmod64]
  refine br_dec (fun h => ?_) fun h => ?_
  · refine appU Bx ox (Nat.le_refl _) Bx.size (by omega) (b := 0) rfl (fun q hq => by cases hq) fun a4 c4 w4 o4 B4 z4 => ⟨⟨j + 1, by omega, ?_, ?_, B4⟩, by dsimp only; omega⟩
    · rw [List.length_append, List.length_append, zerosB_len, zerosB_len]; omega
    · rw [zerosB_succ, ← List.append_assoc]; exact o4
  · obtain rfl : j = (64 - im.length % 64) % 64 := by omega
    exact ⟨a3, c3, rfl, ox, Bx⟩
def plV (p : Option Addr) (q size slot : Int) : Value := .agg #[.pointer p, .int .i64 q, .int .i64 size, .int .i64 slot]
theorem at_nil (first size slot : Int) (w : World) : Calls Try.prog 49 #[.pointer none, .int .i64 first, .int .i64 size, .int .i64 slot] w (Ret (.tuple #[plV none 0 0 0, .int .i64 1]) w) := by
  refine ret_in (GSn.at_calls none first size slot w (fun u w' => u = .tuple #[plV none 0 0 0, .int .i64 1] ∧ Below w.heap.size w w') ?_)
  unfold GSn.at_vc
  exact newB (Bs.refl w) fun g w2 g0 sg n2 z2 b2 B2 => br_t rfl (boxB B2 g0 fun w3 x3 B3 s3 => ⟨rfl, B3⟩)
theorem at_ret {w : World} {g gl mb : Nat} {S : DS} (h : DkAt w g gl mb S) (hW : DWf S) (first size slot : Int) (h1 : -9223372036854775808 ≤ first) (h2 : first ≤ 9223372036854775807) (h3 : -9223372036854775808 ≤ size) (h4 : size ≤ 9223372036854775807) (hs : slot = 0 ∨ slot = 1) :
    Calls Try.prog 49 #[.pointer (some ⟨g, 0, none⟩), .int .i64 first, .int .i64 size, .int .i64 slot] w (Ret (.tuple #[if atE S first size ≠ 0 then plV none 0 0 0 else plV (some ⟨g, 0, none⟩) (first + slot * size) size slot, .int .i64 (atE S first size)]) w) := by
  refine ret_in (GSn.at_calls (some ⟨g, 0, none⟩) first size slot w (fun u w' => u = .tuple #[if atE S first size ≠ 0 then plV none 0 0 0 else plV (some ⟨g, 0, none⟩) (first + slot * size) size slot, .int .i64 (atE S first size)] ∧ Below w.heap.size w w') ?_)
  unfold GSn.at_vc
  have n1 := hW.n1
  have n2' := hW.n2
  have e0 : ∀ q : first < 0 ∨ size < 1 ∨ size > (S.n : Int) / 2 ∨ first > S.n - 2 * size, Value.tuple #[plV none 0 0 0, .int .i64 1] = Value.tuple #[if atE S first size ≠ 0 then plV none 0 0 0 else plV (some ⟨g, 0, none⟩) (first + slot * size) size slot, .int .i64 (atE S first size)] := fun q => by
    have : atE S first size = 1 := by unfold atE; rw [if_pos q]
    rw [this]; rfl
  refine newB (Bs.refl w) fun g1 w2 g0 sg m2 z2 b2 B2 => br_f rfl (br_dec (fun q1 => boxB B2 g0 fun w3 x3 B3 s3 => ⟨e0 (.inl q1), B3⟩) fun q1 => br_dec (fun q2 => boxB B2 g0 fun w3 x3 B3 s3 => ⟨e0 (.inr (.inl q2)), B3⟩) fun q2 => ?_)
  refine callB B2 (dsize_ret (h.bs B2)) fun w3 b3 B3 => ⟨_, rfl, by decide, ?_⟩
  have et : Int.tdiv (S.n : Int) 2 = (S.n : Int) / 2 := Int.tdiv_eq_ediv_of_nonneg (by omega)
  rw [et, wr64 (by omega) (by omega)]
  refine br_dec (fun q3 => boxB B3 g0 fun w4 x4 B4 s4 => ⟨e0 (.inr (.inr (.inl q3))), B4⟩) fun q3 => callB B3 (dsize_ret (h.bs B3)) fun w4 b4 B4 => ⟨_, rfl, ?_⟩
  rw [wr64 (z := 2 * size) (by omega) (by omega), wr64 (z := (S.n : Int) - 2 * size) (by omega) (by omega)]
  refine br_dec (fun q4 => boxB B4 g0 fun w5 x5 B5 s5 => ⟨e0 (.inr (.inr (.inr q4))), B5⟩) fun q4 => boxB B4 g0 fun w5 x5 B5 s5 => ⟨?_, B5⟩
  have : atE S first size = 0 := by unfold atE; rw [if_neg (by omega)]
  rw [this]
  rcases hs with rfl | rfl
  · rw [wr64 (z := 0 * size) (by omega) (by omega), wr64 (by omega) (by omega)]; rfl
  · rw [wr64 (z := 1 * size) (by omega) (by omega), wr64 (by omega) (by omega)]; rfl
theorem box_ne {w : World} {g gl mb g1 : Nat} {S : DS} (h : DkAt w g gl mb S) (hg : w.heap.size ≤ g1) : ∀ k ∈ [g1], k ∉ [g, gl, mb] := fun k hk hm => by
  have := h.lt
  simp at hk hm
  omega
theorem pwrite_any {w : World} {g gl mb : Nat} {S : DS} (h : DkAt w g gl mb S) (hW : DWf S) {a : Option Addr} {c : Nat} {bs : List UInt8} (hr : RowAt w a (bs.map bV)) (hl : bs.length ≤ 60000000) (hc : bs.length ≤ c) (ha : ∀ q, a = some q → q.block ∉ [g, gl, mb])
    (q size slot ahead : Int) (h1 : -9223372036854775808 ≤ q + ahead) (h2 : q + ahead ≤ 9223372036854775807) :
    Calls Try.prog 50 #[plV (some ⟨g, 0, none⟩) q size slot, .int .i64 ahead, .slice a bs.length c] w (DDo w g gl mb (.int .i64 (pwE S (q + ahead) bs)) (pwD S (q + ahead) bs)) := by
  refine ddo_in (GSn.pwrite_calls (some ⟨g, 0, none⟩) q size slot ahead a bs.length c w (DDoV w g gl mb (.int .i64 (pwE S (q + ahead) bs)) (pwD S (q + ahead) bs)) ?_)
  unfold GSn.pwrite_vc
  refine newB (Bs.refl w) fun g1 w2 g0 sg n2 z2 b2 B2 => br_dec (fun q0 => ?_) fun q0 => ?_
  · have hn : bs = [] := List.eq_nil_of_length_eq_zero (by omega)
    exact ddo_no h B2 (by unfold pwE; rw [if_pos hn]) (by unfold pwD; rw [if_pos hn])
  have hn : bs ≠ [] := fun e => q0 (by rw [e]; rfl)
  rw [wr64 h1 h2]
  have t2 := h.bs B2
  refine (dwrite_any t2 hW (hr.bs B2) hl hc ha (q + ahead)).mono ?_
  rintro e w3 ⟨rfl, t3, f3⟩
  refine ⟨keepG_fr f3 (box_ne h g0), _, rfl, br_dec (fun q1 => ⟨?_, ?_, (Fr.ofBelow (L := [g, gl, mb]) B2).trans f3 (Gr.refl _ _)⟩) fun q1 => ?_⟩
  · unfold pwE; rw [if_neg hn, if_pos q1]
  · unfold pwD; rw [if_neg hn, if_pos q1]; exact t3
  have q1 : writeE S (q + ahead) bs = 0 := Decidable.not_not.1 q1
  refine (dsync_any t3 (hW.write _ _)).mono ?_
  rintro e w4 ⟨rfl, t4, f4⟩
  refine ⟨keepG_fr f4 (box_ne h g0), _, rfl, ?_, ?_, ((Fr.ofBelow (L := [g, gl, mb]) B2).trans f3 (Gr.refl _ _)).trans f4 (Gr.refl _ _)⟩
  · unfold pwE; rw [if_neg hn, if_neg (not_not_intro q1)]
  · unfold pwD; rw [if_neg hn, if_neg (not_not_intro q1)]; exact t4
theorem save_nil (first size gen : Int) {a : Option Addr} {n c : Nat} (w : World) : Calls Try.prog 15 #[.pointer none, .int .i64 first, .int .i64 size, .int .i64 gen, .slice a n c] w (Ret (.int .i64 1) w) := by
  refine ret_in (GSn.save_calls none first size gen a n c w (fun u w' => u = .int .i64 1 ∧ Below w.heap.size w w') ?_)
  unfold GSn.save_vc
  exact callB (Bs.refl w) (at_nil _ _ _ w) fun w2 b2 B2 => ⟨_, _, _, _, _, rfl, newB B2 fun g w3 g0 sg n3 z3 b3 B3 => boxB B3 g0 fun w4 x4 B4 s4 => br_y (by decide) ⟨rfl, B4⟩⟩
theorem save_any {w : World} {g gl mb : Nat} {S : DS} (h : DkAt w g gl mb S) (hW : DWf S) {a : Option Addr} {c : Nat} {im : List UInt8} (hr : RowAt w a (im.map bV)) (hl : im.length ≤ 1000000) (hc : im.length ≤ c) (ha : ∀ q, a = some q → q.block ∉ [g, gl, mb])
    (first size gen : Int) (h1 : -9223372036854775808 ≤ first) (h2 : first ≤ 9223372036854775807) (h3 : -9223372036854775808 ≤ size) (h4 : size ≤ 9223372036854775807) (h5 : gen ≤ 9223372036854775807) :
    Calls Try.prog 15 #[.pointer (some ⟨g, 0, none⟩), .int .i64 first, .int .i64 size, .int .i64 gen, .slice a im.length c] w (DDo w g gl mb (.int .i64 (saveE S first size gen im)) (saveD S first size gen im)) := by
  refine ddo_in (GSn.save_calls (some ⟨g, 0, none⟩) first size gen a im.length c w (DDoV w g gl mb (.int .i64 (saveE S first size gen im)) (saveD S first size gen im)) ?_)
  unfold GSn.save_vc
  rw [i64_and1]
  have hm : gen % 2 = 0 ∨ gen % 2 = 1 := by omega
  refine callB (Bs.refl w) (at_ret h hW first size (gen % 2) h1 h2 h3 h4 hm) fun w2 b2 B2 => ?_
  by_cases q0 : atE S first size = 0
  · rw [if_neg (not_not_intro q0), q0]
    have hb : 0 ≤ first ∧ 1 ≤ size ∧ 2 * size ≤ S.n ∧ first + 2 * size ≤ S.n := by
      unfold atE at q0
      split at q0
      · omega
      · rename_i hq; omega
    obtain ⟨p1, p2, p3, p4⟩ := hb
    have n2' := hW.n2
    have hq : slotAt first size gen = first + gen % 2 * size := rfl
    have hqb : 0 ≤ slotAt first size gen ∧ slotAt first size gen + size ≤ S.n := by
      rw [hq]
      rcases hm with e | e <;> rw [e] <;> omega
    refine ⟨_, _, _, _, _, rfl, newB B2 fun g1 w3 g0 sg n3 z3 b3 B3 => boxB B3 g0 fun w4 x4 B4 s4 => br_n (by omega) (br_dec (fun q1 => ?_) fun q1 => ?_)⟩
    · exact ddo_no h B4 (by unfold saveE; rw [if_neg (not_not_intro q0), if_pos q1]) (by unfold saveD; rw [if_neg (not_not_intro q0), if_pos q1])
    refine callB B4 (room_ret size w4) fun w5 b5 B5 => ⟨_, rfl, br_dec (fun q2 => ?_) fun q2 => drewB B5 fun w6 b6 B6 e6 => ?_⟩
    · exact ddo_no h B5 (by unfold saveE; rw [if_neg (not_not_intro q0), if_neg q1, if_pos q2]) (by unfold saveD; rw [if_neg (not_not_intro q0), if_neg q1, if_pos q2])
    refine (whole_new w6 (hr.bs B6) hl).mono ?_
    rintro e w7 ⟨a7, c7, rfl, o7, b7⟩
    have B7 := B6.to b7
    refine ⟨keepG_below b7, a7, _, c7, rfl, ?_⟩
    have hn7 : ∀ q, a7 = some q → q.block ∉ [g, gl, mb] := fun q hq hm => by
      subst hq
      have := (o7.lt q.block rfl).1
      have := h.lt
      have := B6.size
      simp at hm
      omega
    rw [← hq]
    refine (pwrite_any (h.bs B7) hW o7.row (by rw [bodyB_len]; omega) o7.cap.1 hn7 (slotAt first size gen) size (gen % 2) 1 (by omega) (by omega)).mono ?_
    rintro e w8 ⟨rfl, t8, f8⟩
    have F8 : Fr [g, gl, mb] w w8 := (Fr.ofBelow (L := [g, gl, mb]) B7).trans f8 (Gr.refl _ _)
    refine ⟨keepG_fr f8 (box_ne h g0), _, rfl, br_dec (fun q3 => ⟨?_, ?_, F8⟩) fun q3 => drewO_in fun w9 b9 e9 => ?_⟩
    · unfold saveE; rw [if_neg (not_not_intro q0), if_neg q1, if_neg q2, if_pos q3]
    · unfold saveD; rw [if_neg (not_not_intro q0), if_neg q1, if_neg q2, if_pos q3]; exact t8
    have hr9 : RowAt w9 a (im.map bV) := ((hr.frL F8 ha).bs b9)
    obtain ⟨k, rfl⟩ : ∃ k : Nat, gen = (k : Int) := ⟨gen.toNat, by omega⟩
    refine (head_new k (by omega) w9 hr9 hl hc).mono ?_
    rintro e w10 ⟨a10, c10, rfl, o10, b10⟩
    refine ⟨keepG_below b10, a10, _, c10, rfl, ?_⟩
    have z6 := F8.size
    have z9 := b9.size
    have hn10 : ∀ q, a10 = some q → q.block ∉ [g, gl, mb] := fun q hq hm => by
      subst hq
      have := (o10.lt q.block rfl).1
      have := h.lt
      simp at hm
      omega
    refine (pwrite_any ((t8.bs b9).bs b10) (hW.pw _ _) o10.row (by rw [headK_len]; omega) o10.cap.1 hn10 (slotAt first size k) size ((k : Int) % 2) 0 (by omega) (by omega)).mono ?_
    rintro e w11 ⟨rfl, t11, f11⟩
    rw [Int.add_zero] at t11 ⊢
    refine ⟨keepG_fr f11 (box_ne h g0), _, rfl, ?_, ?_, ((F8.b b9).b b10).trans f11 (Gr.refl _ _)⟩
    · unfold saveE; rw [if_neg (not_not_intro q0), if_neg q1, if_neg q2, if_neg q3, Int.toNat_natCast]
    · unfold saveD; rw [if_neg (not_not_intro q0), if_neg q1, if_neg q2, if_neg q3, Int.toNat_natCast]; exact t11
  · have e1 : atE S first size = 1 := by
      unfold atE at q0 ⊢
      split
      · rfl
      · rename_i hq; rw [if_neg hq] at q0; exact absurd rfl q0
    rw [if_pos q0, e1]
    exact ⟨_, _, _, _, _, rfl, newB B2 fun g1 w3 g0 sg n3 z3 b3 B3 => boxB B3 g0 fun w4 x4 B4 s4 => br_y (by decide) (ddo_no h B4 (by unfold saveE; rw [if_pos q0]) (by unfold saveD; rw [if_pos q0]))⟩
end Go.Proofs.Ytpfmadinijofeaa
end
section
/- The program's slots: reading, loading; walked. -/
namespace Go.Proofs.Ytpfmadinijofeaa
open Go.RowKit
/-- What the reading of a slot returns. -/
def RdB (w : World) (gen : Int) (im : List UInt8) (er : Int) (v : Value) (w' : World) : Prop :=
  ∃ a c, v = .tuple #[.int .i64 gen, .slice a im.length c, .int .i64 er] ∧ Own w' w.heap.size 5 1 (.slice a im.length c) im.length (im.map bV) ∧ Bs w w'
theorem rdb_in {P : Program} {f : FuncId} {av : Array Value} {w : World} {gen er : Int} {im : List UInt8} (h : Calls P f av w fun e w' => ∃ v, e = .returned v ∧ RdB w gen im er v w') :
    Calls P f av w fun e w' => ∃ a c, e = .returned (.tuple #[.int .i64 gen, .slice a im.length c, .int .i64 er]) ∧ Own w' w.heap.size 5 1 (.slice a im.length c) im.length (im.map bV) ∧ Bs w w' :=
  h.mono (by rintro e w' ⟨v, rfl, a, c, rfl, h⟩; exact ⟨a, c, rfl, h⟩)
theorem rdb_none {w wx : World} {gen er : Int} {im : List UInt8} (B : Bs w wx) (hg : gen = 0) (hi : im = []) {z : Int} (hz : z = er) : RdB w gen im er (.tuple #[.int .i64 0, .slice none 0 0, .int .i64 z]) wx := by
  subst hg; subst hi; subst hz
  exact ⟨none, 0, rfl, Own.nil _ _ _ _, B⟩
def readN (b : List UInt8) (size slot : Int) : Int := genO (slotG b size slot)
theorem step_val (x : Int) (y : UInt8) : bitsV .or .i64 (IntKind.i64.wrap (x * 2 ^ (min (8 : Int).toNat (IntKind.bits .i64)))) (IntKind.i64.wrap (y.toNat : Int)) = stepI x y.toNat := rfl
section
variable {t : List UInt8} {k : Nat} {y : UInt8}
theorem f0_lt (hk : k < 8) (hy : t[k]? = some y) : foldI 0 ((t.take (k + 1)).take 8) = stepI (foldI 0 ((t.take k).take 8)) y.toNat := by
  rw [List.take_take, List.take_take, Nat.min_eq_right (by omega), Nat.min_eq_right (by omega), List.take_add_one, hy]
  exact foldI_snoc _ _ _
theorem f1_lt (hk : k < 8) : foldI 0 ((t.take (k + 1)).drop 8) = foldI 0 ((t.take k).drop 8) := by
  rw [List.drop_eq_nil_of_le (by rw [List.length_take]; omega), List.drop_eq_nil_of_le (by rw [List.length_take]; omega)]
theorem f0_ge (hk : 8 ≤ k) : foldI 0 ((t.take (k + 1)).take 8) = foldI 0 ((t.take k).take 8) := by
  rw [List.take_take, List.take_take, Nat.min_eq_left (by omega), Nat.min_eq_left (by omega)]
theorem f1_ge (hk : 8 ≤ k) (hy : t[k]? = some y) : foldI 0 ((t.take (k + 1)).drop 8) = stepI (foldI 0 ((t.take k).drop 8)) y.toNat := by
  have hl : k < t.length := (List.getElem?_eq_some_iff.1 hy).1
  rw [List.take_add_one, hy, List.drop_append_of_le_length (by rw [List.length_take]; omega)]
  exact foldI_snoc _ _ _
end
theorem RowAt.keepB {w w1 : World} {a : Option Addr} {vs : List Value} (h : RowAt w a vs) (hk : ∀ q, a = some q → w1.heap[q.block]? = w.heap[q.block]?) : RowAt w1 a vs := by
  rcases h with h | ⟨b, off, rfl, hc⟩
  · exact .inl h
  · refine .inr ⟨b, off, rfl, fun i v hv => ?_⟩
    rw [← hc i v hv]
    simp only [World.cell?]
    rw [hk _ rfl]
theorem row_base {w : World} {a : Option Addr} {c : Nat} {bs : List UInt8} (h : RowAt w a (bs.map bV)) (hl : bs.length ≤ c) (l : Nat) : RowAt w (sliceBase a c l 1) ((bs.drop l).map bV) := by
  unfold sliceBase
  split
  · left; rw [List.drop_of_length_le (by omega)]; rfl
  · rcases h with h | ⟨b, off, rfl, hc⟩
    · left
      have : bs = [] := by simpa using h
      subst this; simp
    · have := RowAt.drop (w := w) (.inr ⟨b, off, rfl, hc⟩) l
      rw [List.map_drop]
      simpa [Addr.add_lit] using this
theorem drop16 {b : List UInt8} : ((b.drop 1).take 16).take 8 = (b.drop 1).take 8 ∧ ((b.drop 1).take 16).drop 8 = (b.drop 9).take 8 := by
  refine ⟨by rw [List.take_take]; rfl, ?_⟩
  rw [List.drop_take, List.drop_drop]
set_option maxRecDepth 20000 in
set_option maxHeartbeats 800000 in
theorem pread_new {w : World} {g gl mb : Nat} {S : DS} (h : DkAt w g gl mb S) (hW : DWf S) (q size slot : Int) (h0 : 0 ≤ q) (h1 : 1 ≤ size) (h2 : q + size ≤ S.n) :
    Calls Try.prog 57 #[plV (some ⟨g, 0, none⟩) q size slot] w fun e w' => ∃ a c, e = .returned (.tuple #[.int .i64 (if S.off = true then 0 else genO (slotG (readL S q size) size slot)), .slice a (if S.off = true then [] else imO (slotG (readL S q size) size slot)).length c, .int .i64 (mayE S q size)]) ∧
      Own w' w.heap.size 5 1 (.slice a (if S.off = true then [] else imO (slotG (readL S q size) size slot)).length c) (if S.off = true then [] else imO (slotG (readL S q size) size slot)).length ((if S.off = true then [] else imO (slotG (readL S q size) size slot)).map bV) ∧ Bs w w' := by
  refine rdb_in (GSn.pread_calls (some ⟨g, 0, none⟩) q size slot w (RdB w _ _ _) ?_)
  unfold GSn.pread_vc
  have n2' := hW.n2
  refine newB (Bs.refl w) fun g1 w2 g0 sg n2 z2 b2 B2 => ?_
  refine (dread_new (h.bs B2) hW q size).mono ?_
  rintro e w3 ⟨a, m, c, rfl, rfl, o3, b3⟩
  have B3 := B2.to b3
  refine ⟨keepG_below b3, a, _, c, _, rfl, br_dec (fun hm => ?_) fun hm => ?_⟩
  · have ho : S.off = true := by
      unfold mayE at hm
      by_cases hh : S.off = true
      · exact hh
      · rw [if_neg hh, if_pos (by omega)] at hm; exact absurd rfl hm
    exact rdb_none B3 (by rw [if_pos ho]) (by rw [if_pos ho]) rfl
  have hm : mayE S q size = 0 := Decidable.not_not.1 hm
  have ho : S.off = false := (mayE_zero hm).1
  have hno : ¬ (S.off = true) := by rw [ho]; decide
  rw [if_neg hno, if_neg hno, hm]
  have hlen : (readL S q size).length = size.toNat * 64 := by
    unfold readL
    rw [if_pos hm, readS_len hW]
  generalize hb : readL S q size = b at o3 hlen ⊢
  have hb64 : 64 ≤ b.length := by omega
  have cap := o3.cap.1
  have s3 := b3.size
  refine newB B3 fun gn w4 gn0 sgn n4 z4 b4 B4 => ⟨by omega, by omega, by omega, ?_⟩
  have k4 : Bk w4 gn #[.int .i64 0, .int .i64 0] 37 := n4
  have r4 := (o3.below b4 (Nat.le_refl _)).row
  have han : ∀ p, a = some p → p.block ∉ [gn] := fun p hp hm => by
    subst hp
    have := (o3.lt p.block rfl).2
    simp at hm
    omega
  have hbl : ((b.drop 1).take 16).length = 16 := by rw [List.length_take, List.length_drop]; omega
  obtain ⟨d1, d2⟩ := drop16 (b := b)
  obtain ⟨t, ht⟩ : ∃ t, t = (b.drop 1).take 16 := ⟨_, rfl⟩
  have hget : ∀ k (hk : k < 16), t[k]? = some (b[1 + k]'(by omega)) := fun k hk => by
    rw [ht, List.getElem?_take_of_lt hk, List.getElem?_drop, List.getElem?_eq_getElem]
  rw [← ht] at hbl d1 d2
  refine ⟨fun x wx => ∃ k : Nat, x = k ∧ k ≤ 16 ∧ Bk wx gn #[.int .i64 (foldI 0 ((t.take k).take 8)), .int .i64 (foldI 0 ((t.take k).drop 8))] 37 ∧ RowAt wx a (b.map bV) ∧ Bs w wx ∧ w4.heap.size ≤ wx.heap.size, fun x _ => (16 - x).toNat, ⟨0, rfl, by omega, by simpa [foldI] using k4, r4, B4, Nat.le_refl _⟩, ?_⟩
  rintro x wx ⟨k, rfl, hk, kx, rx, Bx, zx⟩
  refine br_dec (fun hlt => ?_) fun hge => ?_
  · have hk16 : k < 16 := by omega
    obtain ⟨b', off, rfl, hcell⟩ := rx.byte (k := 1 + k) (by omega)
    obtain ⟨b2', off2, hsb, hc2⟩ := sliceBase_cell (c := c) (l := 1) (s := 1) (j := k) (by omega) (by rw [Nat.mul_one, Nat.add_assoc]; exact hcell)
    refine withP_mk b2' off2 hsb ⟨by omega, by omega, _, by rw [Int.toNat_natCast, Nat.mul_one]; exact hc2, by decide, by decide, ?_⟩
    have etd : Int.tdiv (k : Int) 8 = ((k / 8 : Nat) : Int) := by rw [Int.tdiv_eq_ediv_of_nonneg (by omega)]; omega
    rw [etd, wr64 (by omega) (by omega), Int.toNat_natCast]
    refine ⟨by omega, by omega, ?_⟩
    have hk1 : IntKind.i64.wrap ((k : Int) + 1) = ((k + 1 : Nat) : Int) := by rw [wr64 (by omega) (by omega)]; omega
    by_cases h8 : k < 8
    · rw [show k / 8 = 0 by omega]
      refine ⟨_, by rw [kx.cell]; rfl, by decide, by decide, by decide, ?_⟩
      rw [step_val, ← f0_lt h8 (hget k hk16)]
      refine stO_bk kx (by simp) (fun y hy e => by simp at hy; omega) fun w6 k6 f6 s6 => ⟨⟨k + 1, hk1, by omega, ?_, rx.frL f6 han, Bx.fr1 f6 gn0, by omega⟩, by dsimp only; rw [hk1]; omega⟩
      rw [f1_lt h8]
      exact k6
    · rw [show k / 8 = 1 by omega]
      refine ⟨_, by rw [kx.cell]; rfl, by decide, by decide, by decide, ?_⟩
      rw [step_val, ← f1_ge (by omega) (hget k hk16)]
      refine stO_bk kx (by simp) (fun y hy e => by simp at hy; omega) fun w6 k6 f6 s6 => ⟨⟨k + 1, hk1, by omega, ?_, rx.frL f6 han, Bx.fr1 f6 gn0, by omega⟩, by dsimp only; rw [hk1]; omega⟩
      rw [f0_ge (by omega)]
      exact k6
  · obtain rfl : k = 16 := by omega
    rw [List.take_of_length_le (show t.length ≤ 16 by omega), d1, d2] at kx
    obtain ⟨r1, r2⟩ := foldI_rng ((b.drop 1).take 8)
    obtain ⟨r3, r4'⟩ := foldI_rng ((b.drop 9).take 8)
    have hG : slotG b size slot = if foldI 0 ((b.drop 1).take 8) < 1 ∨ foldI 0 ((b.drop 1).take 8) % 2 ≠ slot ∨ foldI 0 ((b.drop 9).take 8) < 0 ∨ foldI 0 ((b.drop 9).take 8) > roomZ size then none
      else if b.take 64 = headK (foldI 0 ((b.drop 1).take 8)).toNat ((b.drop 64).take (foldI 0 ((b.drop 9).take 8)).toNat) then some (foldI 0 ((b.drop 1).take 8), (b.drop 64).take (foldI 0 ((b.drop 9).take 8)).toNat) else none := rfl
    generalize foldI 0 ((b.drop 1).take 8) = G at *
    generalize foldI 0 ((b.drop 9).take 8) = N at *
    have no : ∀ {wy : World}, Bs w wy → slotG b size slot = none → RdB w (genO (slotG b size slot)) (imO (slotG b size slot)) 0 (.tuple #[.int .i64 0, .slice none 0 0, .int .i64 0]) wy := fun By hs => rdb_none By (by rw [hs]; rfl) (by rw [hs]; rfl) rfl
    refine drewB Bx fun w7 b7 B7 e7 => ⟨by decide, by decide, G, by rw [(kx.below b7).cell]; rfl, br_dec (fun q1 => no B7 (by rw [hG, if_pos (.inl q1)])) fun q1 => ?_⟩
    have k7 := kx.below b7
    refine ⟨by decide, by decide, G, by rw [k7.cell]; rfl, ?_⟩
    rw [i64_and1]
    refine br_dec (fun q2 => no B7 (by rw [hG, if_pos (.inr (.inl q2))])) fun q2 => ⟨by decide, by decide, N, by rw [k7.cell]; rfl, br_dec (fun q3 => no B7 (by rw [hG, if_pos (.inr (.inr (.inl q3)))])) fun q3 => ⟨by decide, by decide, N, by rw [k7.cell]; rfl, ?_⟩⟩
    refine callB B7 (room_ret size w7) fun w8 b8 B8 => ⟨_, rfl, by rw [(k7.below b8).cell]; rfl, br_dec (fun q4 => no B8 (by rw [hG, if_pos (.inr (.inr (.inr q4)))])) fun q4 => ?_⟩
    have k8 := k7.below b8
    have r8 := (rx.bs b7).bs b8
    have hroom : roomZ size ≤ 64 * (size - 1) := by unfold roomZ; split <;> omega
    obtain ⟨n, rfl⟩ : ∃ n : Nat, N = (n : Int) := ⟨N.toNat, by omega⟩
    obtain ⟨gg, rfl⟩ : ∃ n : Nat, G = (n : Int) := ⟨G.toNat, by omega⟩
    rw [if_neg (by omega), Int.toNat_natCast, Int.toNat_natCast] at hG
    refine newB B8 fun g3 w9 g30 sg3 n9 z9 b9 B9 => ⟨by decide, by decide, (n : Int), by rw [(k8.below b9).cell]; rfl, ?_⟩
    rw [wr64 (by omega) (by omega)]
    have hil : ((b.drop 64).take n).length = n := by rw [List.length_take, List.length_drop]; omega
    have o9 : Own w9 w.heap.size 5 1 (.slice (some ⟨g3, 0, none⟩) 0 0) 0 (([] : List UInt8).map bV) := own_lit (bs := []) n9 g30 (Nat.zero_le _)
    have r9 := r8.bs b9
    have hri : RowAt w9 (sliceBase a c 64 1) (((b.drop 64).take n).map bV) := by
      rw [List.map_take]
      exact (row_base r9 cap 64).take n
    have hsrc := srcB (c := c - 64) hri
    rw [hil] at hsrc
    have en : (64 + (n : Int)).toNat - (64 : Int).toNat = n := by omega
    rw [en]
    refine ⟨by omega, by omega, by omega, appB B9 o9 (Nat.le_refl _) B9.size hsrc (by unfold maxLen; omega) (by omega) (fun y hy e => ?_) fun a' c' w10 o10 g10 B10 z10 => ?_⟩
    · simp at hy
      subst hy
      simp [Value.ownBlock] at e
      have := b7.size
      have := b8.size
      omega
    have o10 : Own w10 w.heap.size 5 1 (.slice a' (0 + n) c') (0 + n) (((b.drop 64).take n).map bV) := o10
    rw [Nat.zero_add n] at o10 ⊢
    have kg : ∀ k, k < w9.heap.size → k ≠ g3 → w10.heap[k]? = w9.heap[k]? := fun k hk hne => g10.block k hk fun e => by simp [Value.ownBlock] at e; exact hne e
    have k10 : Bk w10 gn #[.int .i64 (gg : Int), .int .i64 (n : Int)] 37 := ((k8.below b9).keep (kg gn ((k8.below b9).lt) (by have := (k8).lt; omega)))
    have r10 : RowAt w10 a (b.map bV) := by
      refine r9.keepB fun p hp => ?_
      subst hp
      have h1 := (o3.lt p.block rfl).2
      have h2 := b4.size
      have h3 := b7.size
      have h4 := b8.size
      have h5 := b9.size
      exact kg p.block (by omega) (by omega)
    refine drewB B10 fun w12 b12 B12 e12 => ⟨by decide, by omega, b.take 64, by rw [List.length_take]; exact Nat.min_eq_left hb64, by rw [List.map_take]; exact (r10.bs b12).take 64, by decide, by decide, (gg : Int), by rw [(k10.below b12).cell]; rfl, ?_⟩
    have o12 := o10.below b12 (Nat.le_refl _)
    have hh := head_new gg (by omega) (c := c') w12 o12.row (by omega) (by rw [hil]; exact o12.cap.1)
    rw [hil] at hh
    refine hh.mono ?_
    rintro e w13 ⟨a13, c13, rfl, o13, b13⟩
    have B13 := B12.to b13
    refine ⟨keepG_below b13, a13, _, c13, rfl, by rw [List.map_take]; exact (((r10.bs b12).bs b13).take 64), headK gg ((b.drop 64).take n), rfl, o13.row, br_dec (fun hd => no B13 (by rw [hG, if_neg fun e => hd (by rw [e])])) fun hd => ?_⟩
    have hd := strOf_inj (Decidable.not_not.1 hd)
    rw [if_pos hd] at hG
    refine ⟨by decide, by decide, (gg : Int), by rw [((k10.below b12).below b13).cell]; rfl, a', c', ?_, ?_, B13⟩
    · rw [hG]
      show Value.tuple #[_, .slice a' n c', _] = .tuple #[_, .slice a' ((b.drop 64).take n).length c', _]
      rw [hil]
      rfl
    · rw [hG]
      show Own w13 _ _ _ (.slice a' ((b.drop 64).take n).length c') ((b.drop 64).take n).length _
      rw [hil]
      exact o12.below b13 (Nat.le_refl _)
end Go.Proofs.Ytpfmadinijofeaa
end
section
/- The program's slots: Load and Gens; walked. -/
namespace Go.Proofs.Ytpfmadinijofeaa
open Go.RowKit
theorem atE_zero {S : DS} {first size : Int} (h : atE S first size = 0) : 0 ≤ first ∧ 1 ≤ size ∧ 2 * size ≤ S.n ∧ first + 2 * size ≤ S.n := by
  unfold atE at h
  split at h
  · omega
  · rename_i hq; omega
theorem atE_one {S : DS} {first size : Int} (h : ¬ atE S first size = 0) : atE S first size = 1 := by
  unfold atE at h ⊢
  split
  · rfl
  · rename_i hq; rw [if_neg hq] at h; exact absurd rfl h
theorem may_at {S : DS} {first size slot : Int} (h : atE S first size = 0) (hs : slot = 0 ∨ slot = 1) : mayE S (first + slot * size) size = if S.off = true then 12 else 0 := by
  obtain ⟨p1, p2, p3, p4⟩ := atE_zero h
  unfold mayE
  by_cases ho : S.off = true
  · rw [if_pos ho, if_pos ho]
  · rw [if_neg ho, if_neg ho, if_pos]
    rcases hs with rfl | rfl <;> omega
/-- A slot is read. -/
theorem slot_new {w : World} {g gl mb : Nat} {S : DS} (h : DkAt w g gl mb S) (hW : DWf S) (first size slot : Int) (h0 : atE S first size = 0) (hs : slot = 0 ∨ slot = 1) :
    Calls Try.prog 57 #[plV (some ⟨g, 0, none⟩) (first + slot * size) size slot] w fun e w' => ∃ a c, e = .returned (.tuple #[.int .i64 (if S.off = true then 0 else genO (slotR S first size slot)), .slice a (if S.off = true then [] else imO (slotR S first size slot)).length c, .int .i64 (if S.off = true then 12 else 0)]) ∧
      Own w' w.heap.size 5 1 (.slice a (if S.off = true then [] else imO (slotR S first size slot)).length c) (if S.off = true then [] else imO (slotR S first size slot)).length ((if S.off = true then [] else imO (slotR S first size slot)).map bV) ∧ Bs w w' := by
  obtain ⟨p1, p2, p3, p4⟩ := atE_zero h0
  have hq : 0 ≤ first + slot * size ∧ first + slot * size + size ≤ S.n := by rcases hs with rfl | rfl <;> omega
  have := pread_new h hW (first + slot * size) size slot hq.1 p2 hq.2
  rw [may_at h0 hs] at this
  exact this
def bestK (S : DS) (first size : Int) : Nat → Option (Int × List UInt8)
  | 0 => none
  | 1 => slotR S first size 0
  | _ => bestR S first size
theorem bestK_step {S : DS} {first size : Int} {k : Nat} (hk : k < 2) : bestK S first size (k + 1) = if genO (slotR S first size (k : Int)) > genO (bestK S first size k) then slotR S first size (k : Int) else bestK S first size k := by
  have h : k = 0 ∨ k = 1 := by omega
  rcases h with rfl | rfl
  · show slotR S first size 0 = if genO (slotR S first size 0) > 0 then slotR S first size 0 else none
    split
    · rfl
    · rename_i hq
      have := genO_pos (S := S) (first := first) (size := size) (slot := 0)
      exact this.2.2 (by omega)
  · rfl
theorem bestK_gen {S : DS} {first size : Int} : bestR S first size = none ↔ genO (bestR S first size) = 0 := by
  unfold bestR
  split
  · exact genO_pos.2
  · exact genO_pos.2
theorem load_nil (first size : Int) (w : World) : Calls Try.prog 19 #[.pointer none, .int .i64 first, .int .i64 size] w (Ret (.tuple #[.int .i64 0, .slice none 0 0, .int .i64 1]) w) := by
  refine ret_in (GSn.load_calls none first size w (fun u w' => u = .tuple #[.int .i64 0, .slice none 0 0, .int .i64 1] ∧ Below w.heap.size w w') ?_)
  unfold GSn.load_vc
  refine ⟨fun _ _ _ _ x wx => x = 0 ∧ Bs w wx, fun _ _ _ _ _ _ => 0, ⟨rfl, Bs.refl w⟩, ?_⟩
  rintro x9 a n c x wx ⟨rfl, Bx⟩
  exact br_y (by decide) (callB Bx (at_nil _ _ _ wx) fun w2 b2 B2 => ⟨_, _, _, _, _, rfl, newB B2 fun g w3 g0 sg n3 z3 b3 B3 => boxB B3 g0 fun w4 x4 B4 s4 => br_y (by decide) ⟨rfl, B4⟩⟩)
theorem load_new {w : World} {g gl mb : Nat} {S : DS} (h : DkAt w g gl mb S) (hW : DWf S) (first size : Int) (h1 : -9223372036854775808 ≤ first) (h2 : first ≤ 9223372036854775807) (h3 : -9223372036854775808 ≤ size) (h4 : size ≤ 9223372036854775807) :
    Calls Try.prog 19 #[.pointer (some ⟨g, 0, none⟩), .int .i64 first, .int .i64 size] w fun e w' => ∃ a c, e = .returned (.tuple #[.int .i64 (loadG S first size), .slice a (loadI S first size).length c, .int .i64 (loadE S first size)]) ∧
      Own w' w.heap.size 5 1 (.slice a (loadI S first size).length c) (loadI S first size).length ((loadI S first size).map bV) ∧ Bs w w' := by
  refine rdb_in (GSn.load_calls (some ⟨g, 0, none⟩) first size w (RdB w _ _ _) ?_)
  unfold GSn.load_vc
  refine ⟨fun x9 a n c x wx => ∃ k : Nat, x = k ∧ k ≤ 2 ∧ (0 < k → atE S first size = 0 ∧ S.off = false) ∧ x9 = genO (bestK S first size k) ∧ n = (imO (bestK S first size k)).length ∧ Own wx w.heap.size 5 1 (.slice a n c) n ((imO (bestK S first size k)).map bV) ∧ Bs w wx, fun _ _ _ _ x _ => (2 - x).toNat, ⟨0, rfl, by omega, fun q => absurd q (by omega), rfl, rfl, Own.nil _ _ _ _, Bs.refl w⟩, ?_⟩
  rintro x9 a n c x wx ⟨k, rfl, hk, h0, rfl, rfl, ox, Bx⟩
  refine br_dec (fun hlt => ?_) fun hge => ?_
  · have hs : (k : Int) = 0 ∨ (k : Int) = 1 := by omega
    refine callB Bx (at_ret (h.bs Bx) hW first size k h1 h2 h3 h4 hs) fun w2 b2 B2 => ?_
    by_cases q0 : atE S first size = 0
    · rw [if_neg (not_not_intro q0), q0]
      refine ⟨_, _, _, _, _, rfl, newB B2 fun g1 w3 g0 sg n3 z3 b3 B3 => boxB B3 g0 fun w4 x4 B4 s4 => br_n (by omega) ?_⟩
      refine (slot_new (h.bs B4) hW first size k q0 hs).mono ?_
      rintro e w5 ⟨a5, c5, rfl, o5, b5⟩
      have B5 := B4.to b5
      refine ⟨keepG_below b5, _, a5, _, c5, _, rfl, ?_⟩
      by_cases ho : S.off = true
      · rw [if_pos ho]
        exact br_y (by decide) (rdb_none B5 (by unfold loadG; rw [if_pos (.inr ho)]) (by unfold loadI; rw [if_pos (.inr ho)]) (by unfold loadE; rw [if_neg (not_not_intro q0), if_pos ho]))
      · have hf : S.off = false := by cases hh : S.off; rfl; exact absurd hh ho
        simp only [if_neg ho] at o5 ⊢
        have hk1 : IntKind.i64.wrap ((k : Int) + 1) = ((k + 1 : Nat) : Int) := by rw [wr64 (by omega) (by omega)]; omega
        have hst := bestK_step (S := S) (first := first) (size := size) (k := k) (by omega)
        refine br_n (by omega) (br_dec (fun hg => ?_) fun hg => ?_)
        · rw [if_pos hg] at hst
          refine ⟨⟨k + 1, hk1, by omega, fun _ => ⟨by first | exact q0 | rfl | trivial, hf⟩, by rw [hst], by rw [hst], by rw [hst]; exact o5.base_le fun p hp => Nat.le_trans B4.size (o5.lt p hp).1, B5⟩, by (try dsimp only); rw [hk1]; omega⟩
        · rw [if_neg hg] at hst
          have hB : Bs wx w5 := ((((Bs.refl wx).to b2).to b3).box (by have := b2.size; omega) x4).to b5
          have o6 := ox.below hB (Nat.le_refl _)
          exact ⟨⟨k + 1, hk1, by omega, fun _ => ⟨by first | exact q0 | rfl | trivial, hf⟩, by rw [hst], by rw [hst], by rw [hst]; exact o6, B5⟩, by (try dsimp only); rw [hk1]; omega⟩
    · rw [if_pos q0, atE_one q0]
      exact ⟨_, _, _, _, _, rfl, newB B2 fun g1 w3 g0 sg n3 z3 b3 B3 => boxB B3 g0 fun w4 x4 B4 s4 => br_y (by decide) (rdb_none B4 (by unfold loadG; rw [if_pos (.inl q0)]) (by unfold loadI; rw [if_pos (.inl q0)]) (by unfold loadE; rw [if_pos q0]))⟩
  · obtain rfl : k = 2 := by omega
    obtain ⟨q0, hf⟩ := h0 (by omega)
    have hno : ¬ (atE S first size ≠ 0 ∨ S.off = true) := by rw [q0, hf]; simp
    refine br_dec (fun hz => ?_) fun hz => ?_
    · have hn : bestR S first size = none := bestK_gen.2 hz
      refine rdb_none Bx (by unfold loadG; rw [if_neg hno]; exact hz) (by unfold loadI; rw [if_neg hno, hn]; rfl) ?_
      unfold loadE
      rw [if_neg (not_not_intro q0), hf, if_neg (by decide), if_pos hn]
    · refine ⟨a, c, ?_, ?_, Bx⟩
      · have hn : ¬ bestR S first size = none := fun e => hz (bestK_gen.1 e)
        unfold loadG loadI loadE
        rw [if_neg hno, if_neg hno, if_neg (not_not_intro q0), hf, if_neg (by decide), if_neg hn]
        rfl
      · unfold loadI
        rw [if_neg hno]
        exact ox
def gK (S : DS) (first size : Int) (k : Nat) (s : Nat) : Int := if s < k then genO (slotR S first size (s : Int)) else 0
theorem gens_nil (first size : Int) (w : World) : Calls Try.prog 20 #[.pointer none, .int .i64 first, .int .i64 size] w (Ret (.tuple #[.agg #[.int .i64 0, .int .i64 0], .agg #[.bool false, .bool false], .int .i64 1]) w) := by
  refine ret_in (GSn.gens_calls none first size w (fun u w' => u = .tuple #[.agg #[.int .i64 0, .int .i64 0], .agg #[.bool false, .bool false], .int .i64 1] ∧ Below w.heap.size w w') ?_)
  unfold GSn.gens_vc
  refine newB (Bs.refl w) fun g1 w2 g10 sg1 n2 z2 b2 B2 => newB B2 fun g2 w3 g20 sg2 n3 z3 b3 B3 => newB B3 fun g3 w4 g30 sg3 n4 z4 b4 B4 => newB B4 fun g4 w5 g40 sg4 n5 z5 b5 B5 => ?_
  refine ⟨fun x _ _ _ _ wx => x = 0 ∧ Bs w wx, fun _ _ _ _ _ _ => 0, ⟨rfl, B5⟩, ?_⟩
  rintro x _ _ _ _ wx ⟨rfl, Bx⟩
  exact br_y (by decide) (callB Bx (at_nil _ _ _ wx) fun w6 b6 B6 => ⟨_, _, _, _, _, rfl, newB B6 fun g w7 g0 sg n7 z7 b7 B7 => boxB B7 g0 fun w8 x8 B8 s8 => br_y (by decide) (boxB B8 g10 fun w9 x9 B9 s9 => boxB B9 g20 fun w10 x10 B10 s10 => ⟨rfl, B10⟩)⟩)
theorem gens_ret {w : World} {g gl mb : Nat} {S : DS} (h : DkAt w g gl mb S) (hW : DWf S) (first size : Int) (h1 : -9223372036854775808 ≤ first) (h2 : first ≤ 9223372036854775807) (h3 : -9223372036854775808 ≤ size) (h4 : size ≤ 9223372036854775807) :
    Calls Try.prog 20 #[.pointer (some ⟨g, 0, none⟩), .int .i64 first, .int .i64 size] w (Ret (.tuple #[.agg #[.int .i64 (gensG S first size 0), .int .i64 (gensG S first size 1)], .agg #[.bool (decide (gensG S first size 0 > 0)), .bool (decide (gensG S first size 1 > 0))], .int .i64 (gensE S first size)]) w) := by
  refine ret_in (GSn.gens_calls (some ⟨g, 0, none⟩) first size w (fun u w' => u = .tuple #[.agg #[.int .i64 (gensG S first size 0), .int .i64 (gensG S first size 1)], .agg #[.bool (decide (gensG S first size 0 > 0)), .bool (decide (gensG S first size 1 > 0))], .int .i64 (gensE S first size)] ∧ Below w.heap.size w w') ?_)
  unfold GSn.gens_vc
  refine newB (Bs.refl w) fun g1 w2 g10 sg1 n2 z2 b2 B2 => newB B2 fun g2 w3 g20 sg2 n3 z3 b3 B3 => newB B3 fun g3 w4 g30 sg3 n4 z4 b4 B4 => newB B4 fun g4 w5 g40 sg4 n5 z5 b5 B5 => ?_
  have k3 : Bk w5 g3 #[.int .i64 (gK S first size 0 0), .int .i64 (gK S first size 0 1)] 37 := Bk.below (show Bk w4 g3 #[.int .i64 0, .int .i64 0] 37 from n4) b5
  have k4 : Bk w5 g4 #[.bool (decide (gK S first size 0 0 > 0)), .bool (decide (gK S first size 0 1 > 0))] 38 := n5
  refine ⟨fun x _ _ _ _ wx => ∃ k : Nat, x = k ∧ k ≤ 2 ∧ (0 < k → atE S first size = 0 ∧ S.off = false) ∧ Bk wx g3 #[.int .i64 (gK S first size k 0), .int .i64 (gK S first size k 1)] 37 ∧ Bk wx g4 #[.bool (decide (gK S first size k 0 > 0)), .bool (decide (gK S first size k 1 > 0))] 38 ∧ Bs w wx ∧ w5.heap.size ≤ wx.heap.size, fun x _ _ _ _ _ => (2 - x).toNat, ⟨0, rfl, by omega, fun q => absurd q (by omega), k3, k4, B5, Nat.le_refl _⟩, ?_⟩
  rintro x b70 b71 x60 x61 wx ⟨k, rfl, hk, h0, k3, k4, Bx, zx⟩
  refine br_dec (fun hlt => ?_) fun hge => ?_
  · have hs : (k : Int) = 0 ∨ (k : Int) = 1 := by omega
    refine callB Bx (at_ret (h.bs Bx) hW first size k h1 h2 h3 h4 hs) fun w6 b6 B6 => ?_
    by_cases q0 : atE S first size = 0
    · rw [if_neg (not_not_intro q0), q0]
      refine ⟨_, _, _, _, _, rfl, newB B6 fun g5 w7 g50 sg5 n7 z7 b7 B7 => boxB B7 g50 fun w8 x8 B8 s8 => br_n (by omega) ?_⟩
      have zg5 : wx.heap.size ≤ g5 := by have := b6.size; omega
      have k3' : Bk w8 g3 _ 37 := ((k3.below b6).below b7).box x8 (by have := k3.lt; omega)
      have k4' : Bk w8 g4 _ 38 := ((k4.below b6).below b7).box x8 (by have := k4.lt; omega)
      refine (slot_new (h.bs B8) hW first size k q0 hs).mono ?_
      rintro e w9 ⟨a9, c9, rfl, o9, b9⟩
      have B9 := B8.to b9
      refine ⟨keepG_below b9, _, a9, _, c9, _, rfl, ?_⟩
      by_cases ho : S.off = true
      · rw [if_pos ho]
        refine br_y (by decide) (boxB B9 g10 fun w10 x10 B10 s10 => boxB B10 g20 fun w11 x11 B11 s11 => ⟨?_, B11⟩)
        have e1 : ∀ s, gensG S first size s = 0 := fun s => by unfold gensG; rw [if_pos (.inr ho)]
        have e2 : gensE S first size = 12 := by unfold gensE; rw [if_neg (not_not_intro q0), if_pos ho]
        rw [e1, e1, e2]
        rfl
      · have hf : S.off = false := by cases hh : S.off; rfl; exact absurd hh ho
        rw [if_neg ho, if_neg ho]
        have hk1 : IntKind.i64.wrap ((k : Int) + 1) = ((k + 1 : Nat) : Int) := by rw [wr64 (by omega) (by omega)]; omega
        refine br_n (by omega) ⟨by omega, by omega, ?_⟩
        have hne : ∀ y ∈ [g5, g2, g1], y ≠ g3 ∧ y ≠ g4 := fun y hy => by
          simp at hy
          have := k3.lt
          have := k4.lt
          omega
        rw [Int.toNat_natCast, Nat.mul_one, Nat.zero_add]
        refine stB1 B9 g30 (k3'.below b9) (by show k < 2; omega) (fun y hy => (hne y hy).1) fun w10 k10 f10 B10 z10 => ⟨by omega, by omega, ?_⟩
        have k4'' : Bk w10 g4 _ 38 := (k4'.below b9).fr1 f10 (by omega)
        refine stB1 B10 g40 k4'' (by show k < 2; omega) (fun y hy => (hne y hy).2) fun w11 k11 f11 B11 z11 => ⟨⟨k + 1, hk1, by omega, fun _ => ⟨by first | exact q0 | rfl | trivial, hf⟩, ?_, ?_, B11, ?_⟩, by (try dsimp only); rw [hk1]; omega⟩
        · have k10' : Bk w11 g3 _ 37 := k10.fr1 f11 (by omega)
          have hk2 : k = 0 ∨ k = 1 := by omega
          rcases hk2 with rfl | rfl
          · exact k10'
          · exact k10'
        · have hk2 : k = 0 ∨ k = 1 := by omega
          rcases hk2 with rfl | rfl
          · exact k11
          · exact k11
        · have := b6.size
          have := b9.size
          omega
    · rw [if_pos q0, atE_one q0]
      refine ⟨_, _, _, _, _, rfl, newB B6 fun g5 w7 g50 sg5 n7 z7 b7 B7 => boxB B7 g50 fun w8 x8 B8 s8 => br_y (by decide) (boxB B8 g10 fun w9 x9 B9 s9 => boxB B9 g20 fun w10 x10 B10 s10 => ⟨?_, B10⟩)⟩
      have e1 : ∀ s, gensG S first size s = 0 := fun s => by unfold gensG; rw [if_pos (.inl q0)]
      have e2 : gensE S first size = 1 := by unfold gensE; rw [if_pos q0]
      rw [e1, e1, e2]
      rfl
  · obtain rfl : k = 2 := by omega
    obtain ⟨q0, hf⟩ := h0 (by omega)
    have hno : ¬ (atE S first size ≠ 0 ∨ S.off = true) := by rw [q0, hf]; simp
    have e1 : ∀ s : Nat, s < 2 → gK S first size 2 s = gensG S first size s := fun s hs => by unfold gensG gK; rw [if_neg hno, if_pos hs]
    have e2 : gensE S first size = 0 := by unfold gensE; rw [if_neg (not_not_intro q0), hf]; rfl
    rw [e1 0 (by omega), e1 1 (by omega)] at k3 k4
    rw [e2]
    refine drewB Bx fun w6 b6 B6 e6 => ⟨_, _, cellsAt_row (k3.below b6) rfl, _, _, cellsAt_row (k4.below b6) rfl, boxB B6 g10 fun w7 x7 B7 s7 => ⟨cellsAt_row ((k4.below b6).box x7 (by omega)) rfl, boxB B7 g20 fun w8 x8 B8 s8 => ⟨rfl, B8⟩⟩⟩
end Go.Proofs.Ytpfmadinijofeaa
end
section
/- The reference's sum: bit by bit. -/
namespace Go.Proofs.Ytpfmadinijofeaa
open Go.RowKit
theorem rsum_snoc (n : Nat) (s : ByteArray) (k : Nat) (h : k < s.size) : crcL n (s.data.toList.take (k + 1)) = cb (crcL n (s.data.toList.take k)) s[k].toNat := by
  rw [crcL_snoc n _ k (by simpa using h)]; rfl
theorem xor_bit (a b : Nat) : (a % 2) ^^^ (b % 2) = (a % 2 + b % 2) % 2 := by
  rcases Nat.mod_two_eq_zero_or_one a with x | x <;> rcases Nat.mod_two_eq_zero_or_one b with y | y <;> rw [x, y] <;> decide
theorem bit_test (q x j : Nat) (hq : q < 4294967296) (hx : x < 256) :
    bits BinOp.xor IntKind.u32 (bits BinOp.and IntKind.u32 (q : Int) 1) (bits BinOp.and IntKind.u8 ((x : Int) / 2 ^ j) 1 % 4294967296) = (((q % 2 + x / 2 ^ j % 2) % 2 : Nat) : Int) := by
  have hd : x / 2 ^ j < 256 := Nat.lt_of_le_of_lt (Nat.div_le_self _ _) hx
  have e1 : bits BinOp.and IntKind.u32 (q : Int) 1 = ((q % 2 : Nat) : Int) := by rw [show (1 : Int) = ((1 : Nat) : Int) from rfl, u32_and_nat _ _ hq (by omega), nat_mask1]
  have e2 : bits BinOp.and IntKind.u8 ((x : Int) / 2 ^ j) 1 = ((x / 2 ^ j % 2 : Nat) : Int) := by
    rw [show (x : Int) / 2 ^ j = ((x / 2 ^ j : Nat) : Int) by simp, show (1 : Int) = ((1 : Nat) : Int) from rfl, u8_and_nat _ _ hd (by omega), nat_mask1]
  rw [e1, e2, show (((x / 2 ^ j % 2 : Nat) : Int)) % 4294967296 = ((x / 2 ^ j % 2 : Nat) : Int) by omega, u32_xor_nat _ _ (by omega) (by omega), xor_bit]
theorem rst_yes {q x j : Nat} (h : ((((q % 2 + x / 2 ^ j % 2) % 2 : Nat) : Int) == 1) = true) : rst q x j = (q / 2) ^^^ 3988292384 := by
  unfold rst
  have := beq_iff_eq.1 h
  generalize x / 2 ^ j = y at *
  rw [if_pos (by omega)]
theorem rst_no {q x j : Nat} (h : ((((q % 2 + x / 2 ^ j % 2) % 2 : Nat) : Int) == 1) = false) : rst q x j = q / 2 := by
  unfold rst
  have := beq_eq_false_iff_ne.1 h
  generalize x / 2 ^ j = y at *
  rw [if_neg (by omega)]
theorem u32_xor_half (q : Nat) (h : q < 4294967296) : bits BinOp.xor IntKind.u32 ((q : Int) / 2) 3988292384 = ((q / 2 ^^^ 3988292384 : Nat) : Int) := by
  rw [show (3988292384 : Int) = ((3988292384 : Nat) : Int) from rfl, show (q : Int) / 2 = ((q / 2 : Nat) : Int) from rfl, u32_xor_nat _ _ (by omega) (by omega)]
set_option maxHeartbeats 400000 in
theorem rsum_any (s : ByteArray) (w : World) (hs : s.size ≤ maxLen) :
    Calls Try.prog 67 #[.string s] w fun e w' => e = .returned (.int .u32 (more 0 s.data.toList)) ∧ w' = w := by
  unfold maxLen at hs
  go_enter Try.func67, Try.ntmps67
  go_wp2
  go_loop [3, 4, 5, 6, 7,8,9,10,11,12,13,14,15,16,17,18,19,20,21,22,23,24,25,26,27,28,29,30,31,32] (fun t3 t4 _ _ _ _ _ _ _ _ _ _ _ _ _ _ _ _ _ _ _ _ _ _ _ _ _ _ _ _ => ∃ k : Nat, k ≤ s.size ∧ t4 = .int .i64 k ∧ t3 = V32 (crcL 4294967295 (s.data.toList.take k))) (fun t3 t4 _ _ _ _ _ _ _ _ _ _ _ _ _ _ _ _ _ _ _ _ _ _ _ _ _ _ _ _ => s.size - (intOf t4).toNat)
  case atStart => exact ⟨0, by omega, rfl, rfl⟩
  case round =>
    obtain ⟨k, hk, rfl, rfl⟩ := hrel
    have h0 : crcL 4294967295 (s.data.toList.take k) < 4294967296 := crcL_lt _ (by omega)
    by_cases hlt : k < s.size
    · have hsn := rsum_snoc 4294967295 s k hlt
      rw [cb_rsteps] at hsn
      have Hs := hid hsn; clear hsn
      generalize crcL 4294967295 (s.data.toList.take k) = m at *
      go_wp2
      go_loop [3, 5,6,13,14,15,16,17,18,19,20,21,22,23,24,25,26,27,28,29,30,31,32] (fun t3 t5 _ _ _ _ _ _ _ _ _ _ _ _ _ _ _ _ _ _ _ _ _ => ∃ j : Nat, j ≤ 8 ∧ t5 = .int .i64 j ∧ t3 = V32 (rsteps s[k].toNat j m)) (fun t3 t5 _ _ _ _ _ _ _ _ _ _ _ _ _ _ _ _ _ _ _ _ _ => 8 - (intOf t5).toNat)
      case atStart => exact ⟨0, by omega, rfl, rfl⟩
      case round =>
        obtain ⟨j, hj, rfl, rfl⟩ := hrel
        have h1 := rsteps_lt s[k].toNat j h0
        have Hr := hid (show rsteps s[k].toNat (j + 1) m = rst (rsteps s[k].toNat j m) s[k].toNat j from rfl)
        generalize hq : rsteps s[k].toNat j m = q at *
        have Hq := hid hq; clear hq
        unfold V32
        by_cases hlj : j < 8
        · have hx : s[k].toNat < 256 := s[k].toNat_lt
          have hB := bit_test q s[k].toNat j h1 hx
          have hX := u32_xor_half q h1
          have HB := hid hB; clear hB
          have HX := hid hX; clear hX
          go_wp2
          · have ht : (bits BinOp.xor IntKind.u32 (bits BinOp.and IntKind.u32 (q : Int) 1) (bits BinOp.and IntKind.u8 (((s[k].toNat : Nat) : Int) / 2 ^ j) 1 % 4294967296) == 1) = true := by assumption
            rw [HB.out] at ht
            go_round
            case rel => exact ⟨j + 1, by omega, by go_num, by rw [Hr.out, HX.out, rst_yes ht]⟩
            case measure => simp [intOf]; omega
          · have ht : (bits BinOp.xor IntKind.u32 (bits BinOp.and IntKind.u32 (q : Int) 1) (bits BinOp.and IntKind.u8 (((s[k].toNat : Nat) : Int) / 2 ^ j) 1 % 4294967296) == 1) = false := by assumption
            rw [HB.out] at ht
            go_round
            case rel => exact ⟨j + 1, by omega, by go_num, by rw [Hr.out, rst_no ht]; rfl⟩
            case measure => simp [intOf]; omega
        · obtain rfl : j = 8 := by omega
          go_wp2
          go_round
          case rel => exact ⟨k + 1, by omega, by go_num, by rw [Hs.out, Hq.out]; rfl⟩
          case measure => simp [intOf]; omega
    · obtain rfl : k = s.size := by omega
      rw [List.take_of_length_le (by simp)] at h0 ⊢
      have hfin : more 0 s.data.toList = cpl (crcL 4294967295 s.data.toList) := rfl
      generalize crcL 4294967295 s.data.toList = m at *
      have hc := u32_not m h0
      have Hf := hid hfin; clear hfin
      unfold V32
      go_wp2
      go_ret
      exact ⟨by rw [Hf.out]; rfl, rfl⟩
end Go.Proofs.Ytpfmadinijofeaa
end
section
/- The bytes of numbers: the plain law. No program in sight. -/
namespace Go.Proofs.Ytpfmadinijofeaa
open Go.RowKit
/-- The groups of a number without a sign. -/
def grp (u : Nat) : List UInt8 := if u < 128 then [UInt8.ofNat u] else UInt8.ofNat (u % 128 + 128) :: grp (u / 128)
termination_by u
decreasing_by omega
theorem grp_lt {u : Nat} (h : u < 128) : grp u = [UInt8.ofNat u] := by rw [grp, if_pos h]
theorem grp_ge {u : Nat} (h : 128 ≤ u) : grp u = UInt8.ofNat (u % 128 + 128) :: grp (u / 128) := by rw [grp, if_neg (by omega)]
theorem grp_len (n : Nat) : ∀ u, u < 128 ^ (n + 1) → (grp u).length ≤ n + 1 := by
  induction n with
  | zero => intro u h; rw [grp_lt (by simpa using h)]; simp
  | succ n ih =>
    intro u h
    by_cases h1 : u < 128
    · rw [grp_lt h1]; simp
    · rw [grp_ge (by omega), List.length_cons]
      have := ih (u / 128) (by rw [Nat.div_lt_iff_lt_mul (by omega), ← Nat.pow_succ]; exact h)
      omega
theorem grp_len64 {u : Nat} (h : u < 18446744073709551616) : (grp u).length ≤ 10 := grp_len 9 u (by omega)
theorem grp_pos (u : Nat) : 0 < (grp u).length := by
  by_cases h : u < 128
  · rw [grp_lt h]; simp
  · rw [grp_ge (by omega)]; simp
/-- An int as a number without a sign: zigzag. -/
def zig (z : Int) : Nat := if 0 ≤ z then (2 * z).toNat else (2 * (-z) - 1).toNat
theorem zig_lt {z : Int} (h1 : -9223372036854775808 ≤ z) (h2 : z ≤ 9223372036854775807) : zig z < 18446744073709551616 := by unfold zig; split <;> omega
def uintB (z : Int) : List UInt8 := if z < 0 then [] else grp z.toNat
def intB (z : Int) : List UInt8 := grp (zig z)
def flagB (b : Bool) : List UInt8 := [if b then 1 else 0]
def textB (bs : List UInt8) : List UInt8 := grp bs.length ++ bs
end Go.Proofs.Ytpfmadinijofeaa
end
section
/- The writer of the codec, walked. -/
namespace Go.Proofs.Ytpfmadinijofeaa
open Go.RowKit
theorem Try.infoB : (Try.prog.info? 5).map (fun i => (i.zero, i.size, i.bytes)) = some (some (.int .u8 0), 1, 1) := by kernel_rfl
theorem wpList_appb {ops : Array Oper} {rest : List Oper} {o : Oper} {a : Act} {w : World} {Q : Exit → Act → World → Prop} (hgd : o.guard = none) (s xo : Operand)
    (hop : o.op = Op.call { callee := Callee.builtin Builtin.append, args := #[s, xo], argTypes := #[22, 22] })
    {base n : Nat} {v : Value} {xs : List Value} (hv : a.eval s = v) (ho : Own w base 5 1 v n xs) (x : Value) (hx : a.eval xo = x) (m : Nat) (news : List Value) (hs : Src Try.prog 1 22 x m news w)
    (hb : n + m ≤ 140737488355328) (hbase : base ≤ w.heap.size)
    (hK : ∀ v' w', Own w' base 5 1 v' (n + m) (xs ++ news) → w.grownBy w' v.ownBlock → (v'.ownBlock = v.ownBlock ∨ ∃ g, v'.ownBlock = some g ∧ w.heap.size ≤ g) → wpList Try.prog ops Q rest (a.put o.dst v') w') :
    wpList Try.prog ops Q (o :: rest) a w := by
  obtain ⟨i0, hi, hz0, hz1, hz2⟩ := info_parts Try.infoB
  exact wpList_app hgd s xo 22 22 hop i0 _ 1 Try.underlying22 hi hz0 hz1 hz2 rfl hv ho x hx m news hs (by unfold maxLen; omega) (by omega) hbase hK
theorem Src.builtB {W : World} (b : UInt8) : Src Try.prog 1 22 (.slice (some ⟨W.heap.size, 0, none⟩) 1 1) 1 [bV b] (W.alloc (.cells #[bV b] 5)) :=
  Src.ofRow Try.underlying22 (some ⟨W.heap.size, 0, none⟩) 1 [bV b] (RowAt.ofWhole (vs := [bV b]) (al_new rfl)) (by intro u hu; rw [List.mem_singleton] at hu; subst hu; rfl)
/-- A writer. -/
structure WAt (w : World) (L : List Nat) (g : Nat) (bs : List UInt8) (bad : Bool) : Prop where
  ex : ∃ v, Bk w g #[v, .bool bad] 139 ∧ Own w 0 5 1 v bs.length (bs.map bV) ∧ ∀ k, v.ownBlock = some k → k ∈ L
  mem : g ∈ L
  under : Under L w.heap.size
theorem WAt.keep {w w' : World} {L : List Nat} {g : Nat} {bs : List UInt8} {bad : Bool} (h : WAt w L g bs bad) (hk : ∀ k ∈ L, w'.heap[k]? = w.heap[k]?) (hs : w.heap.size ≤ w'.heap.size) : WAt w' L g bs bad := by
  obtain ⟨⟨v, h1, h2, h3⟩, h4, h5⟩ := h
  exact ⟨⟨v, h1.keep (hk g h4), h2.keep fun k hv => hk k (h3 k hv), h3⟩, h4, h5.mono hs⟩
theorem WAt.fr {w w' : World} {L M : List Nat} {g : Nat} {bs : List UInt8} {bad : Bool} (h : WAt w L g bs bad) (hf : Fr M w w') (ha : Apart L M) : WAt w' L g bs bad := h.keep (hf.keep ha h.under) hf.size
theorem WAt.make {w : World} {g : Nat} {v : Value} {bs : List UInt8} {bad : Bool} (h1 : Bk w g #[v, .bool bad] 139) (h2 : Own w 0 5 1 v bs.length (bs.map bV)) : WAt w (g :: v.ownBlock.toList) g bs bad :=
  ⟨⟨v, h1, h2, fun k hk => by simp [hk]⟩, by simp, fun k hk => by
    rcases List.mem_cons.1 hk with rfl | hk
    · exact h1.lt
    · exact (h2.lt k (by simpa using hk)).2⟩
theorem own_far {w : World} {g : Nat} {v : Value} {cs : Array Value} {n : Nat} {xs : List Value} {t : TypeId} (h1 : Bk w g cs t) (h2 : Own w 0 5 1 v n xs) (hne : t ≠ 5) : v.ownBlock ≠ some g := by
  intro h
  rcases h2.2 with ⟨rfl, _⟩ | ⟨g', off, cap, cur, rfl, hb, hg, _⟩
  · cases h
  · simp [Value.ownBlock] at h
    subst h
    unfold Bk at h1
    rw [h1] at hg
    injection hg with hg
    injection hg with h3 h4 h5
    exact hne h4
theorem u8_of (u : Nat) : IntKind.u8.wrap (u : Int) = ((u % 256 : Nat) : Int) := by rw [IntKind.wrap_u8]; omega
theorem bV_nat (n : Nat) (h : n < 256) : bV (UInt8.ofNat n) = .int .u8 (n : Int) := by
  unfold bV
  rw [show (UInt8.ofNat n).toNat = n % 256 from rfl, Nat.mod_eq_of_lt h]
theorem or128B : ((List.range 256).all fun x => bits BinOp.or IntKind.u8 (x : Int) 128 == ((x % 128 + 128 : Nat) : Int)) = true := by kernel_rfl
theorem or128 (x : Nat) : bits BinOp.or IntKind.u8 ((x : Int) % 256) 128 = ((x % 128 + 128 : Nat) : Int) := by
  have h := List.all_eq_true.1 or128B (x % 256) (List.mem_range.2 (by omega))
  have h2 := eq_of_beq h
  rw [show ((x % 256 : Nat) : Int) = (x : Int) % 256 by omega, show x % 256 % 128 = x % 128 by omega] at h2
  exact h2
/-- One append to a writer, and the store of the slice. -/
theorem w_step {wa w1 : World} {g n m : Nat} {v v1 : Value} {bad : Bool} {xs zs : List Value} (hB : Bk wa g #[v, .bool bad] 139) (hO : Own wa 0 5 1 v n xs) (hg : wa.grownBy w1 v.ownBlock) (ho1 : Own w1 0 5 1 v1 m zs) :
    Bk w1 g #[v, .bool bad] 139 ∧ Bk (w1.setCell ⟨g, 0, none⟩ v1) g #[v1, .bool bad] 139 ∧ Own (w1.setCell ⟨g, 0, none⟩ v1) 0 5 1 v1 m zs := by
  have hne : v.ownBlock ≠ some g := own_far hB hO (by decide)
  have b1 : Bk w1 g #[v, .bool bad] 139 := hB.keep (hg.block g hB.lt (fun e => hne e.symm))
  refine ⟨b1, b1.setCell 0 v1, ho1.keep fun k hk => Below.heap_setCell _ _ _ _ fun e => ?_⟩
  have e2 : k = g := e
  subst e2
  exact own_far b1 ho1 (by decide) hk
theorem own_gr {L : List Nat} {v v1 : Value} {n m : Nat} (hK : ∀ k, v.ownBlock = some k → k ∈ L ∨ n ≤ k) (hn1 : v1.ownBlock = v.ownBlock ∨ ∃ g, v1.ownBlock = some g ∧ m ≤ g) (hnm : n ≤ m) : ∀ k, v1.ownBlock = some k → k ∈ L ∨ n ≤ k := by
  intro k hk
  rcases hn1 with h | ⟨g, h, hg⟩
  · exact hK k (h ▸ hk)
  · rw [h] at hk; injection hk with hk; omega
theorem gr_make {L : List Nat} {v : Value} {n g : Nat} (hg : g ∈ L) (hK : ∀ k, v.ownBlock = some k → k ∈ L ∨ n ≤ k) : Gr L (g :: v.ownBlock.toList) n := by
  intro k hk
  rcases List.mem_cons.1 hk with rfl | hk
  · exact .inl hg
  · exact hK k (by simpa using hk)
set_option maxRecDepth 100000 in
set_option maxHeartbeats 2000000 in
theorem wput_any (g u : Nat) (hu : u < 18446744073709551616) (bs : List UInt8) (bad : Bool) (L : List Nat) (w : World) (h : WAt w L g bs bad) (hl : bs.length ≤ 100000000) :
    Calls Try.prog 93 #[.pointer (some ⟨g, 0, none⟩), .int .u64 u] w fun e w' => e = .returned (.tuple #[]) ∧ ∃ L', WAt w' L' g (bs ++ grp u) bad ∧ Fr L w w' ∧ Gr L L' w.heap.size := by
  obtain ⟨⟨v, h1, h2, h3⟩, h4, h5⟩ := h
  have H1 := Bx.mk h1; have H2 := Bx.mk h2; have H3 := Bx.mk h3; have H4 := Bx.mk h4; have HL := Bx.mk hl; have HU := Bx.mk hu
  have H10 := Bx.mk (grp_len64 hu)
  clear h1 h2 h3 h4 h5 hl hu
  go_enter Try.func93, Try.ntmps93
  go_wp2_with fail
  go_loopw [1,4,5,6,7,8,9,10,11,12,13,14,15,16,17,18,19] (fun t1 _ _ _ _ _ _ _ _ _ _ _ _ _ _ _ _ wr => ∃ (x : Nat) (v : Value) (ys : List UInt8), t1 = .int .u64 x ∧ x ≤ u ∧ Bx (ys ++ grp x = bs ++ grp u) ∧ Bk wr g #[v, .bool bad] 139 ∧ Own wr 0 5 1 v ys.length (ys.map bV) ∧ Bx (∀ k, v.ownBlock = some k → k ∈ L ∨ w.heap.size ≤ k) ∧ Fr L w wr) (fun t1 _ _ _ _ _ _ _ _ _ _ _ _ _ _ _ _ _ => (intOf t1).toNat)
  case atStart => exact ⟨u, v, bs, rfl, Nat.le_refl _, ⟨rfl⟩, H1.out, H2.out, ⟨fun k hk => .inl (H3.out k hk)⟩, Fr.refl _ _⟩
  case round =>
    obtain ⟨x, v, ys, rfl, hxu, hE, hB, hO, hK, hF⟩ := hrel
    have HB := Bx.mk hB; have HO := Bx.mk hO; have HF := Bx.mk hF
    have hlen : ys.length ≤ 100000010 := by
      have := congrArg List.length hE.out; rw [List.length_append, List.length_append] at this; have := HL.out; have := H10.out; omega
    have HLen := Bx.mk hlen
    have hXU := Bx.mk hxu
    have c0 : wr.cell? ⟨g, 0, none⟩ = some v := by rw [hB.cell]; rfl
    clear hB hO hF hlen hxu
    by_cases hge : (128 : Int) ≤ (x : Int)
    · have hG := grp_ge (u := x) (by omega)
      obtain ⟨y, hy⟩ : ∃ y, y = x % 128 + 128 := ⟨_, rfl⟩
      have f2 : bits BinOp.or IntKind.u8 ((x : Int) % 256) 128 = (y : Int) := by rw [or128, hy]
      have f3 : (x : Int) / 128 = ((x / 128 : Nat) : Int) := by omega
      have f4 : IntKind.u64.wrap ((x / 128 : Nat) : Int) = ((x / 128 : Nat) : Int) := by rw [IntKind.wrap_u64]; have := hXU.out; have := HU.out; omega
      rw [← hy] at hG
      have hyb := bV_nat y (by omega)
      have HY := Bx.mk hyb; have HG := Bx.mk hG
      have hdec : x / 128 < x := by omega
      have hdec2 : x / 128 ≤ u := by have := hXU.out; omega
      have HD := Bx.mk hdec; have HD2 := Bx.mk hdec2
      clear hy hyb hG hdec hdec2
      generalize x / 128 = x2 at *
      go_wp2_with (refine wpList_appb rfl (.tmp 10) (.tmp 14) rfl rfl (HO.out.alloc _) _ rfl 1 [bV (UInt8.ofNat y)] (by rw [← HY.out]; exact Src.builtB (UInt8.ofNat y)) (by have := HLen.out; omega) (by omega) ?_)
      intro v1 w1 ho1 hg1 hn1
      obtain ⟨a1, cp1, rfl⟩ := ho1.isSlice
      obtain ⟨b1, b2, b3⟩ := w_step (HB.out.alloc _) (HO.out.alloc _) hg1 ho1
      have hK2 := own_gr hK.out hn1 (show w.heap.size ≤ wr.heap.size + 1 by have := HF.out.size; omega)
      have hF2 := ((HF.out.alloc (.cells #[.int .u8 (y : Int)] 5)).grown hg1 hK.out).setCell (p := ⟨g, 0, none⟩) (.inl H4.out) (.slice a1 (ys.length + 1) cp1)
      have c1 : w1.frozen? ⟨g, 0, none⟩ = false := b1.frozen 0
      have c2 : w1.cell? ⟨g, 0, none⟩ = some v := by rw [b1.cell]; rfl
      have B2 := Bx.mk b2; have B3 := Bx.mk b3; have K2 := Bx.mk hK2; have F2 := Bx.mk hF2
      clear b1 b2 b3 hK2 hF2 ho1 hg1 hn1
      go_wp2
      go_roundw
      case rel => exact ⟨x2, _, ys ++ [UInt8.ofNat y], rfl, HD2.out, ⟨by rw [← hE.out, HG.out, List.append_assoc]; rfl⟩, B2.out, by rw [List.length_append, List.map_append]; exact B3.out, K2, F2.out⟩
      case measure => have := HD.out; simp [intOf]; omega
    · have hG := grp_lt (u := x) (by omega)
      have hyb := bV_nat x (by omega)
      have HY := Bx.mk hyb; have HG := Bx.mk hG
      have f1 : (x : Int) % 256 = (x : Int) := by omega
      clear hyb hG
      go_wp2_with (refine wpList_appb rfl (.tmp 24) (.tmp 27) rfl rfl (HO.out.alloc _) _ rfl 1 [bV (UInt8.ofNat x)] (by rw [← HY.out]; exact Src.builtB (UInt8.ofNat x)) (by have := HLen.out; omega) (by omega) ?_)
      intro v1 w1 ho1 hg1 hn1
      obtain ⟨a1, cp1, rfl⟩ := ho1.isSlice
      obtain ⟨b1, b2, b3⟩ := w_step (HB.out.alloc _) (HO.out.alloc _) hg1 ho1
      have hK2 := own_gr hK.out hn1 (show w.heap.size ≤ wr.heap.size + 1 by have := HF.out.size; omega)
      have hF2 := ((HF.out.alloc (.cells #[.int .u8 (x : Int)] 5)).grown hg1 hK.out).setCell (p := ⟨g, 0, none⟩) (.inl H4.out) (.slice a1 (ys.length + 1) cp1)
      have c1 : w1.frozen? ⟨g, 0, none⟩ = false := b1.frozen 0
      have c2 : w1.cell? ⟨g, 0, none⟩ = some v := by rw [b1.cell]; rfl
      have B2 := Bx.mk b2; have B3 := Bx.mk b3; have K2 := Bx.mk hK2; have F2 := Bx.mk hF2
      clear b1 b2 b3 hK2 hF2 ho1 hg1 hn1
      go_wp2
      go_end0
      refine ⟨rfl, _, ?_, F2.out, gr_make H4.out K2.out⟩
      rw [← hE.out, HG.out]
      exact WAt.make B2.out (by rw [List.length_append, List.map_append]; exact B3.out)
end Go.Proofs.Ytpfmadinijofeaa
end
section
/- The rest of the codec's writer, walked. -/
namespace Go.Proofs.Ytpfmadinijofeaa
open Go.RowKit
def W1 (w : World) (L : List Nat) (g : Nat) (bs : List UInt8) (bad : Bool) (e : Ending) (w' : World) : Prop :=
  e = .returned (.tuple #[]) ∧ ∃ L', WAt w' L' g bs bad ∧ Fr L w w' ∧ Gr L L' w.heap.size
theorem WAt.setBad {w : World} {L : List Nat} {g : Nat} {bs : List UInt8} {bad : Bool} (h : WAt w L g bs bad) : WAt (w.setCell ⟨g, 1, none⟩ (.bool true)) L g bs true := by
  obtain ⟨⟨v, h1, h2, h3⟩, h4, h5⟩ := h
  refine ⟨⟨v, h1.setCell 1 (.bool true), h2.keep fun k hk => Below.heap_setCell _ _ _ _ fun e => ?_, h3⟩, h4, by simpa [Under] using h5⟩
  have e2 : k = g := e
  subst e2
  exact own_far h1 h2 (by decide) hk
theorem zig_xor_pos (n : Nat) (h : n < 9223372036854775808) : zig (n : Int) = 2 * n := by unfold zig; rw [if_pos (by omega)]; omega
theorem xor_zero (a : Nat) (h : a < 18446744073709551616) : bits BinOp.xor IntKind.u64 (a : Int) 0 = (a : Int) := by
  have := bits_xor_u64_nat a 0 h (by omega)
  simpa using this
theorem nat_xor_ones (a : Nat) (h : a < 2 ^ 64) : a ^^^ (2 ^ 64 - 1) = 2 ^ 64 - 1 - a := by
  apply Nat.eq_of_testBit_eq
  intro i
  rw [Nat.testBit_xor, Nat.testBit_two_pow_sub_one, show 2 ^ 64 - 1 - a = 2 ^ 64 - (a + 1) by omega, Nat.testBit_two_pow_sub_succ h]
  by_cases hi : i < 64
  · simp [hi]
  · simp [hi]
    exact Nat.testBit_lt_two_pow (Nat.lt_of_lt_of_le h (Nat.pow_le_pow_right (by omega) (by omega)))
theorem xor_ones (a : Nat) (h : a < 18446744073709551616) : bits BinOp.xor IntKind.u64 (a : Int) 18446744073709551615 = ((18446744073709551615 - a : Nat) : Int) := by
  have h1 := bits_xor_u64_nat a 18446744073709551615 h (by omega)
  have h2 := nat_xor_ones a h
  rw [show (2 : Nat) ^ 64 - 1 = 18446744073709551615 from rfl] at h2
  rw [h2] at h1
  exact h1
/-- The bytes of a slice, in blocks of M. -/
def In (w : World) (M : List Nat) (a : Option Addr) (bs : List UInt8) : Prop := RowAt w a (bs.map bV) ∧ ∀ ad, a = some ad → bs ≠ [] → ad.block ∈ M
theorem In.keep {w w' : World} {M : List Nat} {a : Option Addr} {bs : List UInt8} (h : In w M a bs) (hk : ∀ k ∈ M, w'.heap[k]? = w.heap[k]?) : In w' M a bs := by
  refine ⟨?_, h.2⟩
  rcases h.1 with h1 | ⟨b, off, rfl, h1⟩
  · exact .inl h1
  · by_cases hb : bs = []
    · exact .inl (by rw [hb]; rfl)
    · refine .inr ⟨b, off, rfl, fun i v hv => ?_⟩
      rw [← h1 i v hv]
      exact World.cell?_of_block (a := ⟨b, off + i, none⟩) (hk b (h.2 _ rfl hb))
theorem In.nil (w : World) (M : List Nat) : In w M none [] := ⟨.inl rfl, fun _ h => by cases h⟩
theorem In.src {w : World} {M : List Nat} {a : Option Addr} {bs : List UInt8} (h : In w M a bs) (c : Nat) : Src Try.prog 1 22 (.slice a bs.length c) bs.length (bs.map bV) w := by
  have := Src.ofRow (P := Try.prog) (tx := 22) (w := w) Try.underlying22 a c (bs.map bV) h.1 one_bV
  rwa [List.length_map] at this
set_option maxRecDepth 100000 in
set_option maxHeartbeats 2000000 in
theorem wText_any (g : Nat) (a : Option Addr) (c : Nat) (ts : List UInt8) (M : List Nat) (bs : List UInt8) (bad : Bool) (L : List Nat) (w : World) (h : WAt w L g bs bad) (ht : In w M a ts) (hM : Under M w.heap.size) (hap : Apart M L) (hl : bs.length ≤ 10000000) (htl : ts.length ≤ 10000000) :
    Calls Try.prog 80 #[.pointer (some ⟨g, 0, none⟩), .slice a ts.length c] w (W1 w L g (bs ++ textB ts) bad) := by
  have f1 : IntKind.u64.wrap (ts.length : Int) = (ts.length : Int) := by rw [IntKind.wrap_u64]; omega
  have HC := fun w h => Bx.mk (wput_any g ts.length (by omega) bs bad L w h (by omega))
  have HW := Bx.mk h; have HT := Bx.mk ht; have HM := Bx.mk hM; have HAP := Bx.mk hap; have HL := Bx.mk hl; have HTL := Bx.mk htl
  have H10 := Bx.mk (grp_len64 (u := ts.length) (by omega))
  clear h ht hM hap hl htl
  go_enter Try.func80, Try.ntmps80
  go_wp2_with fail
  refine (HC _ HW.out).out.mono ?_
  rintro e w' ⟨rfl, L1, hW1, hF1, hG1⟩
  have HT1 := Bx.mk (HT.out.keep (hF1.keep HAP.out HM.out))
  have HF1 := Bx.mk hF1; have HG1 := Bx.mk hG1
  obtain ⟨⟨v, h1, h2, h3⟩, h4, h5⟩ := hW1
  have H1 := Bx.mk h1; have H2 := Bx.mk h2; have H3 := Bx.mk h3; have H4 := Bx.mk h4; have H5 := Bx.mk h5
  have c0 : w'.cell? ⟨g, 0, none⟩ = some v := by rw [h1.cell]; rfl
  clear h1 h2 h3 h4 h5 hF1 hG1 HC
  go_wp2_with (refine wpList_appb rfl (.tmp 15) (.tmp 16) rfl rfl H2.out _ rfl ts.length (ts.map bV) (HT1.out.src c) (by have := HL.out; have := HTL.out; have := H10.out; simp only [List.length_append]; omega) (by omega) ?_)
  intro v1 w1 ho1 hg1 hn1
  obtain ⟨a1, cp1, rfl⟩ := ho1.isSlice
  obtain ⟨b1, b2, b3⟩ := w_step H1.out H2.out hg1 ho1
  have hK2 := own_gr (fun k hk => Or.inl (H3.out k hk)) hn1 (Nat.le_refl w'.heap.size)
  have hF2 := ((Fr.refl L1 w').grown hg1 (fun k hk => Or.inl (H3.out k hk))).setCell (p := ⟨g, 0, none⟩) (.inl H4.out) (.slice a1 (bs.length + (grp ts.length).length + ts.length) cp1)
  have e1 : w1.frozen? ⟨g, 0, none⟩ = false := b1.frozen 0
  have e2 : w1.cell? ⟨g, 0, none⟩ = some v := by rw [b1.cell]; rfl
  have B2 := Bx.mk b2; have B3 := Bx.mk b3; have K2 := Bx.mk hK2; have F2 := Bx.mk hF2
  clear b1 b2 b3 hK2 hF2 ho1 hg1 hn1
  go_wp2
  go_end0
  refine ⟨rfl, _, ?_, HF1.out.trans F2.out HG1.out, HG1.out.trans (gr_make H4.out K2.out) HF1.out.size⟩
  unfold textB
  rw [← List.append_assoc]
  exact WAt.make B2.out (by rw [List.length_append, List.length_append, List.map_append (l₂ := ts), List.map_append]; have := B3.out; rw [List.append_assoc]; exact this)
theorem In.ofOwn {w : World} {b : Nat} {a : Option Addr} {c : Nat} {xs : List UInt8} (h : Own w b 5 1 (.slice a xs.length c) xs.length (xs.map bV)) : In w (Value.ownBlock (.slice a xs.length c)).toList a xs := by
  refine ⟨h.row, fun ad had hne => ?_⟩
  rcases h.2 with ⟨he, h0⟩ | ⟨g, off, cap, cur, he, _⟩
  · exact absurd (List.eq_nil_of_length_eq_zero h0) hne
  · injection he with h1 h2 h3
    subst h1
    injection had with had
    subst had
    simp [Value.ownBlock]
end Go.Proofs.Ytpfmadinijofeaa
end
