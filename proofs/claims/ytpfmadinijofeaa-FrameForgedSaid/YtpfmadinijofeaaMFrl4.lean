import Derived.Test.YtpfmadinijofeaaMFrl3
import Derived.Laws.BitsAllLaws
import Derived.Test.YtpfmadinijofeaaMFrl1
import Derived.Test.YtpfmadinijofeaaRows
import Derived.Deep.DeepCutAuto
import Derived.Deep.CutBlock
import Derived.OwnWalk
import Derived.ScopeJumps
import Derived.WalkMore
import Derived.Test.YtpfmadinijofeaaProg
import Derived.Test.YtpfmadinijofeaaMFrl2
import Derived.RangeFuncBox
import Derived.RangeFuncLeaves
import Derived.Shelf.Abstract
import Derived.WalkKit
import Derived.OwnWalkIn
import Derived.TacticsInMore
import Derived.LoopNIn
import Derived.LoopIn
import Derived.RegionIn
import Derived.Maps.AppendAt
set_option linter.unusedVariables false
section
/- The disk of layer 4, as a function: what lasts, the cache, what is left of the power. No program in sight. -/
namespace Go.Proofs.Ytpfmadinijofeaa
open Go.RowKit
structure DS where
  n : Nat
  last : Nat → List UInt8
  cch : Nat → Option (List UInt8)
  left : Int
  off : Bool
def zero64 : List UInt8 := List.replicate 64 0
structure DWf (S : DS) : Prop where
  n1 : 1 ≤ S.n
  n2 : S.n ≤ 8192
  last : ∀ i, (S.last i).length = 64
  cch : ∀ i s, S.cch i = some s → i < S.n ∧ s.length = 64
  left0 : 0 ≤ S.left
  leftM : S.left ≤ 9223372036854775807
def newS (n : Nat) : DS := ⟨n, fun _ => zero64, fun _ => none, 0, false⟩
theorem newS_wf {n : Nat} (h1 : 1 ≤ n) (h2 : n ≤ 8192) : DWf (newS n) := ⟨h1, h2, fun _ => rfl, fun _ _ h => (by cases h), by show (0 : Int) ≤ 0; decide, by show (0 : Int) ≤ _; decide⟩
def nowS (S : DS) (i : Nat) : List UInt8 := (S.cch i).getD (S.last i)
theorem DWf.now {S : DS} (h : DWf S) (i : Nat) : (nowS S i).length = 64 := by
  unfold nowS
  cases hc : S.cch i with
  | none => exact h.last i
  | some s => exact (h.cch i s hc).2
def mayE (S : DS) (first n : Int) : Int := if S.off = true then 12 else if 0 ≤ first ∧ 0 ≤ n ∧ first ≤ S.n ∧ n ≤ S.n - first then 0 else 1
theorem mayE_zero {S : DS} {first n : Int} (h : mayE S first n = 0) : S.off = false ∧ 0 ≤ first ∧ 0 ≤ n ∧ first ≤ S.n ∧ n ≤ S.n - first := by
  unfold mayE at h
  split at h
  · omega
  · rename_i ho
    split at h
    · rename_i hc; exact ⟨by cases hh : S.off; rfl; exact absurd hh ho, hc⟩
    · omega
def readS (S : DS) (first n : Nat) : List UInt8 := (List.range n).flatMap fun i => nowS S (first + i)
theorem readS_succ (S : DS) (first n : Nat) : readS S first (n + 1) = readS S first n ++ nowS S (first + n) := by
  unfold readS
  rw [List.range_succ, List.flatMap_append]
  simp
theorem readS_len {S : DS} (h : DWf S) (first : Nat) : ∀ n, (readS S first n).length = n * 64
  | 0 => rfl
  | n + 1 => by rw [readS_succ, List.length_append, readS_len h first n, h.now]; omega
def readL (S : DS) (first n : Int) : List UInt8 := if mayE S first n = 0 then readS S first.toNat n.toNat else []
def putK (S : DS) (k : Nat) (s : List UInt8) : DS :=
  ⟨S.n, S.last, fun i => if i = k then some s else S.cch i, if 0 < S.left then S.left - 1 else S.left, if 0 < S.left then decide (S.left - 1 = 0) else S.off⟩
theorem DWf.put {S : DS} (h : DWf S) {k : Nat} {s : List UInt8} (hk : k < S.n) (hs : s.length = 64) : DWf (putK S k s) := by
  refine ⟨h.n1, h.n2, h.last, fun i t ht => ?_, ?_, ?_⟩
  · change (if i = k then some s else S.cch i) = some t at ht
    split at ht
    · rename_i e; subst e; injection ht with ht; subst ht; exact ⟨hk, hs⟩
    · exact h.cch i t ht
  · show (0 : Int) ≤ if 0 < S.left then S.left - 1 else S.left
    have := h.left0
    split <;> omega
  · show (if 0 < S.left then S.left - 1 else S.left) ≤ (9223372036854775807 : Int)
    have := h.leftM
    split <;> omega
/-- Pieces put one behind the other, till the power is off. -/
def wrS (S : DS) (first : Nat) (f : Nat → List UInt8) : Nat → DS
  | 0 => S
  | k + 1 => if (wrS S first f k).off = true then wrS S first f k else putK (wrS S first f k) (first + k) (f k)
theorem wrS_n (S : DS) (first : Nat) (f : Nat → List UInt8) : ∀ k, (wrS S first f k).n = S.n
  | 0 => rfl
  | k + 1 => by
    rw [wrS]
    split
    · exact wrS_n S first f k
    · exact wrS_n S first f k
theorem wrS_stay {S : DS} {first : Nat} {f : Nat → List UInt8} {i : Nat} (h : (wrS S first f i).off = true) : ∀ {j : Nat}, i ≤ j → wrS S first f j = wrS S first f i
  | 0, hj => by rw [show i = 0 by omega]
  | j + 1, hj => by
    by_cases e : i = j + 1
    · rw [e]
    · have := wrS_stay h (j := j) (by omega)
      rw [wrS, this, if_pos h]
theorem DWf.wr {S : DS} (h : DWf S) {first : Nat} {f : Nat → List UInt8} : ∀ {m : Nat}, (∀ k, k < m → (f k).length = 64) → first + m ≤ S.n → DWf (wrS S first f m)
  | 0, _, _ => h
  | m + 1, hf, hm => by
    have ih := DWf.wr h (first := first) (f := f) (m := m) (fun k hk => hf k (by omega)) (by omega)
    rw [wrS]
    split
    · exact ih
    · exact ih.put (by rw [wrS_n]; omega) (hf m (by omega))
def pieceB (b : List UInt8) (k : Nat) : List UInt8 := (b.drop (k * 64)).take 64
theorem pieceB_len {b : List UInt8} {k m : Nat} (h : b.length = m * 64) (hk : k < m) : (pieceB b k).length = 64 := by
  unfold pieceB
  rw [List.length_take, List.length_drop, h]
  have : (k + 1) * 64 ≤ m * 64 := Nat.mul_le_mul_right 64 hk
  omega
def writeE (S : DS) (first : Int) (b : List UInt8) : Int :=
  if mayE S first ((b.length / 64 : Nat) : Int) ≠ 0 then mayE S first ((b.length / 64 : Nat) : Int)
  else if b.length % 64 ≠ 0 then 1 else if (wrS S first.toNat (pieceB b) (b.length / 64)).off = true then 12 else 0
def writeD (S : DS) (first : Int) (b : List UInt8) : DS :=
  if mayE S first ((b.length / 64 : Nat) : Int) = 0 ∧ b.length % 64 = 0 then wrS S first.toNat (pieceB b) (b.length / 64) else S
theorem DWf.write {S : DS} (h : DWf S) (first : Int) (b : List UInt8) : DWf (writeD S first b) := by
  unfold writeD
  split
  · rename_i hc
    obtain ⟨h1, h2, h3, h4, h5⟩ := mayE_zero hc.1
    have hb : b.length = b.length / 64 * 64 := by omega
    exact h.wr (fun k hk => pieceB_len hb hk) (by omega)
  · exact h
def syncE (S : DS) : Int := if S.off = true then 12 else 0
def syncD (S : DS) : DS := if S.off = true then S else ⟨S.n, nowS S, fun _ => none, S.left, S.off⟩
theorem DWf.sync {S : DS} (h : DWf S) : DWf (syncD S) := by
  unfold syncD
  split
  · exact h
  · exact ⟨h.n1, h.n2, h.now, fun _ _ q => (by cases q), h.left0, h.leftM⟩
def cutD (S : DS) (n : Int) : DS := ⟨S.n, S.last, S.cch, max n 0, S.off⟩
theorem DWf.cut {S : DS} (h : DWf S) {n : Int} (hn : n ≤ 9223372036854775807) : DWf (cutD S n) := ⟨h.n1, h.n2, h.last, h.cch, by show (0 : Int) ≤ max n 0; omega, by show max n 0 ≤ (9223372036854775807 : Int); omega⟩
/-! What is in the cache, in order; how many stand before. -/
def dirtyS (S : DS) (i : Nat) : Bool := (S.cch i).isSome
def dirtyL (S : DS) : List Nat := (List.range S.n).filter (dirtyS S)
def rk (p : Nat → Bool) (i : Nat) : Nat := ((List.range i).filter p).length
theorem rk_succ (p : Nat → Bool) (i : Nat) : rk p (i + 1) = rk p i + if p i = true then 1 else 0 := by
  unfold rk
  rw [List.range_succ, List.filter_append, List.length_append]
  congr 1
  cases h : p i <;> simp [h]
theorem filt_get (p : Nat → Bool) : ∀ (n k i : Nat), ((List.range n).filter p)[k]? = some i → k = rk p i ∧ i < n ∧ p i = true
  | 0, k, i, h => by simp at h
  | n + 1, k, i, h => by
    rw [List.range_succ, List.filter_append] at h
    by_cases hk : k < ((List.range n).filter p).length
    · rw [List.getElem?_append_left hk] at h
      obtain ⟨a, b, c⟩ := filt_get p n k i h
      exact ⟨a, by omega, c⟩
    · rw [List.getElem?_append_right (by omega)] at h
      cases hp : p n with
      | false => simp [hp] at h
      | true =>
        simp only [List.filter_cons, hp, if_true, List.filter_nil] at h
        have hz : k - ((List.range n).filter p).length = 0 := by
          have := (List.getElem?_eq_some_iff.1 h).1
          simpa using this
        rw [hz] at h
        simp at h
        subst h
        exact ⟨by unfold rk; omega, by omega, hp⟩
theorem filt_rk (p : Nat → Bool) {n i : Nat} (hi : i < n) (hp : p i = true) : ((List.range n).filter p)[rk p i]? = some i := by
  have hm : i ∈ (List.range n).filter p := List.mem_filter.2 ⟨List.mem_range.2 hi, hp⟩
  obtain ⟨k, hk⟩ := List.getElem?_of_mem hm
  rw [← (filt_get p n k i hk).1]
  exact hk
def crashD (S : DS) (kept : List Bool) : DS := ⟨S.n, fun i => if dirtyS S i = true ∧ kept.getD (rk (dirtyS S) i) false = true then nowS S i else S.last i, fun _ => none, 0, false⟩
theorem DWf.crash {S : DS} (h : DWf S) (kept : List Bool) : DWf (crashD S kept) :=
  ⟨h.n1, h.n2, fun i => by
    show (if dirtyS S i = true ∧ kept.getD (rk (dirtyS S) i) false = true then nowS S i else S.last i).length = 64
    split
    · exact h.now i
    · exact h.last i, fun _ _ q => (by cases q), by show (0 : Int) ≤ 0; decide, by show (0 : Int) ≤ _; decide⟩
/-! Values. -/
def secV (s : List UInt8) : Value := .agg (s.map bV).toArray
def cD (S : DS) (k : Int) : Option Value := if k < 0 then none else (S.cch k.toNat).map secV
theorem cD_nat (S : DS) (k : Nat) : cD S (k : Int) = (S.cch k).map secV := by unfold cD; rw [if_neg (by omega), Int.toNat_natCast]
def dirtyI (S : DS) : List Int := (dirtyL S).map fun (i : Nat) => (i : Int)
theorem dirtyL_sorted (S : DS) : (dirtyL S).Pairwise (· < ·) := (List.pairwise_lt_range).filter _
theorem dirtyI_sorted (S : DS) : (dirtyI S).Pairwise (· < ·) := by
  unfold dirtyI
  rw [List.pairwise_map]
  exact (dirtyL_sorted S).imp fun h => by omega
theorem dirtyL_le {S : DS} (h : DWf S) : (dirtyL S).length ≤ 8192 := by
  have := List.length_filter_le (dirtyS S) (List.range S.n)
  rw [List.length_range] at this
  exact Nat.le_trans this h.n2
theorem mem_dirtyI {S : DS} (h : DWf S) {k : Int} : k ∈ dirtyI S ↔ 0 ≤ k ∧ (S.cch k.toNat).isSome = true := by
  unfold dirtyI dirtyL
  rw [List.mem_map]
  constructor
  · rintro ⟨i, hi, rfl⟩
    exact ⟨by omega, by rw [Int.toNat_natCast]; exact (List.mem_filter.1 hi).2⟩
  · rintro ⟨h0, h1⟩
    refine ⟨k.toNat, List.mem_filter.2 ⟨List.mem_range.2 ?_, h1⟩, by omega⟩
    obtain ⟨s, hs⟩ := Option.isSome_iff_exists.1 h1
    exact (h.cch _ s hs).1
end Go.Proofs.Ytpfmadinijofeaa
end
section
/- The sum of 32 bits as plain numbers: bit steps, nibbles, bytes, texts; no program in sight. -/
namespace Go.Proofs.Ytpfmadinijofeaa
def st (n : Nat) : Nat := if n % 2 = 1 then (n / 2) ^^^ 3988292384 else n / 2
def iter (f : Nat → Nat) : Nat → Nat → Nat
  | 0, n => n
  | k + 1, n => f (iter f k n)
def tbl : List Nat := [0, 498536548, 997073096, 651767980, 1994146192, 1802195444, 1303535960, 1342533948, 3988292384, 4027552580, 3604390888, 3412177804, 2607071920, 2262029012, 2685067896, 3183342108]
theorem tbl_ok : ∀ k, k < 16 → iter st 4 k = tbl.getD k 0 := by decide
theorem tbl_lt : ∀ k, tbl.getD k 0 < 4294967296 := by
  intro k
  by_cases h : k < 16
  · exact (by decide : ∀ k, k < 16 → tbl.getD k 0 < 4294967296) k h
  · rw [List.getD_eq_getElem?_getD, List.getElem?_eq_none (by show 16 ≤ k; omega)]; decide
def nib (n : Nat) : Nat := (n / 16) ^^^ (tbl.getD (n % 16) 0)
def cb (n x : Nat) : Nat := nib (nib (n ^^^ x))
def crcL (n : Nat) (bs : List UInt8) : Nat := bs.foldl (fun n x => cb n x.toNat) n
def cpl (n : Nat) : Nat := 4294967295 ^^^ n
/-- 'More'. -/
def more (n : Nat) (bs : List UInt8) : Nat := cpl (crcL (cpl n) bs)
/-- 'Sum' of parts, from a sum on. -/
def crcP (n : Nat) (ps : List (List UInt8)) : Nat := ps.foldl more n

theorem xlt {a b : Nat} (ha : a < 4294967296) (hb : b < 4294967296) : a ^^^ b < 4294967296 := Nat.xor_lt_two_pow (n := 32) ha hb
theorem st_lt {n : Nat} (h : n < 4294967296) : st n < 4294967296 := by
  unfold st
  split
  · exact xlt (by omega) (by omega)
  · omega
theorem iter_lt {n : Nat} (k : Nat) (h : n < 4294967296) : iter st k n < 4294967296 := by
  induction k with
  | zero => exact h
  | succ k ih => exact st_lt ih
theorem nib_lt {n : Nat} (h : n < 4294967296) : nib n < 4294967296 := xlt (by omega) (tbl_lt _)
theorem cb_lt {n : Nat} (x : UInt8) (h : n < 4294967296) : cb n x.toNat < 4294967296 := nib_lt (nib_lt (xlt h (by have := x.toNat_lt; omega)))
theorem crcL_lt (bs : List UInt8) : ∀ {n : Nat}, n < 4294967296 → crcL n bs < 4294967296 := by
  induction bs with
  | nil => intro n h; exact h
  | cons x bs ih => intro n h; exact ih (cb_lt x h)
theorem xself (a b : Nat) : a ^^^ (a ^^^ b) = b := by rw [← Nat.xor_assoc, Nat.xor_self, Nat.zero_xor]
theorem cpl_def (n : Nat) : cpl n = 4294967295 ^^^ n := rfl
theorem cpl_lt {n : Nat} (h : n < 4294967296) : cpl n < 4294967296 := by
  unfold cpl
  exact xlt (by decide) h
theorem more_lt {n : Nat} (bs : List UInt8) (h : n < 4294967296) : more n bs < 4294967296 := cpl_lt (crcL_lt _ (cpl_lt h))
theorem cpl_cpl (n : Nat) : cpl (cpl n) = n := by rw [cpl_def, cpl_def, xself]
theorem crcP_lt (ps : List (List UInt8)) : ∀ {n : Nat}, n < 4294967296 → crcP n ps < 4294967296 := by
  induction ps with
  | nil => intro n h; exact h
  | cons x bs ih => intro n h; exact ih (more_lt _ h)
theorem crcL_append (n : Nat) (a b : List UInt8) : crcL n (a ++ b) = crcL (crcL n a) b := List.foldl_append
theorem more_append {n : Nat} (a b : List UInt8) : more n (a ++ b) = more (more n a) b := by
  unfold more
  rw [crcL_append, cpl_cpl]
theorem more_nil (n : Nat) : more n [] = n := cpl_cpl n
/-- Parts, one behind the other, are all at once. -/
theorem crcP_join (ps : List (List UInt8)) : ∀ n : Nat, crcP n ps = more n ps.flatten := by
  induction ps with
  | nil => intro n; exact (more_nil n).symm
  | cons x bs ih =>
    intro n
    show crcP (more n x) bs = more n (x ++ bs.flatten)
    rw [ih, more_append]

/-! A bit step is linear; four of them are a nibble. -/
theorem xlc (a b c : Nat) : a ^^^ (b ^^^ c) = b ^^^ (a ^^^ c) := by rw [← Nat.xor_assoc, Nat.xor_comm a b, Nat.xor_assoc]
theorem div_xor (a b : Nat) : (a ^^^ b) / 2 = a / 2 ^^^ b / 2 := by
  apply Nat.eq_of_testBit_eq; intro i; simp [Nat.testBit_div_two]
theorem st_xor (a b : Nat) : st (a ^^^ b) = st a ^^^ st b := by
  have h : (a ^^^ b) % 2 = (a % 2 + b % 2) % 2 := by
    have h1 := @Nat.xor_mod_two_eq_one a b
    rcases Nat.mod_two_eq_zero_or_one a with x | x <;> rcases Nat.mod_two_eq_zero_or_one b with y | y <;> rcases Nat.mod_two_eq_zero_or_one (a ^^^ b) with z | z <;> simp [x, y, z] at h1 ⊢
  unfold st
  rw [h, div_xor]
  rcases Nat.mod_two_eq_zero_or_one a with x | x <;> rcases Nat.mod_two_eq_zero_or_one b with y | y <;> simp [x, y]
  · rw [Nat.xor_assoc]
  · rw [Nat.xor_comm (a / 2 ^^^ 3988292384), xlc, Nat.xor_comm (b / 2), Nat.xor_assoc, Nat.xor_comm 3988292384]
  · rw [Nat.xor_assoc, Nat.xor_comm (b / 2), xself]
theorem iter_xor (k a b : Nat) : iter st k (a ^^^ b) = iter st k a ^^^ iter st k b := by
  induction k with
  | zero => rfl
  | succ k ih => show st (iter st k (a ^^^ b)) = _; rw [ih, st_xor]; rfl
theorem iter_add (j k a : Nat) : iter st (j + k) a = iter st j (iter st k a) := by
  induction j with
  | zero => rw [Nat.zero_add]; rfl
  | succ j ih => rw [Nat.succ_add]; show st (iter st (j + k) a) = st (iter st j (iter st k a)); rw [ih]
theorem st_even (a : Nat) : st (2 * a) = a := by unfold st; rw [if_neg (by omega)]; omega
theorem nib_iter (n : Nat) : nib n = iter st 4 n := by
  have e : n = (16 * (n / 16)) ^^^ (n % 16) := by
    apply Nat.eq_of_testBit_eq; intro i
    rw [Nat.testBit_xor, show 16 = 2 ^ 4 from rfl, Nat.testBit_two_pow_mul, Nat.testBit_mod_two_pow, Nat.testBit_div_two_pow]
    by_cases h : 4 ≤ i
    · simp [h, show ¬ i < 4 by omega, show i - 4 + 4 = i by omega]
    · simp [h, show i < 4 by omega]
  have h2 : iter st 4 (16 * (n / 16)) = n / 16 := by
    show st (st (st (st (16 * (n / 16))))) = _
    rw [show 16 * (n / 16) = 2 * (2 * (2 * (2 * (n / 16)))) by omega, st_even, st_even, st_even, st_even]
  conv => rhs; rw [e]
  rw [iter_xor, h2, tbl_ok _ (Nat.mod_lt _ (by omega))]; rfl
theorem cb_iter (n x : Nat) : cb n x = iter st 8 (n ^^^ x) := by
  unfold cb; rw [nib_iter, nib_iter, ← iter_add]

/-! The division of bits: each bit of the byte as it comes. -/
def rst (n x k : Nat) : Nat := if (n % 2 + x / 2 ^ k % 2) % 2 = 1 then (n / 2) ^^^ 3988292384 else n / 2
def rsteps (x : Nat) : Nat → Nat → Nat
  | 0, n => n
  | k + 1, n => rst (rsteps x k n) x k
theorem rst_lt {n : Nat} (x k : Nat) (h : n < 4294967296) : rst n x k < 4294967296 := by
  unfold rst
  split
  · exact xlt (by omega) (by omega)
  · omega
theorem rsteps_lt {n : Nat} (x k : Nat) (h : n < 4294967296) : rsteps x k n < 4294967296 := by
  induction k with
  | zero => exact h
  | succ k ih => exact rst_lt _ _ ih
theorem rsteps_iter (x n k : Nat) : iter st k (n ^^^ x) = rsteps x k n ^^^ (x / 2 ^ k) := by
  induction k with
  | zero => show n ^^^ x = n ^^^ x / 1; rw [Nat.div_one]
  | succ k ih =>
    show st (iter st k (n ^^^ x)) = rst (rsteps x k n) x k ^^^ (x / 2 ^ (k + 1))
    rw [ih, st_xor]
    generalize rsteps x k n = m
    have e : x / 2 ^ (k + 1) = x / 2 ^ k / 2 := by rw [Nat.pow_succ, Nat.div_div_eq_div_mul]
    rw [e]
    unfold rst
    generalize x / 2 ^ k = y
    unfold st
    rcases Nat.mod_two_eq_zero_or_one m with a | a <;> rcases Nat.mod_two_eq_zero_or_one y with b | b <;> simp [a, b]
    · rw [Nat.xor_assoc, Nat.xor_comm (y / 2)]
    · rw [Nat.xor_assoc, Nat.xor_comm (y / 2), xself]
theorem cb_rsteps (n : Nat) (x : UInt8) : cb n x.toNat = rsteps x.toNat 8 n := by
  rw [cb_iter, rsteps_iter, Nat.div_eq_of_lt (by have := x.toNat_lt; omega), Nat.xor_zero]

/-! Two texts whose difference lies within four bytes have unlike sums. -/
theorem st_zero {e : Nat} (h : e < 4294967296) (h0 : st e = 0) : e = 0 := by
  unfold st at h0
  split at h0
  · have h1 : e / 2 = 3988292384 := by
      have h2 := xself 3988292384 (e / 2)
      rw [Nat.xor_comm 3988292384 (e / 2), h0, Nat.xor_zero] at h2
      exact h2.symm
    omega
  · omega
theorem iter_zero (k : Nat) : ∀ {e : Nat}, e < 4294967296 → iter st k e = 0 → e = 0 := by
  induction k with
  | zero => intro e _ h; exact h
  | succ k ih => intro e he h; exact ih he (st_zero (iter_lt k he) h)
theorem cb_xor (n e x d : Nat) : cb (n ^^^ e) (x ^^^ d) = cb n x ^^^ iter st 8 (e ^^^ d) := by
  rw [cb_iter, cb_iter, ← iter_xor]
  congr 1
  rw [Nat.xor_assoc, Nat.xor_assoc, xlc e x d]
theorem crcL_xor (post : List UInt8) : ∀ (n e : Nat), crcL (n ^^^ e) post = crcL n post ^^^ iter st (8 * post.length) e := by
  induction post with
  | nil => intro n e; rfl
  | cons x r ih =>
    intro n e
    show crcL (cb (n ^^^ e) x.toNat) r = crcL (cb n x.toNat) r ^^^ iter st (8 * (r.length + 1)) e
    have h := cb_xor n e x.toNat 0
    rw [Nat.xor_zero, Nat.xor_zero] at h
    rw [h, ih, Nat.mul_add, iter_add]
theorem st_shift (k : Nat) : ∀ e, iter st k (2 ^ k * e) = e := by
  induction k with
  | zero => intro e; show 1 * e = e; rw [Nat.one_mul]
  | succ k ih =>
    intro e
    rw [iter_add k 1, show iter st 1 (2 ^ (k + 1) * e) = 2 ^ k * e from ?_]
    · exact ih e
    · show st (2 ^ (k + 1) * e) = _
      rw [Nat.pow_succ, Nat.mul_comm (2 ^ k) 2, Nat.mul_assoc, st_even]
theorem xeq {a b : Nat} (h : a ^^^ b = 0) : a = b := by rw [← xself a b, h, Nat.xor_zero]
theorem iter8_eq {u v : Nat} (hu : u < 4294967296) (hv : v < 16777216) (h : iter st 8 u = v) : u = 256 * v := by
  have h2 := st_shift 8 v
  have h3 : iter st 8 (u ^^^ 2 ^ 8 * v) = 0 := by rw [iter_xor, h, h2, Nat.xor_self]
  exact xeq (iter_zero 8 (xlt hu (by omega)) h3)
theorem xor_out {a b c : Nat} (h : a ^^^ b = c) : a = b ^^^ c := by rw [← h, Nat.xor_comm a b, xself]
theorem four_zero {d0 d1 d2 d3 : Nat} (h0 : d0 < 256) (h1 : d1 < 256) (h2 : d2 < 256) (h3 : d3 < 256)
    (h : iter st 8 (iter st 8 (iter st 8 (iter st 8 d0 ^^^ d1) ^^^ d2) ^^^ d3) = 0) : d0 = 0 ∧ d1 = 0 ∧ d2 = 0 ∧ d3 = 0 := by
  have l0 : iter st 8 d0 < 4294967296 := iter_lt 8 (by omega)
  have l1 : iter st 8 (iter st 8 d0 ^^^ d1) < 4294967296 := iter_lt 8 (xlt l0 (by omega))
  have l2 : iter st 8 (iter st 8 (iter st 8 d0 ^^^ d1) ^^^ d2) < 4294967296 := iter_lt 8 (xlt l1 (by omega))
  have a3 := iter_zero 8 (xlt l2 (show d3 < 4294967296 by omega)) h
  have a2 := xor_out (iter8_eq (xlt l1 (show d2 < 4294967296 by omega)) (show d3 < 16777216 by omega) (xeq a3))
  have m2 : d2 ^^^ 256 * d3 < 16777216 := Nat.xor_lt_two_pow (n := 24) (by omega) (by omega)
  have a1 := xor_out (iter8_eq (xlt l0 (show d1 < 4294967296 by omega)) m2 a2)
  have m2' : d2 ^^^ 256 * d3 < 65536 := Nat.xor_lt_two_pow (n := 16) (by omega) (by omega)
  generalize hz : d2 ^^^ 256 * d3 = z at *
  have m1 : d1 ^^^ 256 * z < 16777216 := Nat.xor_lt_two_pow (n := 24) (by omega) (by omega)
  have a0 := iter8_eq (show d0 < 4294967296 by omega) m1 a1
  generalize hy : d1 ^^^ 256 * z = y at *
  have y0 : y = 0 := by omega
  subst y0
  have := xeq hy
  have z0 : z = 0 := by omega
  subst z0
  have := xeq hz
  omega
theorem crc_differs (pre post : List UInt8) (x0 x1 x2 x3 y0 y1 y2 y3 : UInt8) (d0 d1 d2 d3 : Nat) (h0 : d0 < 256) (h1 : d1 < 256) (h2 : d2 < 256) (h3 : d3 < 256)
    (e0 : y0.toNat = x0.toNat ^^^ d0) (e1 : y1.toNat = x1.toNat ^^^ d1) (e2 : y2.toNat = x2.toNat ^^^ d2) (e3 : y3.toNat = x3.toNat ^^^ d3) (hd : ¬ (d0 = 0 ∧ d1 = 0 ∧ d2 = 0 ∧ d3 = 0)) :
    more 0 (pre ++ [x0, x1, x2, x3] ++ post) ≠ more 0 (pre ++ [y0, y1, y2, y3] ++ post) := by
  intro h
  unfold more at h
  have h' : crcL (cpl 0) (pre ++ [x0, x1, x2, x3] ++ post) = crcL (cpl 0) (pre ++ [y0, y1, y2, y3] ++ post) := by rw [← cpl_cpl (crcL (cpl 0) (pre ++ [x0, x1, x2, x3] ++ post)), h, cpl_cpl]
  rw [crcL_append, crcL_append, crcL_append, crcL_append] at h'
  generalize crcL (cpl 0) pre = s at h'
  have c0 : cb s y0.toNat = cb s x0.toNat ^^^ iter st 8 d0 := by have := cb_xor s 0 x0.toNat d0; rwa [Nat.xor_zero, Nat.zero_xor, ← e0] at this
  have c1 := cb_xor (cb s x0.toNat) (iter st 8 d0) x1.toNat d1
  have c2 := cb_xor (cb (cb s x0.toNat) x1.toNat) (iter st 8 (iter st 8 d0 ^^^ d1)) x2.toNat d2
  have c3 := cb_xor (cb (cb (cb s x0.toNat) x1.toNat) x2.toNat) (iter st 8 (iter st 8 (iter st 8 d0 ^^^ d1) ^^^ d2)) x3.toNat d3
  rw [← c0, ← e1] at c1
  rw [← c1, ← e2] at c2
  rw [← c2, ← e3] at c3
  rw [show crcL s [y0, y1, y2, y3] = cb (cb (cb (cb s y0.toNat) y1.toNat) y2.toNat) y3.toNat from rfl, c3, crcL_xor] at h'
  rw [show crcL s [x0, x1, x2, x3] = cb (cb (cb (cb s x0.toNat) x1.toNat) x2.toNat) x3.toNat from rfl] at h'
  generalize hE : iter st 8 (iter st 8 (iter st 8 (iter st 8 d0 ^^^ d1) ^^^ d2) ^^^ d3) = E at *
  have hz : iter st (8 * post.length) E = 0 := by
    generalize crcL (cb (cb (cb (cb s x0.toNat) x1.toNat) x2.toNat) x3.toNat) post = c at h'
    have h6 := xself c (iter st (8 * post.length) E)
    rw [← h', Nat.xor_self] at h6
    exact h6.symm
  have l3 : E < 4294967296 := by
    rw [← hE]
    exact iter_lt 8 (xlt (iter_lt 8 (xlt (iter_lt 8 (xlt (iter_lt 8 (by omega)) (by omega))) (by omega))) (by omega))
  have := iter_zero _ l3 hz
  exact hd (four_zero h0 h1 h2 h3 (hE.trans this))
end Go.Proofs.Ytpfmadinijofeaa
end
section
/- Images in slots (layer 6), as functions. No program in sight. -/
namespace Go.Proofs.Ytpfmadinijofeaa
open Go.RowKit
/-! Numbers in bytes, the highest first. -/
def beJ (n k j : Nat) : List UInt8 := (List.range j).map fun i => UInt8.ofNat (n / 2 ^ (8 * (k - 1 - i)) % 256)
def beB (n k : Nat) : List UInt8 := beJ n k k
theorem beJ_len (n k j : Nat) : (beJ n k j).length = j := by simp [beJ]
theorem beB_len (n k : Nat) : (beB n k).length = k := beJ_len n k k
theorem beJ_succ (n k j : Nat) : beJ n k (j + 1) = beJ n k j ++ [UInt8.ofNat (n / 2 ^ (8 * (k - 1 - j)) % 256)] := by
  unfold beJ
  rw [List.range_succ, List.map_append]
  rfl
theorem i64_or (a b : Nat) (ha : a < 9223372036854775808) (hb : b < 256) : bitsV .or .i64 (a : Int) (b : Int) = IntKind.i64.wrap ((a ||| b : Nat) : Int) := by
  show IntKind.i64.wrap (((BitVec.ofInt 64 (a : Int) ||| BitVec.ofInt 64 (b : Int)).toNat : Nat) : Int) = _
  rw [BitVec.toNat_or, ofInt_u64 a (by omega), ofInt_u64 b (by omega)]
theorem i64_and1 (x : Int) : bitsV .and .i64 x 1 = x % 2 := by
  show IntKind.i64.wrap (((BitVec.ofInt 64 x &&& BitVec.ofInt 64 ((1 : Nat) : Int)).toNat : Nat) : Int) = _
  rw [BitVec.toNat_and, ofInt_u64 1 (by omega), Nat.and_one_is_mod, wr64 (by omega) (by omega)]
  have : (BitVec.ofInt 64 x).toNat = (x % 18446744073709551616).toNat := by rw [BitVec.toNat_ofInt]; rfl
  rw [this]
  omega
theorem wrap64_rng (z : Int) : -9223372036854775808 ≤ IntKind.i64.wrap z ∧ IntKind.i64.wrap z ≤ 9223372036854775807 := by
  simp only [IntKind.wrap, IntKind.bits, IntKind.signed]
  by_cases hc : z % 2 ^ 64 ≥ 2 ^ (64 - 1)
  · simp only [hc, decide_true, Bool.and_true, if_true]; omega
  · simp only [hc, decide_false, Bool.and_false, if_false, Bool.false_eq_true]; omega
def stepI (a : Int) (b : Nat) : Int := bitsV .or .i64 (IntKind.i64.wrap (a * 2 ^ 8)) (IntKind.i64.wrap (b : Int))
theorem stepI_val (a b : Nat) (hb : b < 256) (h : a * 256 + b < 9223372036854775808) : stepI (a : Int) b = ((a * 256 + b : Nat) : Int) := by
  unfold stepI
  have h1 : a * 256 < 9223372036854775808 := Nat.lt_of_le_of_lt (Nat.le_add_right _ _) h
  have e8 : ((a : Int) * 2 ^ 8) = ((a * 256 : Nat) : Int) := by rw [show ((2 : Int) ^ 8) = 256 by decide +kernel, Int.natCast_mul]; rfl
  rw [e8, wr64 (by omega) (by omega), wr64 (by omega) (by omega), i64_or (a * 256) b h1 hb]
  rw [nat_join 8 (a * 256) b (by omega) (by omega), wr64 (by omega) (by omega)]
def foldI (a : Int) (bs : List UInt8) : Int := bs.foldl (fun a b => stepI a b.toNat) a
theorem foldI_snoc (a : Int) (bs : List UInt8) (b : UInt8) : foldI a (bs ++ [b]) = stepI (foldI a bs) b.toNat := by unfold foldI; rw [List.foldl_append]; rfl
theorem foldI_range : ∀ (bs : List UInt8), foldI 0 bs = 0 ∨ (-9223372036854775808 ≤ foldI 0 bs ∧ foldI 0 bs ≤ 9223372036854775807) := by
  intro bs
  rcases List.eq_nil_or_concat bs with rfl | ⟨l, b, rfl⟩
  · exact .inl rfl
  · right
    rw [List.concat_eq_append, foldI_snoc]
    unfold stepI
    exact wrap64_rng _
theorem foldI_rng (bs : List UInt8) : -9223372036854775808 ≤ foldI 0 bs ∧ foldI 0 bs ≤ 9223372036854775807 := by
  rcases foldI_range bs with h | h
  · rw [h]; omega
  · exact h
theorem ofNat_toNat {m : Nat} (h : m < 256) : (UInt8.ofNat m).toNat = m := by
  rw [UInt8.toNat_ofNat']
  omega
theorem pow8_succ (j : Nat) : 2 ^ (8 * (j + 1)) = 256 * 2 ^ (8 * j) := by
  rw [show 8 * (j + 1) = 8 + 8 * j by omega, Nat.pow_add]
theorem foldI_be {n k : Nat} (hn : n < 9223372036854775808) (hk : n < 2 ^ (8 * k)) : ∀ j, j ≤ k → foldI 0 (beJ n k j) = ((n / 2 ^ (8 * (k - j)) : Nat) : Int)
  | 0, _ => by
    rw [Nat.sub_zero, Nat.div_eq_of_lt hk]
    rfl
  | j + 1, hj => by
    rw [beJ_succ, foldI_snoc, foldI_be hn hk j (by omega)]
    have e1 : k - j = (k - (j + 1)) + 1 := by omega
    have e2 : k - 1 - j = k - (j + 1) := by omega
    rw [e1, e2, pow8_succ, ofNat_toNat (Nat.mod_lt _ (by omega))]
    generalize 2 ^ (8 * (k - (j + 1))) = p
    have e3 : n / (256 * p) = n / p / 256 := by rw [Nat.mul_comm, Nat.div_div_eq_div_mul]
    have h4 : n / p ≤ n := Nat.div_le_self _ _
    rw [e3, stepI_val _ _ (Nat.mod_lt _ (by omega)) (by omega)]
    congr 1
    omega
theorem foldI_beB {n : Nat} (hn : n < 9223372036854775808) : foldI 0 (beB n 8) = (n : Int) := by
  unfold beB
  rw [foldI_be hn (by omega) 8 (by omega)]
  simp
/-! A slot. -/
def zerosB (n : Nat) : List UInt8 := List.replicate n 0
def headH (gen len : Nat) : List UInt8 := beB gen 8 ++ beB len 8
theorem headH_len (gen len : Nat) : (headH gen len).length = 16 := by simp [headH, beB_len]
def headK (gen : Nat) (image : List UInt8) : List UInt8 := [3] ++ headH gen image.length ++ beB (more 0 (headH gen image.length ++ image)) 4 ++ zerosB 43
theorem headK_len (gen : Nat) (image : List UInt8) : (headK gen image).length = 64 := by simp [headK, headH_len, beB_len, zerosB]
theorem headK_eq (gen : Nat) (image : List UInt8) : ∃ r, headK gen image = 3 :: (beB gen 8 ++ (beB image.length 8 ++ r)) :=
  ⟨beB (more 0 (headH gen image.length ++ image)) 4 ++ zerosB 43, by
    unfold headK
    rw [List.append_assoc]
    generalize beB (more 0 (headH gen image.length ++ image)) 4 ++ zerosB 43 = r
    unfold headH
    simp⟩
theorem headK_gen (gen : Nat) (image : List UInt8) : ((headK gen image).drop 1).take 8 = beB gen 8 := by
  obtain ⟨r, e⟩ := headK_eq gen image
  rw [e, List.drop_succ_cons, List.drop_zero, List.take_append_of_le_length (by rw [beB_len]; omega), List.take_of_length_le (by rw [beB_len]; omega)]
theorem headK_num (gen : Nat) (image : List UInt8) : ((headK gen image).drop 9).take 8 = beB image.length 8 := by
  obtain ⟨r, e⟩ := headK_eq gen image
  rw [e, List.drop_succ_cons, List.drop_append_of_le_length (by rw [beB_len]; omega), List.drop_of_length_le (by rw [beB_len]; omega), List.nil_append, List.take_append_of_le_length (by rw [beB_len]; omega), List.take_of_length_le (by rw [beB_len]; omega)]
def bodyB (image : List UInt8) : List UInt8 := image ++ zerosB ((64 - image.length % 64) % 64)
theorem bodyB_len (image : List UInt8) : (bodyB image).length = (image.length + 63) / 64 * 64 := by
  simp only [bodyB, zerosB, List.length_append, List.length_replicate]
  omega
def roomZ (size : Int) : Int := if size < 1 ∨ size > 8192 then 0 else 64 * (size - 1)
/-- The image of a slot's bytes. -/
def slotG (b : List UInt8) (size slot : Int) : Option (Int × List UInt8) :=
  let gen := foldI 0 ((b.drop 1).take 8)
  let n := foldI 0 ((b.drop 9).take 8)
  if gen < 1 ∨ gen % 2 ≠ slot ∨ n < 0 ∨ n > roomZ size then none
  else if b.take 64 = headK gen.toNat ((b.drop 64).take n.toNat) then some (gen, (b.drop 64).take n.toNat) else none
/-- The generation that a head's sector says. -/
def hgen (h : List UInt8) : Int := foldI 0 ((h.drop 1).take 8)
theorem slotG_gen {b : List UInt8} {size slot g : Int} {im : List UInt8} (h : slotG b size slot = some (g, im)) : g = hgen (b.take 64) ∧ 1 ≤ g ∧ g % 2 = slot ∧ b.take 64 = headK g.toNat im := by
  unfold slotG at h
  simp only at h
  split at h
  · cases h
  · rename_i hc
    split at h
    · rename_i he
      injection h with h
      injection h with h1 h2
      subst h1
      subst h2
      refine ⟨?_, by omega, by omega, he⟩
      unfold hgen
      rw [List.drop_take, List.take_take]
      rfl
    · cases h
theorem slotG_none {b : List UInt8} {size slot : Int} (h : hgen (b.take 64) < 1) : slotG b size slot = none := by
  cases hs : slotG b size slot with
  | none => rfl
  | some x =>
    obtain ⟨g, im⟩ := x
    obtain ⟨h1, h2, _⟩ := slotG_gen hs
    omega
theorem hgen_head {gen : Nat} (h : gen < 9223372036854775808) (im : List UInt8) : hgen (headK gen im) = gen := by
  unfold hgen
  rw [headK_gen, foldI_beB h]
theorem slotG_head {gen size : Nat} {im b : List UInt8} (hg : 1 ≤ gen) (hg2 : gen < 9223372036854775808) (hs : 1 ≤ size) (hs2 : size ≤ 8192) (hl : im.length ≤ 64 * (size - 1)) (h1 : b.take 64 = headK gen im) (h2 : (b.drop 64).take im.length = im) :
    slotG b size ((gen : Int) % 2) = some ((gen : Int), im) := by
  have e1 : (b.drop 1).take 8 = beB gen 8 := by rw [← headK_gen gen im, ← h1, List.drop_take, List.take_take]; rfl
  have e2 : (b.drop 9).take 8 = beB im.length 8 := by rw [← headK_num gen im, ← h1, List.drop_take, List.take_take]; rfl
  unfold slotG
  simp only
  rw [e1, e2, foldI_beB hg2, foldI_beB (by omega), if_neg (by unfold roomZ; split <;> omega), Int.toNat_natCast, Int.toNat_natCast, h2, if_pos h1]
/-! Saving, loading. -/
def atE (S : DS) (first size : Int) : Int := if first < 0 ∨ size < 1 ∨ size > (S.n : Int) / 2 ∨ first > S.n - 2 * size then 1 else 0
def pwE (S : DS) (p : Int) (b : List UInt8) : Int := if b = [] then 0 else if writeE S p b ≠ 0 then writeE S p b else syncE (writeD S p b)
def pwD (S : DS) (p : Int) (b : List UInt8) : DS := if b = [] then S else if writeE S p b ≠ 0 then writeD S p b else syncD (writeD S p b)
theorem DWf.pw {S : DS} (h : DWf S) (p : Int) (b : List UInt8) : DWf (pwD S p b) := by
  unfold pwD
  split
  · exact h
  · split
    · exact h.write p b
    · exact (h.write p b).sync
def slotAt (first size gen : Int) : Int := first + gen % 2 * size
def saveE (S : DS) (first size gen : Int) (im : List UInt8) : Int :=
  if atE S first size ≠ 0 then 1 else if gen < 1 then 1 else if (im.length : Int) > roomZ size then 5
  else if pwE S (slotAt first size gen + 1) (bodyB im) ≠ 0 then pwE S (slotAt first size gen + 1) (bodyB im)
  else pwE (pwD S (slotAt first size gen + 1) (bodyB im)) (slotAt first size gen) (headK gen.toNat im)
def saveD (S : DS) (first size gen : Int) (im : List UInt8) : DS :=
  if atE S first size ≠ 0 then S else if gen < 1 then S else if (im.length : Int) > roomZ size then S
  else if pwE S (slotAt first size gen + 1) (bodyB im) ≠ 0 then pwD S (slotAt first size gen + 1) (bodyB im)
  else pwD (pwD S (slotAt first size gen + 1) (bodyB im)) (slotAt first size gen) (headK gen.toNat im)
theorem DWf.save {S : DS} (h : DWf S) (first size gen : Int) (im : List UInt8) : DWf (saveD S first size gen im) := by
  unfold saveD
  split
  · exact h
  · split
    · exact h
    · split
      · exact h
      · split
        · exact h.pw _ _
        · exact (h.pw _ _).pw _ _
def slotR (S : DS) (first size slot : Int) : Option (Int × List UInt8) := slotG (readL S (first + slot * size) size) size slot
def genO : Option (Int × List UInt8) → Int
  | none => 0
  | some x => x.1
def imO : Option (Int × List UInt8) → List UInt8
  | none => []
  | some x => x.2
theorem genO_pos {S : DS} {first size slot : Int} : 0 ≤ genO (slotR S first size slot) ∧ (slotR S first size slot = none ↔ genO (slotR S first size slot) = 0) := by
  cases h : slotR S first size slot with
  | none => exact ⟨Int.le_refl _, by simp [genO]⟩
  | some x =>
    obtain ⟨g, im⟩ := x
    have := (slotG_gen h).2.1
    exact ⟨by show 0 ≤ g; omega, by simp [genO]; omega⟩
/-- What the two slots tell. -/
def bestR (S : DS) (first size : Int) : Option (Int × List UInt8) := if genO (slotR S first size 1) > genO (slotR S first size 0) then slotR S first size 1 else slotR S first size 0
def loadE (S : DS) (first size : Int) : Int := if atE S first size ≠ 0 then 1 else if S.off = true then 12 else if bestR S first size = none then 7 else 0
def loadG (S : DS) (first size : Int) : Int := if atE S first size ≠ 0 ∨ S.off = true then 0 else genO (bestR S first size)
def loadI (S : DS) (first size : Int) : List UInt8 := if atE S first size ≠ 0 ∨ S.off = true then [] else imO (bestR S first size)
def gensE (S : DS) (first size : Int) : Int := if atE S first size ≠ 0 then 1 else if S.off = true then 12 else 0
def gensG (S : DS) (first size slot : Int) : Int := if atE S first size ≠ 0 ∨ S.off = true then 0 else genO (slotR S first size slot)
end Go.Proofs.Ytpfmadinijofeaa
end
section
/- What saving does to a disk, and a crash behind it. No program in sight. -/
namespace Go.Proofs.Ytpfmadinijofeaa
open Go.RowKit
/-! Sectors that are written. -/
theorem putK_now (S : DS) (k : Nat) (s : List UInt8) (i : Nat) : nowS (putK S k s) i = if i = k then s else nowS S i := by
  unfold nowS putK
  dsimp only
  by_cases h : i = k
  · rw [if_pos h, if_pos h]; rfl
  · rw [if_neg h, if_neg h]
theorem wrS_last (S : DS) (first : Nat) (f : Nat → List UInt8) : ∀ m, (wrS S first f m).last = S.last
  | 0 => rfl
  | m + 1 => by
    rw [wrS]
    split
    · exact wrS_last S first f m
    · exact wrS_last S first f m
/-- So many sectors came into the cache. -/
theorem wrS_cch (S : DS) (first : Nat) (f : Nat → List UInt8) : ∀ m, ∃ c, c ≤ m ∧ ((wrS S first f m).off = false → c = m) ∧ ∀ i, (wrS S first f m).cch i = if first ≤ i ∧ i < first + c then some (f (i - first)) else S.cch i
  | 0 => ⟨0, Nat.le_refl _, fun _ => rfl, fun i => by rw [if_neg (by omega)]; rfl⟩
  | m + 1 => by
    obtain ⟨c, h1, h2, h3⟩ := wrS_cch S first f m
    rw [wrS]
    by_cases ho : (wrS S first f m).off = true
    · rw [if_pos ho]
      exact ⟨c, by omega, (fun e => by rw [ho] at e; cases e), h3⟩
    · rw [if_neg ho]
      have hc : c = m := h2 (by cases hh : (wrS S first f m).off; rfl; exact absurd hh ho)
      subst hc
      refine ⟨c + 1, Nat.le_refl _, fun _ => rfl, fun i => ?_⟩
      show (if i = first + c then some (f c) else (wrS S first f c).cch i) = _
      rw [h3]
      by_cases e : i = first + c
      · rw [if_pos e, if_pos (by omega), e, Nat.add_sub_cancel_left]
      · rw [if_neg e]
        by_cases e2 : first ≤ i ∧ i < first + c
        · rw [if_pos e2, if_pos (by omega)]
        · rw [if_neg e2, if_neg (by omega)]
/-- All is at rest. -/
def Calm (S : DS) : Prop := ∀ i, S.cch i = none
theorem Calm.now {S : DS} (h : Calm S) (i : Nat) : nowS S i = S.last i := by unfold nowS; rw [h i]; rfl
theorem wrS_now (S : DS) (first : Nat) (f : Nat → List UInt8) (m : Nat) (ho : (wrS S first f m).off = false) (i : Nat) : nowS (wrS S first f m) i = if first ≤ i ∧ i < first + m then f (i - first) else nowS S i := by
  obtain ⟨c, h1, h2, h3⟩ := wrS_cch S first f m
  obtain rfl := h2 ho
  unfold nowS
  rw [h3, wrS_last]
  split <;> rfl
/-- A crash behind a write: a sector is as it was, or as it was written. -/
theorem crash_wr {S : DS} (hc : Calm S) (first : Nat) (f : Nat → List UInt8) (m : Nat) (kept : List Bool) (i : Nat) :
    (crashD (wrS S first f m) kept).last i = S.last i ∨ (first ≤ i ∧ i < first + m ∧ (crashD (wrS S first f m) kept).last i = f (i - first)) := by
  obtain ⟨c, h1, h2, h3⟩ := wrS_cch S first f m
  show (if dirtyS (wrS S first f m) i = true ∧ _ then nowS (wrS S first f m) i else (wrS S first f m).last i) = _ ∨ (_ ∧ _ ∧ (if dirtyS (wrS S first f m) i = true ∧ _ then nowS (wrS S first f m) i else (wrS S first f m).last i) = _)
  split
  · rename_i hd
    have hd := hd.1
    unfold dirtyS at hd
    rw [h3] at hd
    by_cases e : first ≤ i ∧ i < first + c
    · refine .inr ⟨e.1, by omega, ?_⟩
      unfold nowS
      rw [h3, if_pos e]
      rfl
    · rw [if_neg e, hc i] at hd
      cases hd
  · exact .inl (by rw [wrS_last])
theorem Calm.crash (S : DS) (kept : List Bool) : Calm (crashD S kept) := fun _ => rfl
theorem crash_calm {S : DS} (h : Calm S) (kept : List Bool) : (crashD S kept).last = S.last := by
  funext i
  show (if dirtyS S i = true ∧ _ then nowS S i else S.last i) = S.last i
  rw [if_neg]
  rintro ⟨hd, _⟩
  unfold dirtyS at hd
  rw [h i] at hd
  cases hd
/-! Writing and making it last. -/
/-- A write that falls into place, at rest again. -/
structure Laid (S T : DS) (p : Nat) (b : List UInt8) : Prop where
  n : T.n = S.n
  off : T.off = false
  calm : Calm T
  left0 : S.left ≤ 0 → T.left ≤ 0
  last : ∀ i, T.last i = if p ≤ i ∧ i < p + b.length / 64 then pieceB b (i - p) else S.last i
/-- A write that the power went off in. -/
structure Torn (S T : DS) (p : Nat) (b : List UInt8) : Prop where
  n : T.n = S.n
  off : T.off = true
  crash : ∀ kept i, (crashD T kept).last i = S.last i ∨ (p ≤ i ∧ i < p + b.length / 64 ∧ (crashD T kept).last i = pieceB b (i - p))
theorem wrS_left (S : DS) (first : Nat) (f : Nat → List UInt8) : ∀ m, S.left ≤ 0 → (wrS S first f m).left ≤ 0 ∧ (wrS S first f m).off = S.off
  | 0, h => ⟨h, rfl⟩
  | m + 1, h => by
    obtain ⟨h1, h2⟩ := wrS_left S first f m h
    rw [wrS]
    split
    · exact ⟨h1, h2⟩
    · refine ⟨?_, ?_⟩
      · show (if 0 < (wrS S first f m).left then _ else (wrS S first f m).left) ≤ 0
        rw [if_neg (by omega)]
        exact h1
      · show (if 0 < (wrS S first f m).left then _ else (wrS S first f m).off) = _
        rw [if_neg (by omega)]
        exact h2
theorem pw_cases {S : DS} (hc : Calm S) (ho : S.off = false) {p m : Nat} {b : List UInt8} (hb : b.length = m * 64) (hp : p + m ≤ S.n) :
    (pwE S (p : Int) b = 0 ∧ Laid S (pwD S (p : Int) b) p b) ∨ (pwE S (p : Int) b = 12 ∧ 0 < S.left ∧ Torn S (pwD S (p : Int) b) p b) := by
  unfold pwE pwD
  by_cases hn : b = []
  · rw [if_pos hn, if_pos hn]
    refine .inl ⟨rfl, rfl, ho, hc, fun h => h, fun i => ?_⟩
    rw [if_neg (by rw [hn]; simp)]
  rw [if_neg hn, if_neg hn]
  have hdm : b.length / 64 = m := by omega
  have hm : mayE S (p : Int) ((b.length / 64 : Nat) : Int) = 0 := by
    unfold mayE
    rw [ho, if_neg (by decide), if_pos (by omega)]
  have hD : writeD S (p : Int) b = wrS S p (pieceB b) m := by unfold writeD; rw [if_pos ⟨hm, by omega⟩, hdm, Int.toNat_natCast]
  have hE : writeE S (p : Int) b = if (wrS S p (pieceB b) m).off = true then 12 else 0 := by unfold writeE; rw [if_neg (not_not_intro hm), if_neg (by omega), hdm, Int.toNat_natCast]
  rw [hE, hD]
  by_cases hf : (wrS S p (pieceB b) m).off = true
  · rw [if_pos hf, if_pos (by decide), if_pos (by decide)]
    refine .inr ⟨rfl, ?_, wrS_n _ _ _ _, hf, fun kept i => ?_⟩
    · rcases Int.lt_or_le 0 S.left with h | h
      · exact h
      · have := (wrS_left S p (pieceB b) m h).2
        rw [hf, ho] at this; cases this
    · rw [hdm]
      exact crash_wr hc p (pieceB b) m kept i
  · have hf' : (wrS S p (pieceB b) m).off = false := by cases hh : (wrS S p (pieceB b) m).off; rfl; exact absurd hh hf
    rw [if_neg hf, if_neg (by decide), if_neg (by decide)]
    refine .inl ⟨by unfold syncE; rw [if_neg hf], ?_, ?_, ?_, ?_, ?_⟩
    all_goals unfold syncD; rw [if_neg hf]
    · exact wrS_n _ _ _ _
    · exact hf'
    · exact fun _ => rfl
    · exact fun h => (wrS_left S p (pieceB b) m h).1
    · intro i
      show nowS (wrS S p (pieceB b) m) i = _
      rw [wrS_now _ _ _ _ hf', hdm, hc.now]
/-! A slot's bytes. -/
theorem fm_congr {α β : Type} {f g : α → List β} {l : List α} (h : ∀ x, x ∈ l → f x = g x) : l.flatMap f = l.flatMap g := by
  rw [List.flatMap_def, List.flatMap_def, List.map_congr_left h]
theorem readS_cons (S : DS) (first n : Nat) : readS S first (n + 1) = nowS S first ++ readS S (first + 1) n := by
  unfold readS
  rw [List.range_succ_eq_map, List.flatMap_cons, List.flatMap_map]
  simp only [Nat.add_zero]
  congr 1
  exact fm_congr fun i _ => by rw [Nat.add_assoc, Nat.add_comm 1 i]
theorem readS_congr {S T : DS} {first n : Nat} (h : ∀ i, first ≤ i → i < first + n → nowS S i = nowS T i) : readS S first n = readS T first n := by
  unfold readS
  exact fm_congr fun i hi => h _ (Nat.le_add_right _ _) (by have := List.mem_range.1 hi; omega)
theorem readS_take {S : DS} (hW : DWf S) {first n : Nat} (hn : 0 < n) : (readS S first n).take 64 = nowS S first := by
  obtain ⟨n, rfl⟩ : ∃ k, n = k + 1 := ⟨n - 1, by omega⟩
  rw [readS_cons, List.take_append_of_le_length (by rw [hW.now]; omega), List.take_of_length_le (by rw [hW.now]; omega)]
theorem readS_drop {S : DS} (hW : DWf S) {first n : Nat} (hn : 0 < n) : (readS S first n).drop 64 = readS S (first + 1) (n - 1) := by
  obtain ⟨n, rfl⟩ : ∃ k, n = k + 1 := ⟨n - 1, by omega⟩
  rw [readS_cons, List.drop_append_of_le_length (by rw [hW.now]; omega), List.drop_of_length_le (by rw [hW.now]; omega)]
  rfl
/-- Sectors that hold the pieces of a text hold the text. -/
theorem readS_pieces {S : DS} {first : Nat} {b : List UInt8} : ∀ {m : Nat}, (∀ i, i < m → nowS S (first + i) = pieceB b i) → m * 64 ≤ b.length → readS S first m = b.take (m * 64)
  | 0, _, _ => by simp [readS]
  | m + 1, h, hl => by
    rw [readS_succ, readS_pieces (fun i hi => h i (by omega)) (by omega), h m (by omega)]
    unfold pieceB
    rw [show (m + 1) * 64 = m * 64 + 64 by omega, List.take_add]
theorem readS_add (S : DS) (first : Nat) : ∀ (m k : Nat), readS S first (m + k) = readS S first m ++ readS S (first + m) k
  | m, 0 => by simp [readS]
  | m, k + 1 => by rw [← Nat.add_assoc, readS_succ, readS_add S first m k, readS_succ, List.append_assoc, Nat.add_assoc]
/-- A slot whose sectors hold an image. -/
theorem slot_there {S : DS} (hW : DWf S) (ho : S.off = false) {q size gen : Nat} {im : List UInt8} (hg : 1 ≤ gen) (hg2 : gen < 9223372036854775808) (hs : 1 ≤ size) (hq : q + size ≤ S.n) (hl : im.length ≤ 64 * (size - 1))
    (h1 : nowS S q = headK gen im) (h2 : ∀ i, i < (im.length + 63) / 64 → nowS S (q + 1 + i) = pieceB (bodyB im) i) :
    slotG (readL S (q : Int) (size : Int)) size ((gen : Int) % 2) = some ((gen : Int), im) := by
  have hm : mayE S (q : Int) (size : Int) = 0 := by unfold mayE; rw [ho, if_neg (by decide), if_pos (by omega)]
  have hr : readL S (q : Int) (size : Int) = readS S q size := by unfold readL; rw [if_pos hm, Int.toNat_natCast, Int.toNat_natCast]
  rw [hr]
  refine slotG_head hg hg2 hs (by have := hW.n2; omega) hl (by rw [readS_take hW (by omega), h1]) ?_
  rw [readS_drop hW (by omega), show size - 1 = (im.length + 63) / 64 + (size - 1 - (im.length + 63) / 64) by omega, readS_add, readS_pieces h2 (by rw [bodyB_len]; omega)]
  rw [List.take_of_length_le (l := bodyB im) (by rw [bodyB_len]; omega)]
  unfold bodyB
  rw [List.append_assoc, List.take_append_of_le_length (by omega), List.take_of_length_le (by omega)]
end Go.Proofs.Ytpfmadinijofeaa
end
section
/- The bytes of numbers: the plain law. No program in sight. -/
namespace Go.Proofs.Ytpfmadinijofeaa
open Go.RowKit
/-- The groups of a number without a sign. -/
def grp (u : Nat) : List UInt8 := if u < 128 then [UInt8.ofNat u] else UInt8.ofNat (u % 128 + 128) :: grp (u / 128)
termination_by u
decreasing_by omega
theorem grp_lt {u : Nat} (h : u < 128) : grp u = [UInt8.ofNat u] := by rw [grp, if_pos h]
theorem grp_ge {u : Nat} (h : 128 ≤ u) : grp u = UInt8.ofNat (u % 128 + 128) :: grp (u / 128) := by rw [grp, if_neg (by omega)]
theorem grp_len (n : Nat) : ∀ u, u < 128 ^ (n + 1) → (grp u).length ≤ n + 1 := by
  induction n with
  | zero => intro u h; rw [grp_lt (by simpa using h)]; simp
  | succ n ih =>
    intro u h
    by_cases h1 : u < 128
    · rw [grp_lt h1]; simp
    · rw [grp_ge (by omega), List.length_cons]
      have := ih (u / 128) (by rw [Nat.div_lt_iff_lt_mul (by omega), ← Nat.pow_succ]; exact h)
      omega
theorem grp_len64 {u : Nat} (h : u < 18446744073709551616) : (grp u).length ≤ 10 := grp_len 9 u (by omega)
theorem grp_pos (u : Nat) : 0 < (grp u).length := by
  by_cases h : u < 128
  · rw [grp_lt h]; simp
  · rw [grp_ge (by omega)]; simp
/-- An int as a number without a sign: zigzag. -/
def zig (z : Int) : Nat := if 0 ≤ z then (2 * z).toNat else (2 * (-z) - 1).toNat
theorem zig_lt {z : Int} (h1 : -9223372036854775808 ≤ z) (h2 : z ≤ 9223372036854775807) : zig z < 18446744073709551616 := by unfold zig; split <;> omega
def uintB (z : Int) : List UInt8 := if z < 0 then [] else grp z.toNat
def intB (z : Int) : List UInt8 := grp (zig z)
def flagB (b : Bool) : List UInt8 := [if b then 1 else 0]
def textB (bs : List UInt8) : List UInt8 := grp bs.length ++ bs
end Go.Proofs.Ytpfmadinijofeaa
end
section
/- The writer of the codec, walked. -/
namespace Go.Proofs.Ytpfmadinijofeaa
open Go.RowKit
theorem Try.infoB : (Try.prog.info? 5).map (fun i => (i.zero, i.size, i.bytes)) = some (some (.int .u8 0), 1, 1) := by kernel_rfl
theorem wpList_appb {ops : Array Oper} {rest : List Oper} {o : Oper} {a : Act} {w : World} {Q : Exit → Act → World → Prop} (hgd : o.guard = none) (s xo : Operand)
    (hop : o.op = Op.call { callee := Callee.builtin Builtin.append, args := #[s, xo], argTypes := #[22, 22] })
    {base n : Nat} {v : Value} {xs : List Value} (hv : a.eval s = v) (ho : Own w base 5 1 v n xs) (x : Value) (hx : a.eval xo = x) (m : Nat) (news : List Value) (hs : Src Try.prog 1 22 x m news w)
    (hb : n + m ≤ 140737488355328) (hbase : base ≤ w.heap.size)
    (hK : ∀ v' w', Own w' base 5 1 v' (n + m) (xs ++ news) → w.grownBy w' v.ownBlock → (v'.ownBlock = v.ownBlock ∨ ∃ g, v'.ownBlock = some g ∧ w.heap.size ≤ g) → wpList Try.prog ops Q rest (a.put o.dst v') w') :
    wpList Try.prog ops Q (o :: rest) a w := by
  obtain ⟨i0, hi, hz0, hz1, hz2⟩ := info_parts Try.infoB
  exact wpList_app hgd s xo 22 22 hop i0 _ 1 Try.underlying22 hi hz0 hz1 hz2 rfl hv ho x hx m news hs (by unfold maxLen; omega) (by omega) hbase hK
theorem Src.builtB {W : World} (b : UInt8) : Src Try.prog 1 22 (.slice (some ⟨W.heap.size, 0, none⟩) 1 1) 1 [bV b] (W.alloc (.cells #[bV b] 5)) :=
  Src.ofRow Try.underlying22 (some ⟨W.heap.size, 0, none⟩) 1 [bV b] (RowAt.ofWhole (vs := [bV b]) (al_new rfl)) (by intro u hu; rw [List.mem_singleton] at hu; subst hu; rfl)
/-- A writer. -/
structure WAt (w : World) (L : List Nat) (g : Nat) (bs : List UInt8) (bad : Bool) : Prop where
  ex : ∃ v, Bk w g #[v, .bool bad] 139 ∧ Own w 0 5 1 v bs.length (bs.map bV) ∧ ∀ k, v.ownBlock = some k → k ∈ L
  mem : g ∈ L
  under : Under L w.heap.size
theorem WAt.keep {w w' : World} {L : List Nat} {g : Nat} {bs : List UInt8} {bad : Bool} (h : WAt w L g bs bad) (hk : ∀ k ∈ L, w'.heap[k]? = w.heap[k]?) (hs : w.heap.size ≤ w'.heap.size) : WAt w' L g bs bad := by
  obtain ⟨⟨v, h1, h2, h3⟩, h4, h5⟩ := h
  exact ⟨⟨v, h1.keep (hk g h4), h2.keep fun k hv => hk k (h3 k hv), h3⟩, h4, h5.mono hs⟩
theorem WAt.fr {w w' : World} {L M : List Nat} {g : Nat} {bs : List UInt8} {bad : Bool} (h : WAt w L g bs bad) (hf : Fr M w w') (ha : Apart L M) : WAt w' L g bs bad := h.keep (hf.keep ha h.under) hf.size
theorem WAt.make {w : World} {g : Nat} {v : Value} {bs : List UInt8} {bad : Bool} (h1 : Bk w g #[v, .bool bad] 139) (h2 : Own w 0 5 1 v bs.length (bs.map bV)) : WAt w (g :: v.ownBlock.toList) g bs bad :=
  ⟨⟨v, h1, h2, fun k hk => by simp [hk]⟩, by simp, fun k hk => by
    rcases List.mem_cons.1 hk with rfl | hk
    · exact h1.lt
    · exact (h2.lt k (by simpa using hk)).2⟩
theorem own_far {w : World} {g : Nat} {v : Value} {cs : Array Value} {n : Nat} {xs : List Value} {t : TypeId} (h1 : Bk w g cs t) (h2 : Own w 0 5 1 v n xs) (hne : t ≠ 5) : v.ownBlock ≠ some g := by
  intro h
  rcases h2.2 with ⟨rfl, _⟩ | ⟨g', off, cap, cur, rfl, hb, hg, _⟩
  · cases h
  · simp [Value.ownBlock] at h
    subst h
    unfold Bk at h1
    rw [h1] at hg
    injection hg with hg
    injection hg with h3 h4 h5
    exact hne h4
theorem u8_of (u : Nat) : IntKind.u8.wrap (u : Int) = ((u % 256 : Nat) : Int) := by rw [IntKind.wrap_u8]; omega
theorem bV_nat (n : Nat) (h : n < 256) : bV (UInt8.ofNat n) = .int .u8 (n : Int) := by
  unfold bV
  rw [show (UInt8.ofNat n).toNat = n % 256 from rfl, Nat.mod_eq_of_lt h]
theorem or128B : ((List.range 256).all fun x => bits BinOp.or IntKind.u8 (x : Int) 128 == ((x % 128 + 128 : Nat) : Int)) = true := by kernel_rfl
theorem or128 (x : Nat) : bits BinOp.or IntKind.u8 ((x : Int) % 256) 128 = ((x % 128 + 128 : Nat) : Int) := by
  have h := List.all_eq_true.1 or128B (x % 256) (List.mem_range.2 (by omega))
  have h2 := eq_of_beq h
  rw [show ((x % 256 : Nat) : Int) = (x : Int) % 256 by omega, show x % 256 % 128 = x % 128 by omega] at h2
  exact h2
/-- One append to a writer, and the store of the slice. -/
theorem w_step {wa w1 : World} {g n m : Nat} {v v1 : Value} {bad : Bool} {xs zs : List Value} (hB : Bk wa g #[v, .bool bad] 139) (hO : Own wa 0 5 1 v n xs) (hg : wa.grownBy w1 v.ownBlock) (ho1 : Own w1 0 5 1 v1 m zs) :
    Bk w1 g #[v, .bool bad] 139 ∧ Bk (w1.setCell ⟨g, 0, none⟩ v1) g #[v1, .bool bad] 139 ∧ Own (w1.setCell ⟨g, 0, none⟩ v1) 0 5 1 v1 m zs := by
  have hne : v.ownBlock ≠ some g := own_far hB hO (by decide)
  have b1 : Bk w1 g #[v, .bool bad] 139 := hB.keep (hg.block g hB.lt (fun e => hne e.symm))
  refine ⟨b1, b1.setCell 0 v1, ho1.keep fun k hk => Below.heap_setCell _ _ _ _ fun e => ?_⟩
  have e2 : k = g := e
  subst e2
  exact own_far b1 ho1 (by decide) hk
theorem own_gr {L : List Nat} {v v1 : Value} {n m : Nat} (hK : ∀ k, v.ownBlock = some k → k ∈ L ∨ n ≤ k) (hn1 : v1.ownBlock = v.ownBlock ∨ ∃ g, v1.ownBlock = some g ∧ m ≤ g) (hnm : n ≤ m) : ∀ k, v1.ownBlock = some k → k ∈ L ∨ n ≤ k := by
  intro k hk
  rcases hn1 with h | ⟨g, h, hg⟩
  · exact hK k (h ▸ hk)
  · rw [h] at hk; injection hk with hk; omega
theorem gr_make {L : List Nat} {v : Value} {n g : Nat} (hg : g ∈ L) (hK : ∀ k, v.ownBlock = some k → k ∈ L ∨ n ≤ k) : Gr L (g :: v.ownBlock.toList) n := by
  intro k hk
  rcases List.mem_cons.1 hk with rfl | hk
  · exact .inl hg
  · exact hK k (by simpa using hk)
set_option maxRecDepth 100000 in
set_option maxHeartbeats 2000000 in
theorem wput_any (g u : Nat) (hu : u < 18446744073709551616) (bs : List UInt8) (bad : Bool) (L : List Nat) (w : World) (h : WAt w L g bs bad) (hl : bs.length ≤ 100000000) :
    Calls Try.prog 93 #[.pointer (some ⟨g, 0, none⟩), .int .u64 u] w fun e w' => e = .returned (.tuple #[]) ∧ ∃ L', WAt w' L' g (bs ++ grp u) bad ∧ Fr L w w' ∧ Gr L L' w.heap.size := by
  obtain ⟨⟨v, h1, h2, h3⟩, h4, h5⟩ := h
  have H1 := Bx.mk h1; have H2 := Bx.mk h2; have H3 := Bx.mk h3; have H4 := Bx.mk h4; have HL := Bx.mk hl; have HU := Bx.mk hu
  have H10 := Bx.mk (grp_len64 hu)
  clear h1 h2 h3 h4 h5 hl hu
  go_enter Try.func93, Try.ntmps93
  go_wp2_with fail
  go_loopw [1,4,5,6,7,8,9,10,11,12,13,14,15,16,17,18,19] (fun t1 _ _ _ _ _ _ _ _ _ _ _ _ _ _ _ _ wr => ∃ (x : Nat) (v : Value) (ys : List UInt8), t1 = .int .u64 x ∧ x ≤ u ∧ Bx (ys ++ grp x = bs ++ grp u) ∧ Bk wr g #[v, .bool bad] 139 ∧ Own wr 0 5 1 v ys.length (ys.map bV) ∧ Bx (∀ k, v.ownBlock = some k → k ∈ L ∨ w.heap.size ≤ k) ∧ Fr L w wr) (fun t1 _ _ _ _ _ _ _ _ _ _ _ _ _ _ _ _ _ => (intOf t1).toNat)
  case atStart => exact ⟨u, v, bs, rfl, Nat.le_refl _, ⟨rfl⟩, H1.out, H2.out, ⟨fun k hk => .inl (H3.out k hk)⟩, Fr.refl _ _⟩
  case round =>
    obtain ⟨x, v, ys, rfl, hxu, hE, hB, hO, hK, hF⟩ := hrel
    have HB := Bx.mk hB; have HO := Bx.mk hO; have HF := Bx.mk hF
    have hlen : ys.length ≤ 100000010 := by
      have := congrArg List.length hE.out; rw [List.length_append, List.length_append] at this; have := HL.out; have := H10.out; omega
    have HLen := Bx.mk hlen
    have hXU := Bx.mk hxu
    have c0 : wr.cell? ⟨g, 0, none⟩ = some v := by rw [hB.cell]; rfl
    clear hB hO hF hlen hxu
    by_cases hge : (128 : Int) ≤ (x : Int)
    · have hG := grp_ge (u := x) (by omega)
      obtain ⟨y, hy⟩ : ∃ y, y = x % 128 + 128 := ⟨_, rfl⟩
      have f2 : bits BinOp.or IntKind.u8 ((x : Int) % 256) 128 = (y : Int) := by rw [or128, hy]
      have f3 : (x : Int) / 128 = ((x / 128 : Nat) : Int) := by omega
      have f4 : IntKind.u64.wrap ((x / 128 : Nat) : Int) = ((x / 128 : Nat) : Int) := by rw [IntKind.wrap_u64]; have := hXU.out; have := HU.out; omega
      rw [← hy] at hG
      have hyb := bV_nat y (by omega)
      have HY := Bx.mk hyb; have HG := Bx.mk hG
      have hdec : x / 128 < x := by omega
      have hdec2 : x / 128 ≤ u := by have := hXU.out; omega
      have HD := Bx.mk hdec; have HD2 := Bx.mk hdec2
      clear hy hyb hG hdec hdec2
      generalize x / 128 = x2 at *
      go_wp2_with (refine wpList_appb rfl (.tmp 10) (.tmp 14) rfl rfl (HO.out.alloc _) _ rfl 1 [bV (UInt8.ofNat y)] (by rw [← HY.out]; exact Src.builtB (UInt8.ofNat y)) (by have := HLen.out; omega) (by omega) ?_)
      intro v1 w1 ho1 hg1 hn1
      obtain ⟨a1, cp1, rfl⟩ := ho1.isSlice
      obtain ⟨b1, b2, b3⟩ := w_step (HB.out.alloc _) (HO.out.alloc _) hg1 ho1
      have hK2 := own_gr hK.out hn1 (show w.heap.size ≤ wr.heap.size + 1 by have := HF.out.size; omega)
      have hF2 := ((HF.out.alloc (.cells #[.int .u8 (y : Int)] 5)).grown hg1 hK.out).setCell (p := ⟨g, 0, none⟩) (.inl H4.out) (.slice a1 (ys.length + 1) cp1)
      have c1 : w1.frozen? ⟨g, 0, none⟩ = false := b1.frozen 0
      have c2 : w1.cell? ⟨g, 0, none⟩ = some v := by rw [b1.cell]; rfl
      have B2 := Bx.mk b2; have B3 := Bx.mk b3; have K2 := Bx.mk hK2; have F2 := Bx.mk hF2
      clear b1 b2 b3 hK2 hF2 ho1 hg1 hn1
      go_wp2
      go_roundw
      case rel => exact ⟨x2, _, ys ++ [UInt8.ofNat y], rfl, HD2.out, ⟨by rw [← hE.out, HG.out, List.append_assoc]; rfl⟩, B2.out, by rw [List.length_append, List.map_append]; exact B3.out, K2, F2.out⟩
      case measure => have := HD.out; simp [intOf]; omega
    · have hG := grp_lt (u := x) (by omega)
      have hyb := bV_nat x (by omega)
      have HY := Bx.mk hyb; have HG := Bx.mk hG
      have f1 : (x : Int) % 256 = (x : Int) := by omega
      clear hyb hG
      go_wp2_with (refine wpList_appb rfl (.tmp 24) (.tmp 27) rfl rfl (HO.out.alloc _) _ rfl 1 [bV (UInt8.ofNat x)] (by rw [← HY.out]; exact Src.builtB (UInt8.ofNat x)) (by have := HLen.out; omega) (by omega) ?_)
      intro v1 w1 ho1 hg1 hn1
      obtain ⟨a1, cp1, rfl⟩ := ho1.isSlice
      obtain ⟨b1, b2, b3⟩ := w_step (HB.out.alloc _) (HO.out.alloc _) hg1 ho1
      have hK2 := own_gr hK.out hn1 (show w.heap.size ≤ wr.heap.size + 1 by have := HF.out.size; omega)
      have hF2 := ((HF.out.alloc (.cells #[.int .u8 (x : Int)] 5)).grown hg1 hK.out).setCell (p := ⟨g, 0, none⟩) (.inl H4.out) (.slice a1 (ys.length + 1) cp1)
      have c1 : w1.frozen? ⟨g, 0, none⟩ = false := b1.frozen 0
      have c2 : w1.cell? ⟨g, 0, none⟩ = some v := by rw [b1.cell]; rfl
      have B2 := Bx.mk b2; have B3 := Bx.mk b3; have K2 := Bx.mk hK2; have F2 := Bx.mk hF2
      clear b1 b2 b3 hK2 hF2 ho1 hg1 hn1
      go_wp2
      go_end0
      refine ⟨rfl, _, ?_, F2.out, gr_make H4.out K2.out⟩
      rw [← hE.out, HG.out]
      exact WAt.make B2.out (by rw [List.length_append, List.map_append]; exact B3.out)
end Go.Proofs.Ytpfmadinijofeaa
end
section
/- The rest of the codec's writer, walked. -/
namespace Go.Proofs.Ytpfmadinijofeaa
open Go.RowKit
def W1 (w : World) (L : List Nat) (g : Nat) (bs : List UInt8) (bad : Bool) (e : Ending) (w' : World) : Prop :=
  e = .returned (.tuple #[]) ∧ ∃ L', WAt w' L' g bs bad ∧ Fr L w w' ∧ Gr L L' w.heap.size
theorem WAt.setBad {w : World} {L : List Nat} {g : Nat} {bs : List UInt8} {bad : Bool} (h : WAt w L g bs bad) : WAt (w.setCell ⟨g, 1, none⟩ (.bool true)) L g bs true := by
  obtain ⟨⟨v, h1, h2, h3⟩, h4, h5⟩ := h
  refine ⟨⟨v, h1.setCell 1 (.bool true), h2.keep fun k hk => Below.heap_setCell _ _ _ _ fun e => ?_, h3⟩, h4, by simpa [Under] using h5⟩
  have e2 : k = g := e
  subst e2
  exact own_far h1 h2 (by decide) hk
theorem zig_xor_pos (n : Nat) (h : n < 9223372036854775808) : zig (n : Int) = 2 * n := by unfold zig; rw [if_pos (by omega)]; omega
theorem xor_zero (a : Nat) (h : a < 18446744073709551616) : bits BinOp.xor IntKind.u64 (a : Int) 0 = (a : Int) := by
  have := bits_xor_u64_nat a 0 h (by omega)
  simpa using this
theorem nat_xor_ones (a : Nat) (h : a < 2 ^ 64) : a ^^^ (2 ^ 64 - 1) = 2 ^ 64 - 1 - a := by
  apply Nat.eq_of_testBit_eq
  intro i
  rw [Nat.testBit_xor, Nat.testBit_two_pow_sub_one, show 2 ^ 64 - 1 - a = 2 ^ 64 - (a + 1) by omega, Nat.testBit_two_pow_sub_succ h]
  by_cases hi : i < 64
  · simp [hi]
  · simp [hi]
    exact Nat.testBit_lt_two_pow (Nat.lt_of_lt_of_le h (Nat.pow_le_pow_right (by omega) (by omega)))
theorem xor_ones (a : Nat) (h : a < 18446744073709551616) : bits BinOp.xor IntKind.u64 (a : Int) 18446744073709551615 = ((18446744073709551615 - a : Nat) : Int) := by
  have h1 := bits_xor_u64_nat a 18446744073709551615 h (by omega)
  have h2 := nat_xor_ones a h
  rw [show (2 : Nat) ^ 64 - 1 = 18446744073709551615 from rfl] at h2
  rw [h2] at h1
  exact h1
/-- The bytes of a slice, in blocks of M. -/
def In (w : World) (M : List Nat) (a : Option Addr) (bs : List UInt8) : Prop := RowAt w a (bs.map bV) ∧ ∀ ad, a = some ad → bs ≠ [] → ad.block ∈ M
theorem In.keep {w w' : World} {M : List Nat} {a : Option Addr} {bs : List UInt8} (h : In w M a bs) (hk : ∀ k ∈ M, w'.heap[k]? = w.heap[k]?) : In w' M a bs := by
  refine ⟨?_, h.2⟩
  rcases h.1 with h1 | ⟨b, off, rfl, h1⟩
  · exact .inl h1
  · by_cases hb : bs = []
    · exact .inl (by rw [hb]; rfl)
    · refine .inr ⟨b, off, rfl, fun i v hv => ?_⟩
      rw [← h1 i v hv]
      exact World.cell?_of_block (a := ⟨b, off + i, none⟩) (hk b (h.2 _ rfl hb))
theorem In.nil (w : World) (M : List Nat) : In w M none [] := ⟨.inl rfl, fun _ h => by cases h⟩
theorem In.src {w : World} {M : List Nat} {a : Option Addr} {bs : List UInt8} (h : In w M a bs) (c : Nat) : Src Try.prog 1 22 (.slice a bs.length c) bs.length (bs.map bV) w := by
  have := Src.ofRow (P := Try.prog) (tx := 22) (w := w) Try.underlying22 a c (bs.map bV) h.1 one_bV
  rwa [List.length_map] at this
set_option maxRecDepth 100000 in
set_option maxHeartbeats 2000000 in
theorem wText_any (g : Nat) (a : Option Addr) (c : Nat) (ts : List UInt8) (M : List Nat) (bs : List UInt8) (bad : Bool) (L : List Nat) (w : World) (h : WAt w L g bs bad) (ht : In w M a ts) (hM : Under M w.heap.size) (hap : Apart M L) (hl : bs.length ≤ 10000000) (htl : ts.length ≤ 10000000) :
    Calls Try.prog 80 #[.pointer (some ⟨g, 0, none⟩), .slice a ts.length c] w (W1 w L g (bs ++ textB ts) bad) := by
  have f1 : IntKind.u64.wrap (ts.length : Int) = (ts.length : Int) := by rw [IntKind.wrap_u64]; omega
  have HC := fun w h => Bx.mk (wput_any g ts.length (by omega) bs bad L w h (by omega))
  have HW := Bx.mk h; have HT := Bx.mk ht; have HM := Bx.mk hM; have HAP := Bx.mk hap; have HL := Bx.mk hl; have HTL := Bx.mk htl
  have H10 := Bx.mk (grp_len64 (u := ts.length) (by omega))
  clear h ht hM hap hl htl
  go_enter Try.func80, Try.ntmps80
  go_wp2_with fail
  refine (HC _ HW.out).out.mono ?_
  rintro e w' ⟨rfl, L1, hW1, hF1, hG1⟩
  have HT1 := Bx.mk (HT.out.keep (hF1.keep HAP.out HM.out))
  have HF1 := Bx.mk hF1; have HG1 := Bx.mk hG1
  obtain ⟨⟨v, h1, h2, h3⟩, h4, h5⟩ := hW1
  have H1 := Bx.mk h1; have H2 := Bx.mk h2; have H3 := Bx.mk h3; have H4 := Bx.mk h4; have H5 := Bx.mk h5
  have c0 : w'.cell? ⟨g, 0, none⟩ = some v := by rw [h1.cell]; rfl
  clear h1 h2 h3 h4 h5 hF1 hG1 HC
  go_wp2_with (refine wpList_appb rfl (.tmp 15) (.tmp 16) rfl rfl H2.out _ rfl ts.length (ts.map bV) (HT1.out.src c) (by have := HL.out; have := HTL.out; have := H10.out; simp only [List.length_append]; omega) (by omega) ?_)
  intro v1 w1 ho1 hg1 hn1
  obtain ⟨a1, cp1, rfl⟩ := ho1.isSlice
  obtain ⟨b1, b2, b3⟩ := w_step H1.out H2.out hg1 ho1
  have hK2 := own_gr (fun k hk => Or.inl (H3.out k hk)) hn1 (Nat.le_refl w'.heap.size)
  have hF2 := ((Fr.refl L1 w').grown hg1 (fun k hk => Or.inl (H3.out k hk))).setCell (p := ⟨g, 0, none⟩) (.inl H4.out) (.slice a1 (bs.length + (grp ts.length).length + ts.length) cp1)
  have e1 : w1.frozen? ⟨g, 0, none⟩ = false := b1.frozen 0
  have e2 : w1.cell? ⟨g, 0, none⟩ = some v := by rw [b1.cell]; rfl
  have B2 := Bx.mk b2; have B3 := Bx.mk b3; have K2 := Bx.mk hK2; have F2 := Bx.mk hF2
  clear b1 b2 b3 hK2 hF2 ho1 hg1 hn1
  go_wp2
  go_end0
  refine ⟨rfl, _, ?_, HF1.out.trans F2.out HG1.out, HG1.out.trans (gr_make H4.out K2.out) HF1.out.size⟩
  unfold textB
  rw [← List.append_assoc]
  exact WAt.make B2.out (by rw [List.length_append, List.length_append, List.map_append (l₂ := ts), List.map_append]; have := B3.out; rw [List.append_assoc]; exact this)
theorem In.ofOwn {w : World} {b : Nat} {a : Option Addr} {c : Nat} {xs : List UInt8} (h : Own w b 5 1 (.slice a xs.length c) xs.length (xs.map bV)) : In w (Value.ownBlock (.slice a xs.length c)).toList a xs := by
  refine ⟨h.row, fun ad had hne => ?_⟩
  rcases h.2 with ⟨he, h0⟩ | ⟨g, off, cap, cur, he, _⟩
  · exact absurd (List.eq_nil_of_length_eq_zero h0) hne
  · injection he with h1 h2 h3
    subst h1
    injection had with had
    subst had
    simp [Value.ownBlock]
end Go.Proofs.Ytpfmadinijofeaa
end
section
/- bytes.Clone, Bytes; the reference's bytes of numbers, walked. -/
namespace Go.Proofs.Ytpfmadinijofeaa
open Go.RowKit
set_option maxRecDepth 100000 in
set_option maxHeartbeats 2000000 in
theorem bClone_any (a : Option Addr) (c : Nat) (bs : List UInt8) (w : World) (h : RowAt w a (bs.map bV)) (hl : bs.length ≤ 100000000) :
    Calls Try.prog 94 #[.slice a bs.length c] w fun e w' => ∃ v, e = .returned v ∧ Own w' w.heap.size 5 1 v bs.length (bs.map bV) ∧ Below w.heap.size w w' := by
  have H := Bx.mk h; have HL := Bx.mk hl
  clear h hl
  cases a with
  | none =>
    have hb : bs = [] := by
      rcases H.out with h | ⟨b, off, h, _⟩
      · simpa using h
      · cases h
    subst hb
    have hnil := fun w => Lib.run_eql_slice_nil (P := Try.prog) w 22 5 none 0 c 0 0 Try.underlying22
    show Calls Try.prog 94 #[.slice none 0 c] w _
    go_enter Try.func94, Try.ntmps94
    go_wp2
    go_ret
    exact ⟨_, rfl, Own.nil _ _ _ _, Below.refl _ _⟩
  | some ad =>
    have hnil := fun w => Lib.run_eql_slice_nil (P := Try.prog) w 22 5 (some ad) bs.length c 0 0 Try.underlying22
    have hnn : (some ad).isNone = false := rfl
    go_enter Try.func94, Try.ntmps94
    go_wp2_with (refine wpList_appb rfl (.tmp 5) (.tmp 6) rfl rfl (Own.fresh0 (w := w) (Nat.le_refl _)) _ rfl bs.length (bs.map bV) ?hs ?hb ?hbase ?_)
    case hs =>
      have := Src.ofRow (P := Try.prog) (tx := 22) Try.underlying22 (some ad) c (bs.map bV) (H.out.alloc (.cells #[] 5)) one_bV
      rwa [List.length_map] at this
    case hb => have := HL.out; omega
    case hbase => simp
    intro v1 w1 ho1 hg1 hn1
    obtain ⟨a1, cp1, rfl⟩ := ho1.isSlice
    have hb := (Below_one (w := w) (.cells #[] 5)).grown hg1 (by simp) (fun g hg => by have h3 : w.heap.size = g := Option.some.inj hg; omega)
    have HB := Bx.mk hb; have HO := Bx.mk ho1
    clear hb ho1 hg1 hn1
    go_wp2
    go_ret
    exact ⟨_, rfl, HO.out, HB.out⟩
/-- What 'Bytes' tells of a writer. -/
def wErr (bad : Bool) : Int := if bad then 1 else 0
set_option maxRecDepth 100000 in
set_option maxHeartbeats 2000000 in
theorem wBytes_any (g : Nat) (bs : List UInt8) (bad : Bool) (L : List Nat) (w : World) (h : WAt w L g bs bad) (hl : bs.length ≤ 100000000) :
    Calls Try.prog 81 #[.pointer (some ⟨g, 0, none⟩)] w fun e w' => ∃ v, e = .returned (.tuple #[v, .int .i64 (wErr bad)]) ∧ Own w' w.heap.size 5 1 v bs.length (bs.map bV) ∧ Below w.heap.size w w' := by
  obtain ⟨⟨v, h1, h2, h3⟩, h4, h5⟩ := h
  obtain ⟨a, c, rfl⟩ := h2.isSlice
  have HR := Bx.mk h2.row
  have c0 : w.cell? ⟨g, 0, none⟩ = some (.slice a bs.length c) := by rw [h1.cell]; rfl
  have c1 : w.cell? ⟨g, 1, none⟩ = some (.bool bad) := by rw [h1.cell]; rfl
  have HL := Bx.mk hl
  clear h1 h2 h3 h4 h5 hl
  cases bad with
  | true =>
    go_enter Try.func81, Try.ntmps81
    go_wp2_with fail
    refine (bClone_any a c bs w HR.out HL.out).mono ?_
    rintro e w' ⟨v, rfl, ho, hb⟩
    have HO := Bx.mk ho; have HB := Bx.mk hb
    clear ho hb
    go_wp2
    go_ret2
    exact ⟨_, rfl, HO.out, HB.out⟩
  | false =>
    go_enter Try.func81, Try.ntmps81
    go_wp2_with fail
    refine (bClone_any a c bs w HR.out HL.out).mono ?_
    rintro e w' ⟨v, rfl, ho, hb⟩
    have HO := Bx.mk ho; have HB := Bx.mk hb
    clear ho hb
    go_wp2
    go_ret2
    exact ⟨_, rfl, HO.out, HB.out⟩
theorem wBytes_nil (w : World) : Calls Try.prog 81 #[.pointer none] w fun e w' => e = .returned (.tuple #[.slice none 0 0, .int .i64 1]) ∧ w' = w := by
  go_enter Try.func81, Try.ntmps81
  go_wp2
  go_ret2
  exact ⟨rfl, rfl⟩
theorem wText_nil (v : Value) (n c : Nat) (hv : v = .slice none n c) (w : World) : Calls Try.prog 80 #[.pointer none, v] w fun e w' => e = .returned (.tuple #[]) ∧ w' = w := by
  subst hv
  go_enter Try.func80, Try.ntmps80
  go_wp2
  go_end0
  exact ⟨rfl, rfl⟩
theorem strOf_app (a b : List UInt8) : strOf a ++ strOf b = strOf (a ++ b) := by
  apply ByteArray.ext
  rw [ByteArray.data_append]
  simp [strOf]
theorem add_str {P : Program} (W : World) (xs ys : List UInt8) (h : xs.length + ys.length ≤ 9000000000000000000) : (Op.stringOp .add (strOf xs) (strOf ys)).run P W = .ok (.string (strOf (xs ++ ys))) W := by
  rw [run_string_add_sum W _ _ (by rw [strOf_size, strOf_size]; omega), strOf_app]
set_option maxRecDepth 100000 in
set_option maxHeartbeats 2000000 in
theorem fOne_any (n : Nat) (h : n < 256) (w : World) : Calls Try.prog 83 #[.int .i64 n] w fun e w' => e = .returned (.string (strOf [UInt8.ofNat n])) ∧ Below w.heap.size w w' := by
  have hb := bV_nat n h
  have hc : ∀ w : World, (convert 22 9 (.slice (some ⟨w.heap.size, 0, none⟩) 1 1)).run Try.prog (w.alloc (.cells #[.int .u8 (n : Int)] 5)) = .ok (.string (strOf [UInt8.ofNat n])) (w.alloc (.cells #[.int .u8 (n : Int)] 5)) := fun w => by
    rw [← hb]
    exact conv_str 22 9 Try.underlying22 Try.underlying5 Try.underlying9 _ (some ⟨w.heap.size, 0, none⟩) 1 [UInt8.ofNat n] (RowAt.ofWhole (vs := [bV (UInt8.ofNat n)]) (al_new rfl))
  clear hb
  go_enter Try.func83, Try.ntmps83
  go_wp2
  go_ret
  exact ⟨rfl, Below_one _⟩
set_option maxRecDepth 100000 in
set_option maxHeartbeats 2000000 in
theorem fgroups_any (u : Nat) (hu : u < 18446744073709551616) (w : World) : Calls Try.prog 98 #[.int .u64 u] w fun e w' => e = .returned (.string (strOf (grp u))) ∧ Below w.heap.size w w' := by
  have HU := Bx.mk hu
  have H10 := Bx.mk (grp_len64 hu)
  clear hu
  go_enter Try.func98, Try.ntmps98
  go_wp2_with fail
  go_loopw [0,3,4,5,6,7,8,9,10,11,12,13,14] (fun t0 t3 _ _ _ _ _ _ _ _ _ _ _ wr => ∃ (x : Nat) (ys : List UInt8), t0 = .int .u64 x ∧ t3 = .string (strOf ys) ∧ x ≤ u ∧ Bx (ys ++ grp x = grp u) ∧ Bx (Below w.heap.size w wr)) (fun t0 _ _ _ _ _ _ _ _ _ _ _ _ _ => (intOf t0).toNat)
  case atStart => exact ⟨u, [], rfl, rfl, Nat.le_refl _, ⟨rfl⟩, ⟨Below.refl _ _⟩⟩
  case round =>
    obtain ⟨x, ys, rfl, rfl, hxu, hE, hB⟩ := hrel
    have hXU := Bx.mk hxu
    have hlen : ys.length ≤ 10 := by
      have := congrArg List.length hE.out; rw [List.length_append] at this; have := H10.out; omega
    have HLen := Bx.mk hlen
    clear hlen hxu
    by_cases hge : (127 : Int) < (x : Int)
    · have hG := grp_ge (u := x) (by omega)
      obtain ⟨y, hy⟩ : ∃ y, y = x % 128 + 128 := ⟨_, rfl⟩
      have f1 : (x : Int) % 128 + 128 = (y : Int) := by omega
      have f3 : (x : Int) / 128 = ((x / 128 : Nat) : Int) := by omega
      rw [← hy] at hG
      have HC := fun w => Bx.mk (fOne_any y (by omega) w)
      have HG := Bx.mk hG
      have hdec : x / 128 < x := by omega
      have hdec2 : x / 128 ≤ u := by have := hXU.out; omega
      have HD := Bx.mk hdec; have HD2 := Bx.mk hdec2
      clear hy hG hdec hdec2
      generalize x / 128 = x2 at *
      have f5 : wrap64 ((x : Int) % 128) = (x : Int) % 128 := by unfold wrap64; omega
      have f6 : IntKind.u64.wrap (x2 : Int) = (x2 : Int) := by rw [IntKind.wrap_u64]; have := HD2.out; have := HU.out; omega
      go_wp2_with fail
      refine (HC _).out.mono ?_
      rintro e w' ⟨rfl, hb⟩
      have HB2 := Bx.mk (hB.out.trans (hb.mono hB.out.size))
      clear hb
      have hap := fun W => add_str (P := Try.prog) W ys [UInt8.ofNat y] (by have := HLen.out; simp; omega)
      go_wp2
      go_roundw
      case rel => exact ⟨x2, ys ++ [UInt8.ofNat y], rfl, rfl, HD2.out, ⟨by rw [← hE.out, HG.out, List.append_assoc]; rfl⟩, HB2⟩
      case measure => have := HD.out; simp [intOf]; omega
    · have hG := grp_lt (u := x) (by omega)
      have HC := fun w => Bx.mk (fOne_any x (by omega) w)
      have HG := Bx.mk hG
      have f5 : wrap64 (x : Int) = (x : Int) := by unfold wrap64; omega
      clear hG
      go_wp2_with fail
      refine (HC _).out.mono ?_
      rintro e w' ⟨rfl, hb⟩
      have HB2 := Bx.mk (hB.out.trans (hb.mono hB.out.size))
      clear hb
      have hap := fun W => add_str (P := Try.prog) W ys [UInt8.ofNat x] (by have := HLen.out; simp; omega)
      go_wp2
      go_ret
      exact ⟨by rw [← hE.out, HG.out]; rfl, HB2.out⟩
theorem fUint_any (z : Int) (h2 : z ≤ 9223372036854775807) (w : World) : Calls Try.prog 87 #[.int .i64 z] w fun e w' => e = .returned (.string (strOf (uintB z))) ∧ Below w.heap.size w w' := by
  by_cases h0 : z < 0
  · rw [show uintB z = [] by unfold uintB; rw [if_pos h0]]
    clear h2
    go_enter Try.func87, Try.ntmps87
    go_wp2
    go_ret
    exact ⟨rfl, Below.refl _ _⟩
  · obtain ⟨n, rfl⟩ := Int.eq_ofNat_of_zero_le (show 0 ≤ z by omega)
    rw [show uintB (n : Int) = grp n by unfold uintB; rw [if_neg h0]; rfl]
    have f1 : IntKind.u64.wrap (n : Int) = (n : Int) := by rw [IntKind.wrap_u64]; omega
    have HC := fun w => Bx.mk (fgroups_any n (by omega) w)
    clear h2
    go_enter Try.func87, Try.ntmps87
    go_wp2_with fail
    refine (HC _).out.mono ?_
    rintro e w' ⟨rfl, hb⟩
    have HB := Bx.mk hb; clear hb
    go_wp2
    go_ret
    exact ⟨rfl, HB.out⟩
theorem fText_any (bs : List UInt8) (hl : bs.length ≤ 100000000) (w : World) : Calls Try.prog 70 #[.string (strOf bs)] w fun e w' => e = .returned (.string (strOf (textB bs))) ∧ Below w.heap.size w w' := by
  have hs := strOf_size bs
  have HC := fun w => Bx.mk (fUint_any bs.length (by omega) w)
  have hu : uintB (bs.length : Int) = grp bs.length := by unfold uintB; rw [if_neg (by omega)]; rfl
  rw [hu] at HC
  have hap := fun W => add_str (P := Try.prog) W (grp bs.length) bs (by have := grp_len64 (u := bs.length) (by omega); omega)
  clear hu hl
  go_enter Try.func70, Try.ntmps70
  go_wp2_with fail
  refine (HC _).out.mono ?_
  rintro e w' ⟨rfl, hb⟩
  have HB := Bx.mk hb; clear hb
  go_wp2
  go_ret
  exact ⟨rfl, HB.out⟩
end Go.Proofs.Ytpfmadinijofeaa
end
section
/- Numbers read from bytes: the plain law. No program in sight. -/
namespace Go.Proofs.Ytpfmadinijofeaa
open Go.RowKit
/-- The next number: it, how many bytes it has, and what is wrong (3: it ends too soon; 2: not in form). -/
def tk (most : Nat) : Nat → Nat → List UInt8 → Nat × Nat × Int
  | _, _, [] => (0, 0, 3)
  | i, u, x :: r => if i = most ∨ (x.toNat = 0 ∧ 0 < i) ∨ (i = 9 ∧ 1 < x.toNat) then (0, 0, 2) else
    if 128 ≤ x.toNat then tk most (i + 1) (u + x.toNat % 128 * 128 ^ i) r else (u + x.toNat % 128 * 128 ^ i, i + 1, 0)
theorem tk_nil (most i u : Nat) : tk most i u [] = (0, 0, 3) := rfl
theorem tk_bad {most i u : Nat} {x : UInt8} {r : List UInt8} (h : i = most ∨ (x.toNat = 0 ∧ 0 < i) ∨ (i = 9 ∧ 1 < x.toNat)) : tk most i u (x :: r) = (0, 0, 2) := by unfold tk; rw [if_pos h]
theorem tk_more {most i u : Nat} {x : UInt8} {r : List UInt8} (h : ¬ (i = most ∨ (x.toNat = 0 ∧ 0 < i) ∨ (i = 9 ∧ 1 < x.toNat))) (h2 : 128 ≤ x.toNat) : tk most i u (x :: r) = tk most (i + 1) (u + x.toNat % 128 * 128 ^ i) r := by
  rw [tk, if_neg h, if_pos h2]
theorem tk_last {most i u : Nat} {x : UInt8} {r : List UInt8} (h : ¬ (i = most ∨ (x.toNat = 0 ∧ 0 < i) ∨ (i = 9 ∧ 1 < x.toNat))) (h2 : ¬ 128 ≤ x.toNat) : tk most i u (x :: r) = (u + x.toNat % 128 * 128 ^ i, i + 1, 0) := by
  rw [tk, if_neg h, if_neg h2]
theorem u8_eq {x : UInt8} {n : Nat} (h : x.toNat = n) (hn : n < 256) : UInt8.ofNat n = x := by
  subst h; simp
/-- What is read has just its bytes. -/
theorem tk_enc (most : Nat) : ∀ (bs : List UInt8) (i a u n : Nat), tk most i a bs = (u, n, 0) → ∃ v, u = a + v * 128 ^ i ∧ (0 < i → v ≠ 0) ∧ i < n ∧ n ≤ i + bs.length ∧ bs.take (n - i) = grp v := by
  intro bs
  induction bs with
  | nil => intro i a u n h; rw [tk_nil] at h; injection h with _ h; injection h with _ h; cases h
  | cons x r ih =>
    intro i a u n h
    by_cases hb : i = most ∨ (x.toNat = 0 ∧ 0 < i) ∨ (i = 9 ∧ 1 < x.toNat)
    · rw [tk_bad hb] at h; injection h with _ h; injection h with _ h; cases h
    · by_cases h2 : 128 ≤ x.toNat
      · rw [tk_more hb h2] at h
        obtain ⟨v, h3, h4, h5, h6, h7⟩ := ih _ _ _ _ h
        have hx := x.toNat_lt
        have hv := h4 (by omega)
        refine ⟨x.toNat % 128 + 128 * v, ?_, fun _ => by omega, by omega, by simp; omega, ?_⟩
        · rw [h3, Nat.pow_succ, Nat.add_mul, Nat.add_assoc, Nat.mul_comm (128 ^ i) 128, ← Nat.mul_assoc, Nat.mul_comm v 128]
        · rw [grp_ge (by omega), show n - i = (n - (i + 1)) + 1 by omega, List.take_succ_cons, h7]
          congr 1
          · exact (u8_eq (n := (x.toNat % 128 + 128 * v) % 128 + 128) (by omega) (by omega)).symm
          · congr 1; omega
      · rw [tk_last hb h2] at h
        injection h with h3 h
        injection h with h4 _
        have hx := x.toNat_lt
        refine ⟨x.toNat, by rw [← h3, Nat.mod_eq_of_lt (by omega)], fun h => by omega, by omega, by simp; omega, ?_⟩
        rw [grp_lt (by omega), show n - i = 1 by omega]
        simp
theorem tk_enc0 {most u n : Nat} {bs : List UInt8} (h : tk most 0 0 bs = (u, n, 0)) : 0 < n ∧ n ≤ bs.length ∧ bs.take n = grp u := by
  obtain ⟨v, h1, _, h3, h4, h5⟩ := tk_enc most bs 0 0 u n h
  simp at h1 h4 h5
  subst h1
  exact ⟨h3, h4, h5⟩
/-- What is written is read again. -/
theorem tk_dec (most : Nat) (rest : List UInt8) : ∀ (m v i a : Nat), v ≤ m → v * 128 ^ i < 18446744073709551616 → i ≤ 9 → i + (grp v).length ≤ most → (0 < i → v ≠ 0) →
    tk most i a (grp v ++ rest) = (a + v * 128 ^ i, i + (grp v).length, 0) := by
  intro m
  induction m with
  | zero =>
    intro v i a hv hb hi hm h0
    obtain rfl : v = 0 := by omega
    have hi0 : i = 0 := by
      rcases Nat.eq_zero_or_pos i with h | h
      · exact h
      · exact absurd rfl (h0 h)
    subst hi0
    rw [grp_lt (by omega)] at hm ⊢
    simp at hm
    show tk most 0 a (UInt8.ofNat 0 :: rest) = _
    rw [tk_last (by simp; omega) (by simp)]
    simp
  | succ m ih =>
    intro v i a hv hb hi hm h0
    have h9 : i = 9 → v ≤ 1 := by
      intro h; subst h; omega
    by_cases hlt : v < 128
    · rw [grp_lt hlt] at hm ⊢
      simp at hm
      show tk most i a (UInt8.ofNat v :: rest) = _
      have hx : (UInt8.ofNat v).toNat = v := by show v % 256 = v; omega
      rw [tk_last (by rw [hx]; omega) (by rw [hx]; omega), hx, Nat.mod_eq_of_lt hlt]
      rfl
    · rw [grp_ge (by omega)] at hm ⊢
      rw [List.length_cons] at hm ⊢
      show tk most i a (UInt8.ofNat (v % 128 + 128) :: (grp (v / 128) ++ rest)) = _
      have hx : (UInt8.ofNat (v % 128 + 128)).toNat = v % 128 + 128 := by show (v % 128 + 128) % 256 = _; omega
      have hp := grp_pos (v / 128)
      have hdiv : v / 128 * 128 ^ (i + 1) ≤ v * 128 ^ i := by
        rw [Nat.pow_succ, Nat.mul_comm (128 ^ i) 128, ← Nat.mul_assoc]
        exact Nat.mul_le_mul_right _ (by omega)
      rw [tk_more (by rw [hx]; omega) (by rw [hx]; omega), hx, ih (v / 128) (i + 1) _ (by omega) (by omega) (by omega) (by omega) (by omega)]
      have e : v = 128 * (v / 128) + v % 128 := by omega
      refine Prod.ext ?_ (Prod.ext (by simp; omega) rfl)
      show a + (v % 128 + 128) % 128 * 128 ^ i + v / 128 * 128 ^ (i + 1) = a + v * 128 ^ i
      rw [show (v % 128 + 128) % 128 = v % 128 by omega]
      conv => rhs; rw [e]
      rw [Nat.pow_succ, Nat.add_mul, Nat.mul_comm (128 ^ i) 128, ← Nat.mul_assoc, Nat.mul_comm (v / 128) 128]
      omega
theorem tk_dec0 {most v : Nat} (rest : List UInt8) (hv : v < 18446744073709551616) (hm : (grp v).length ≤ most) : tk most 0 0 (grp v ++ rest) = (v, (grp v).length, 0) := by
  have := tk_dec most rest v v 0 0 (Nat.le_refl _) (by simpa using hv) (by omega) (by omega) (by omega)
  simpa using this
/-- A number without a sign as an int: zigzag, back. -/
def zag (u : Nat) : Int := if u % 2 = 1 then -((u / 2 : Nat) : Int) - 1 else ((u / 2 : Nat) : Int)
theorem zig_zag (u : Nat) : zig (zag u) = u := by unfold zig zag; split <;> (split <;> omega)
theorem zag_zig (z : Int) : zag (zig z) = z := by unfold zag zig; split <;> (split <;> omega)
theorem zag_range {u : Nat} (h : u < 18446744073709551616) : -9223372036854775808 ≤ zag u ∧ zag u ≤ 9223372036854775807 := by unfold zag; split <;> omega
end Go.Proofs.Ytpfmadinijofeaa
end
section
/- The reader of the codec, walked. -/
namespace Go.Proofs.Ytpfmadinijofeaa
open Go.RowKit
/-- A reader. -/
structure RdAt (w : World) (L : List Nat) (g : Nat) (bs : List UInt8) (e : Int) : Prop where
  ex : ∃ a c, Bk w g #[.slice a bs.length c, .int .i64 e] 157 ∧ In w L a bs ∧ bs.length ≤ c
  mem : g ∈ L
  under : Under L w.heap.size
theorem RdAt.keep {w w' : World} {L : List Nat} {g : Nat} {bs : List UInt8} {e : Int} (h : RdAt w L g bs e) (hk : ∀ k ∈ L, w'.heap[k]? = w.heap[k]?) (hs : w.heap.size ≤ w'.heap.size) : RdAt w' L g bs e := by
  obtain ⟨⟨a, c, h1, h2, h3⟩, h4, h5⟩ := h
  exact ⟨⟨a, c, h1.keep (hk g h4), h2.keep hk, h3⟩, h4, h5.mono hs⟩
theorem RdAt.fr {w w' : World} {L M : List Nat} {g : Nat} {bs : List UInt8} {e : Int} (h : RdAt w L g bs e) (hf : Fr M w w') (ha : Apart L M) : RdAt w' L g bs e := h.keep (hf.keep ha h.under) hf.size
theorem RdAt.below {w w' : World} {L : List Nat} {g : Nat} {bs : List UInt8} {e : Int} (h : RdAt w L g bs e) (hb : Below w.heap.size w w') : RdAt w' L g bs e := h.keep (fun k hk => hb.block k (h.under k hk)) hb.size
/-- The bytes are not in the reader's own block. -/
theorem in_other {w : World} {L : List Nat} {a : Option Addr} {bs : List UInt8} {g i : Nat} {cs : Array Value} {v : Value} (hb : Bk w g cs 157) (h : In w L a bs) : In (w.setCell ⟨g, i, none⟩ v) L a bs ∨ ∃ (j : Nat) (x : UInt8), cs[j]? = some (bV x) := by
  rcases h.1 with h1 | ⟨b, off, rfl, h1⟩
  · left; exact ⟨.inl h1, h.2⟩
  · by_cases hg : b = g
    · subst hg
      cases bs with
      | nil => left; exact ⟨.inl rfl, h.2⟩
      | cons x r =>
        right
        have := h1 0 (bV x) rfl
        rw [hb.cell] at this
        exact ⟨_, _, this⟩
    · left
      refine ⟨.inr ⟨b, off, rfl, fun j u hj => ?_⟩, h.2⟩
      rw [← h1 j u hj]
      exact World.cell?_of_block (a := ⟨b, off + j, none⟩) (Below.heap_setCell _ _ _ _ hg)
theorem in_set {w : World} {L : List Nat} {a a0 : Option Addr} {bs : List UInt8} {n0 c0 g i : Nat} {e : Int} {v : Value} (hb : Bk w g #[.slice a0 n0 c0, .int .i64 e] 157) (h : In w L a bs) : In (w.setCell ⟨g, i, none⟩ v) L a bs := by
  rcases in_other (i := i) (v := v) hb h with h | ⟨j, x, hj⟩
  · exact h
  · match j with
    | 0 => cases hj
    | 1 => cases hj
    | j + 2 => simp at hj
theorem RdAt.setErr {w : World} {L : List Nat} {g : Nat} {bs : List UInt8} {e : Int} (h : RdAt w L g bs e) (e' : Int) : RdAt (w.setCell ⟨g, 1, none⟩ (.int .i64 e')) L g bs e' := by
  obtain ⟨⟨a, c, h1, h2, h3⟩, h4, h5⟩ := h
  exact ⟨⟨a, c, h1.setCell 1 (.int .i64 e'), in_set h1 h2, h3⟩, h4, by simpa [Under] using h5⟩
theorem RdAt.setBytes {w : World} {L : List Nat} {g : Nat} {bs bs2 : List UInt8} {e : Int} (h : RdAt w L g bs e) {a2 : Option Addr} {c2 : Nat} (h2 : In w L a2 bs2) (hc : bs2.length ≤ c2) : RdAt (w.setCell ⟨g, 0, none⟩ (.slice a2 bs2.length c2)) L g bs2 e := by
  obtain ⟨⟨a, c, h1, _, h3⟩, h4, h5⟩ := h
  exact ⟨⟨a2, c2, h1.setCell 0 (.slice a2 bs2.length c2), in_set h1 h2, hc⟩, h4, by simpa [Under] using h5⟩
/-- 'b[n:]'. -/
theorem slice_from {w : World} {L : List Nat} {a : Option Addr} {bs : List UInt8} {c n : Nat} (hn : n ≤ bs.length) (hc : bs.length ≤ c) (h : In w L a bs) :
    ∃ a' c', (∀ W : World, (Instr.slice 22 (.slice a bs.length c) (some (.int .i64 (n : Int))) none none).run Try.prog W = .ok (.slice a' (bs.drop n).length c') W) ∧ In w L a' (bs.drop n) ∧ (bs.drop n).length ≤ c' := by
  have hsz : ∀ W : World, (sizeOf 5).run Try.prog W = .ok 1 W := fun W => by kernel_rfl
  refine ⟨if c = n then a else a.map (·.add (n * 1)), c - n, fun W => ?_, ?_, by simp; omega⟩
  · have h1 : (0 : Int) ≤ (n : Int) ∧ (n : Int) ≤ (bs.length : Int) := by omega
    have h2 : ¬ bs.length < n := by omega
    simp [Instr.slice, run_underlying Try.underlying22, Instr.sliceBounds, Instr.sliceBound, asIntOf, h1, h2, hsz]
  · by_cases hcn : c = n
    · rw [if_pos hcn]
      have : bs.drop n = [] := List.drop_eq_nil_of_le (by omega)
      rw [this]
      exact ⟨.inl rfl, fun _ _ h => absurd rfl h⟩
    · rw [if_neg hcn]
      rcases h.1 with h1 | ⟨b, off, rfl, h1⟩
      · have h2 : bs = [] := by simpa using h1
        subst h2
        exact ⟨.inl (by simp), fun _ _ h => absurd (by simp) h⟩
      · refine ⟨?_, fun ad had hne => ?_⟩
        · have := RowAt.drop (w := w) (b := b) (off := off) (vs := bs.map bV) (.inr ⟨b, off, rfl, h1⟩) n
          rw [List.map_drop] 
          simpa [Addr.add_lit] using this
        · simp [Addr.add_lit] at had
          subst had
          exact h.2 ⟨b, off, none⟩ rfl (fun h0 => hne (by rw [h0]; simp))
set_option maxRecDepth 100000 in
set_option maxHeartbeats 2000000 in
theorem cRead_any (a : Option Addr) (c : Nat) (bs : List UInt8) (w : World) (h : RowAt w a (bs.map bV)) (hl : bs.length ≤ 100000000) :
    Calls Try.prog 89 #[.slice a bs.length c] w fun e w' => ∃ g L, e = .returned (.pointer (some ⟨g, 0, none⟩)) ∧ RdAt w' L g bs 0 ∧ From w.heap.size L ∧ Below w.heap.size w w' := by
  have HC := Bx.mk (bClone_any a c bs w h hl)
  clear h hl
  go_enter Try.func89, Try.ntmps89
  go_wp2_with fail
  refine HC.out.mono ?_
  rintro e w1 ⟨v, rfl, ho, hb⟩
  obtain ⟨a1, c1, rfl⟩ := ho.isSlice
  have HO := Bx.mk ho; have HB := Bx.mk hb
  clear ho hb
  go_wp2
  go_ret
  refine ⟨w1.heap.size, w1.heap.size :: (Value.ownBlock (.slice a1 bs.length c1)).toList, rfl, ⟨⟨a1, c1, Bk.new rfl, ?_, HO.out.cap.1⟩, by simp, ?_⟩, ?_, HB.out.alloc HB.out.size _⟩
  · have h1 := In.ofOwn (HO.out.alloc (.cells #[.slice a1 bs.length c1, .int .i64 0] 157))
    exact ⟨h1.1, fun ad had hne => by simp only [List.mem_cons]; exact .inr (h1.2 ad had hne)⟩
  · intro k hk
    rcases List.mem_cons.1 hk with rfl | hk
    · simp
    · have := (HO.out.lt k (by simpa using hk)).2; simp; omega
  · intro k hk
    rcases List.mem_cons.1 hk with rfl | hk
    · exact HB.out.size
    · exact (HO.out.lt k (by simpa using hk)).1
theorem rdead0 {w : World} {L : List Nat} {g : Nat} {bs : List UInt8} (h : RdAt w L g bs 0) : Calls Try.prog 100 #[.pointer (some ⟨g, 0, none⟩)] w fun e w' => e = .returned (.bool false) ∧ w' = w := by
  obtain ⟨⟨a, c, h1, _, _⟩, _, _⟩ := h
  have c1 : w.cell? ⟨g, 1, none⟩ = some (.int .i64 0) := by rw [h1.cell]; rfl
  clear h1
  go_enter Try.func100, Try.ntmps100
  go_wp2
  go_ret
  exact ⟨rfl, rfl⟩
theorem rdead1 {w : World} {L : List Nat} {g : Nat} {bs : List UInt8} {e : Int} (h : RdAt w L g bs e) (he : e ≠ 0) : Calls Try.prog 100 #[.pointer (some ⟨g, 0, none⟩)] w fun r w' => r = .returned (.bool true) ∧ w' = w := by
  obtain ⟨⟨a, c, h1, _, _⟩, _, _⟩ := h
  have c1 : w.cell? ⟨g, 1, none⟩ = some (.int .i64 e) := by rw [h1.cell]; rfl
  have he2 : (e != 0) = true := by simpa using he
  clear h1 he
  go_enter Try.func100, Try.ntmps100
  go_wp2
  go_ret
  exact ⟨rfl, rfl⟩
theorem and127B : ((List.range 256).all fun x => bits BinOp.andNot IntKind.u8 (x : Int) 128 == ((x % 128 : Nat) : Int)) = true := by kernel_rfl
theorem and127 (x : UInt8) : bits BinOp.andNot IntKind.u8 (x.toNat : Int) 128 = ((x.toNat % 128 : Nat) : Int) :=
  eq_of_beq (List.all_eq_true.1 and127B x.toNat (List.mem_range.2 x.toNat_lt))
theorem or_next {u y i : Nat} (hu : u < 128 ^ i) (hs : u + y * 128 ^ i < 18446744073709551616) : bits BinOp.or IntKind.u64 (u : Int) ((y * 128 ^ i : Nat) : Int) = ((u + y * 128 ^ i : Nat) : Int) := by
  have hy : y * 128 ^ i < 18446744073709551616 := by omega
  have e : (128 : Nat) ^ i = 2 ^ (7 * i) := by rw [Nat.pow_mul]
  rw [u64_or_nat _ _ (by omega) hy, Nat.or_comm, nat_join (7 * i) _ _ (by rw [e]; exact Nat.mul_mod_left _ _) (by rw [← e]; exact hu), Nat.add_comm]
set_option maxRecDepth 100000 in
set_option maxHeartbeats 4000000 in
theorem rtake_any (g : Nat) (most : Nat) (hm0 : 0 < most) (hm : most ≤ 10) (bs : List UInt8) (L : List Nat) (w : World) (h : RdAt w L g bs 0) (hl : bs.length ≤ 100000000) (u0 n0 : Nat) (e0 : Int) (hr : tk most 0 0 bs = (u0, n0, e0)) :
    Calls Try.prog 113 #[.pointer (some ⟨g, 0, none⟩), .int .i64 most] w fun e w' => (e0 = 0 ∧ e = .returned (.tuple #[.int .u64 u0, .int .i64 n0]) ∧ w' = w) ∨ (e0 ≠ 0 ∧ e = .returned (.tuple #[.int .u64 0, .int .i64 0]) ∧ w' = w.setCell ⟨g, 1, none⟩ (.int .i64 e0)) := by
  obtain ⟨⟨a, c, h1, h2, h3⟩, h4, h5⟩ := h
  have HI := Bx.mk h2; have HR := Bx.mk hr; have HM := Bx.mk hm; have HL := Bx.mk hl
  have c0 : w.cell? ⟨g, 0, none⟩ = some (.slice a bs.length c) := by rw [h1.cell]; rfl
  have c1 : w.cell? ⟨g, 1, none⟩ = some (.int .i64 0) := by rw [h1.cell]; rfl
  have c2 : w.frozen? ⟨g, 1, none⟩ = false := h1.frozen 1
  have M0 := Bx.mk hm0
  have hmb : ((0 : Int) == (most : Int)) = false := by simp; omega
  clear h1 h2 h3 h4 h5 hr hm hl hm0
  go_enter Try.func113, Try.ntmps113
  go_wp2
  refine wp_scope_jumps 0 (fun a' w' => w' = w ∧ ∃ (i u : Nat) (x8 x9 x10 x11 x12 x13 x14 x15 x16 x17 x18 x19 x20 x21 x22 x23 x24 x25 x26 x27 x28 x29 x30 x31 x32 x33 x34 x35 x36 x37 x38 x39 x40 x41 x42 x43 x44 x45 x46 x47 x48 x49 x50 x51 x52 x53 x54 x55 x56 x57 x58 x59 x60 x61 : Value), a' = { tmps := #[.pointer (some ⟨g, 0, none⟩), .int .i64 most, undef, undef, .int .u64 0, .int .i64 0, .int .u64 u, .int .i64 i, x8, x9, x10, x11, x12, x13, x14, x15, x16, x17, x18, x19, x20, x21, x22, x23, x24, x25, x26, x27, x28, x29, x30, x31, x32, x33, x34, x35, x36, x37, x38, x39, x40, x41, x42, x43, x44, x45, x46, x47, x48, x49, x50, x51, x52, x53, x54, x55, x56, x57, x58, x59, x60, x61], defers := [] } ∧ Bx (tk most i u (bs.drop i) = (u0, n0, e0) ∧ u < 128 ^ i ∧ i ≤ 9 ∧ i ≤ bs.length)) (fun a' _ => 10 - (intOf (a'.tmps.getD 7 undef)).toNat) rfl ?first ?pass
  case first =>
    go_wp2
    go_step3
    by_cases hb0 : bs.length = 0
    · have h0 : bs = [] := List.eq_nil_of_length_eq_zero hb0
      have HE := Bx.mk (show ((0, 0, 3) : Nat × Nat × Int) = (u0, n0, e0) by rw [← HR.out, h0]; rfl)
      have hl0 : ((0 : Int) == (bs.length : Int)) = true := by rw [hb0]; rfl
      clear HR HI h0 hb0
      go_wp2
      dsimp only [Exit.jump]
      go_ret2
      have h := HE.out
      injection h with h1 h2
      injection h2 with h2 h3
      subst h1; subst h2; subst h3
      exact .inr ⟨by decide, rfl, rfl⟩
    · obtain ⟨b, off, rfl, hc⟩ := RowAt.byte HI.out.1 (k := 0) (by omega)
      rw [Nat.add_zero] at hc
      have hd : bs = bs[0] :: bs.drop 1 := by rw [← List.drop_eq_getElem_cons (by omega)]; rfl
      have HD := Bx.mk hd
      have hn0 : ((0 : Int) == (bs.length : Int)) = false := by simp; omega
      have l0 : (0 : Int) < (bs.length : Int) := by omega
      have hx : bs[0].toNat < 256 := bs[0].toNat_lt
      obtain ⟨y, hy⟩ : ∃ y, y = bs[0].toNat % 128 := ⟨_, rfl⟩
      have ha := and127 bs[0]
      rw [← hy] at ha
      have hor : bits BinOp.or IntKind.u64 0 (y : Int) = (y : Int) := by
        have := u64_or_nat 0 y (by omega) (by omega)
        simpa using this
      have hyw : IntKind.u64.wrap (y : Int) = (y : Int) := by rw [IntKind.wrap_u64]; omega
      generalize bs[0] = x at *
      clear hd
      have HX := Bx.mk hx; have HY := Bx.mk hy; have HY2 := Bx.mk (show y < 128 by omega)
      by_cases h2 : (128 : Int) ≤ (x.toNat : Int)
      · have ht : tk most 1 y (bs.drop 1) = (u0, n0, e0) := by
          have h := HR.out
          rw [HD.out, tk_more (by have := M0.out; omega) (by omega), ← hy] at h
          simpa using h
        have HT := Bx.mk ht
        have HL1 := Bx.mk (show 1 ≤ bs.length by omega)
        have hxb : ((x.toNat : Int) == 0) = false := by simp; omega
        clear ht HR hy hx
        go_wp2
        go_step3
        refine ⟨rfl, rfl, ?_⟩
        refine ⟨1, y, ?_⟩
        repeat apply Exists.intro
        exact ⟨rfl, ⟨HT.out, by have := HY2.out; simpa using this, by omega, HL1.out⟩⟩
      · have ht : (y, 1, (0 : Int)) = (u0, n0, e0) := by
          have h := HR.out
          rw [HD.out, tk_last (by have := M0.out; omega) (by omega), ← hy] at h
          simpa using h
        injection ht with h1 h3
        injection h3 with h3 h4
        subst h1; subst h3; subst h4
        by_cases hx0 : x.toNat = 0
        · have hy0 : y = 0 := by omega
          subst hy0
          rw [hx0] at hc ha
          have ha0 : bits BinOp.andNot IntKind.u8 0 128 = 0 := ha
          have hor0 : bits BinOp.or IntKind.u64 0 0 = 0 := hor
          clear HR hy hx ha hor h2 hx0
          go_wp2
          dsimp only [Exit.jump]
          go_ret2
          exact .inl ⟨rfl, rfl, rfl⟩
        · have hxb : ((x.toNat : Int) == 0) = false := by simpa using hx0
          clear HR hy hx hx0
          go_wp2
          dsimp only [Exit.jump]
          go_ret2
          exact .inl ⟨rfl, rfl, rfl⟩
  case pass =>
    rintro a' w' ⟨hw, i, u, hx⟩
    subst hw
    obtain ⟨x8, hx⟩ := hx
    obtain ⟨x9, hx⟩ := hx
    obtain ⟨x10, hx⟩ := hx
    obtain ⟨x11, hx⟩ := hx
    obtain ⟨x12, hx⟩ := hx
    obtain ⟨x13, hx⟩ := hx
    obtain ⟨x14, hx⟩ := hx
    obtain ⟨x15, hx⟩ := hx
    obtain ⟨x16, hx⟩ := hx
    obtain ⟨x17, hx⟩ := hx
    obtain ⟨x18, hx⟩ := hx
    obtain ⟨x19, hx⟩ := hx
    obtain ⟨x20, hx⟩ := hx
    obtain ⟨x21, hx⟩ := hx
    obtain ⟨x22, hx⟩ := hx
    obtain ⟨x23, hx⟩ := hx
    obtain ⟨x24, hx⟩ := hx
    obtain ⟨x25, hx⟩ := hx
    obtain ⟨x26, hx⟩ := hx
    obtain ⟨x27, hx⟩ := hx
    obtain ⟨x28, hx⟩ := hx
    obtain ⟨x29, hx⟩ := hx
    obtain ⟨x30, hx⟩ := hx
    obtain ⟨x31, hx⟩ := hx
    obtain ⟨x32, hx⟩ := hx
    obtain ⟨x33, hx⟩ := hx
    obtain ⟨x34, hx⟩ := hx
    obtain ⟨x35, hx⟩ := hx
    obtain ⟨x36, hx⟩ := hx
    obtain ⟨x37, hx⟩ := hx
    obtain ⟨x38, hx⟩ := hx
    obtain ⟨x39, hx⟩ := hx
    obtain ⟨x40, hx⟩ := hx
    obtain ⟨x41, hx⟩ := hx
    obtain ⟨x42, hx⟩ := hx
    obtain ⟨x43, hx⟩ := hx
    obtain ⟨x44, hx⟩ := hx
    obtain ⟨x45, hx⟩ := hx
    obtain ⟨x46, hx⟩ := hx
    obtain ⟨x47, hx⟩ := hx
    obtain ⟨x48, hx⟩ := hx
    obtain ⟨x49, hx⟩ := hx
    obtain ⟨x50, hx⟩ := hx
    obtain ⟨x51, hx⟩ := hx
    obtain ⟨x52, hx⟩ := hx
    obtain ⟨x53, hx⟩ := hx
    obtain ⟨x54, hx⟩ := hx
    obtain ⟨x55, hx⟩ := hx
    obtain ⟨x56, hx⟩ := hx
    obtain ⟨x57, hx⟩ := hx
    obtain ⟨x58, hx⟩ := hx
    obtain ⟨x59, hx⟩ := hx
    obtain ⟨x60, hx⟩ := hx
    obtain ⟨x61, hx⟩ := hx
    obtain ⟨ha, hJ⟩ := hx
    subst ha
    obtain ⟨hr, hu, hi9, hil⟩ := hJ.out
    clear hJ HR hmb
    have HR := Bx.mk hr; have HU := Bx.mk hu
    clear hr hu
    by_cases hb0 : i = bs.length
    · have HE := Bx.mk (show ((0, 0, 3) : Nat × Nat × Int) = (u0, n0, e0) by rw [← HR.out, hb0, List.drop_length]; rfl)
      have hl0 : ((i : Int) == (bs.length : Int)) = true := by rw [hb0]; simp
      clear HR HI hb0
      go_wp2
      dsimp only [Exit.jump]
      go_ret2
      have h := HE.out
      injection h with h1 h2
      injection h2 with h2 h3
      subst h1; subst h2; subst h3
      exact .inr ⟨by decide, rfl, rfl⟩
    · have hlt : i < bs.length := by omega
      obtain ⟨b, off, rfl, hc⟩ := RowAt.byte HI.out.1 (k := i) hlt
      have HD := Bx.mk (List.drop_eq_getElem_cons hlt)
      have hn0 : ((i : Int) == (bs.length : Int)) = false := by simp; omega
      have l0 : (i : Int) < (bs.length : Int) := by omega
      have i0 : (0 : Int) ≤ (i : Int) := by omega
      have hx : bs[i].toNat < 256 := bs[i].toNat_lt
      have ha := and127 bs[i]
      generalize bs[i] = x at *
      obtain ⟨z, hz⟩ : ∃ z, z = x.toNat := ⟨_, rfl⟩
      rw [← hz] at hc ha hx
      have HZ := Bx.mk hz
      clear hz
      obtain ⟨bad, hbad⟩ : ∃ bad, bad = decide (i = most ∨ (z = 0 ∧ 0 < i) ∨ (i = 9 ∧ 1 < z)) := ⟨_, rfl⟩
      have HBD := Bx.mk hbad
      go_upto_region 7 with fail
      go_cut [44] (fun t44 wx => t44 = .bool bad ∧ w' = wx)
      case first =>
        clear HR HD HU ha
        by_cases h1 : i = most
        · have h1b : ((i : Int) == (most : Int)) = true := by simp; omega
          rw [decide_eq_true (.inl h1)] at hbad
          clear h1 HBD
          go_wp2
          go_meet
          case rel => exact ⟨by rw [hbad], rfl⟩
        · have h1b : ((i : Int) == (most : Int)) = false := by simp; omega
          by_cases h2 : z = 0
          · subst h2
            by_cases h3 : (0 : Int) < (i : Int)
            · rw [decide_eq_true (.inr (.inl ⟨rfl, by omega⟩))] at hbad
              clear h1 HBD
              go_wp2
              go_meet
              case rel => exact ⟨by rw [hbad], rfl⟩
            · rw [decide_eq_false (by omega)] at hbad
              obtain rfl : i = 0 := by omega
              clear h1 HBD h3 h1b
              have h1c : ((0 : Int) == (most : Int)) = false := by have := M0.out; simp; omega
              go_wp2
              go_meet
              case rel => exact ⟨by rw [hbad], rfl⟩
          · have h2b : ((z : Int) == 0) = false := by simp; omega
            by_cases h4 : i = 9
            · have h4b : ((i : Int) == 9) = true := by simp; omega
              by_cases h5 : (1 : Int) < (z : Int)
              · rw [decide_eq_true (.inr (.inr ⟨h4, by omega⟩))] at hbad
                clear h1 HBD h2 h4
                go_wp2
                go_meet
                case rel => exact ⟨by rw [hbad], rfl⟩
              · rw [decide_eq_false (by omega)] at hbad
                clear h1 HBD h2 h4
                go_wp2
                go_meet
                case rel => exact ⟨by rw [hbad], rfl⟩
            · have h4b : ((i : Int) == 9) = false := by simp; omega
              rw [decide_eq_false (by omega)] at hbad
              clear h1 HBD h2 h4
              go_wp2
              go_meet
              case rel => exact ⟨by rw [hbad], rfl⟩
      case rest =>
        obtain ⟨rfl, rfl⟩ := hcut
        clear hbad
        cases bad with
        | true =>
          have hb := of_decide_eq_true HBD.out.symm
          have hE : ((0, 0, 2) : Nat × Nat × Int) = (u0, n0, e0) := by rw [← HR.out, HD.out, tk_bad (by rw [← HZ.out]; exact hb)]
          injection hE with h1 h2
          injection h2 with h2 h3
          subst h1; subst h2; subst h3
          clear HR HD HU HI hb ha
          go_wp2
          dsimp only [Exit.jump]
          go_ret2
          exact .inr ⟨by decide, rfl, rfl⟩
        | false =>
          have hb := of_decide_eq_false HBD.out.symm
          obtain ⟨y, hy⟩ : ∃ y, y = z % 128 := ⟨_, rfl⟩
          rw [← hy] at ha
          obtain ⟨p, hp⟩ : ∃ p, p = y * 128 ^ i := ⟨_, rfl⟩
          have hpow : 128 ^ i ≤ 128 ^ 9 := Nat.pow_le_pow_right (by omega) hi9
          have hpb : u + p < 18446744073709551616 := by
            by_cases h9 : i = 9
            · subst h9
              have h1 : y ≤ 1 := by omega
              have h2 : y * 128 ^ 9 ≤ 1 * 128 ^ 9 := Nat.mul_le_mul_right _ h1
              have := HU.out
              omega
            · have h3 : 128 ^ i ≤ 128 ^ 8 := Nat.pow_le_pow_right (by omega) (by omega)
              have h2 : y * 128 ^ i ≤ 127 * 128 ^ i := Nat.mul_le_mul_right _ (by omega)
              have := HU.out
              omega
          have hpi : IntKind.u64.wrap (IntKind.u64.wrap (y : Int) * 2 ^ (7 * i)) = (p : Int) := by
            have e : ((y : Int) * 2 ^ (7 * i)) = (p : Int) := by
              have e2 : ((2 : Int) ^ (7 * i)) = ((128 ^ i : Nat) : Int) := by
                rw [show (128 : Nat) = 2 ^ 7 from rfl, ← Nat.pow_mul]; exact (Int.natCast_pow 2 (7 * i)).symm
              rw [hp, e2, ← Int.natCast_mul]
            rw [show IntKind.u64.wrap (y : Int) = (y : Int) by rw [IntKind.wrap_u64]; omega, e, IntKind.wrap_u64]; omega
          have hor : bits BinOp.or IntKind.u64 (u : Int) (p : Int) = ((u + p : Nat) : Int) := by
            rw [hp]; exact or_next HU.out (by rw [← hp]; exact hpb)
          obtain ⟨q, hq⟩ : ∃ q, q = u + p := ⟨_, rfl⟩
          rw [← hq] at hor
          have HB2 := Bx.mk hb; have HY := Bx.mk hy; have HP := Bx.mk hp; have HQ := Bx.mk hq
          have s0 : (0 : Int) ≤ 7 * (i : Int) := by omega
          clear hb hy hp hq hpow hpb
          by_cases hmore : (128 : Int) ≤ (z : Int)
          · have hne9 : i ≠ 9 := fun h => by have := HB2.out; omega
            have ht : tk most (i + 1) q (bs.drop (i + 1)) = (u0, n0, e0) := by
              have h := HR.out
              rw [HD.out, tk_more (by rw [← HZ.out]; exact HB2.out) (by rw [← HZ.out]; omega), ← HZ.out, ← HY.out, ← HP.out, ← HQ.out] at h
              exact h
            have hq2 : q < 128 ^ (i + 1) := by
              have h2 : y * 128 ^ i ≤ 127 * 128 ^ i := Nat.mul_le_mul_right _ (by have := HY.out; omega)
              have h3 := HU.out
              rw [HQ.out, HP.out, Nat.pow_succ]; omega
            have HT := Bx.mk ht; have HQ2 := Bx.mk hq2
            clear ht hq2
            go_wp2
            go_step3
            rw [show ((i : Int) + 1) = ((i + 1 : Nat) : Int) by omega]
            refine ⟨rfl, ⟨rfl, ?_⟩, by simp [intOf]; omega⟩
            refine ⟨i + 1, q, ?_⟩
            repeat apply Exists.intro
            exact ⟨rfl, ⟨HT.out, HQ2.out, by omega, by omega⟩⟩
          · have ht : (q, i + 1, (0 : Int)) = (u0, n0, e0) := by
              have h := HR.out
              rw [HD.out, tk_last (by rw [← HZ.out]; exact HB2.out) (by rw [← HZ.out]; omega), ← HZ.out, ← HY.out, ← HP.out, ← HQ.out] at h
              exact h
            injection ht with h1 h3
            injection h3 with h3 h4
            subst h1; subst h3; subst h4
            go_wp2
            dsimp only [Exit.jump]
            go_ret2
            exact .inl ⟨rfl, rfl, rfl⟩
end Go.Proofs.Ytpfmadinijofeaa
end
section
/- The reader's methods, walked. -/
namespace Go.Proofs.Ytpfmadinijofeaa
open Go.RowKit
theorem grp_bound (n : Nat) : ∀ u, (grp u).length ≤ n → u < 128 ^ n := by
  induction n with
  | zero => intro u h; have := grp_pos u; omega
  | succ n ih =>
    intro u h
    by_cases h1 : u < 128
    · have : 1 ≤ 128 ^ n := Nat.pow_pos (by omega)
      rw [Nat.pow_succ]; omega
    · rw [grp_ge (by omega), List.length_cons] at h
      have := ih (u / 128) (by omega)
      rw [Nat.pow_succ]; omega
theorem tk_n (most : Nat) : ∀ (bs : List UInt8) (i a u n : Nat), i ≤ most → tk most i a bs = (u, n, 0) → n ≤ most := by
  intro bs
  induction bs with
  | nil => intro i a u n _ h; rw [tk_nil] at h; injection h with _ h; injection h with _ h; cases h
  | cons x r ih =>
    intro i a u n hi h
    by_cases hb : i = most ∨ (x.toNat = 0 ∧ 0 < i) ∨ (i = 9 ∧ 1 < x.toNat)
    · rw [tk_bad hb] at h; injection h with _ h; injection h with _ h; cases h
    · by_cases h2 : 128 ≤ x.toNat
      · rw [tk_more hb h2] at h; exact ih _ _ _ _ (by omega) h
      · rw [tk_last hb h2] at h; injection h with _ h; injection h with h _; omega
theorem tk_lt (most : Nat) : ∀ (bs : List UInt8) (i a u n : Nat), i ≤ 9 → a < 128 ^ i → tk most i a bs = (u, n, 0) → u < 18446744073709551616 := by
  intro bs
  induction bs with
  | nil => intro i a u n _ _ h; rw [tk_nil] at h; injection h with _ h; injection h with _ h; cases h
  | cons x r ih =>
    intro i a u n hi ha h
    by_cases hb : i = most ∨ (x.toNat = 0 ∧ 0 < i) ∨ (i = 9 ∧ 1 < x.toNat)
    · rw [tk_bad hb] at h; injection h with _ h; injection h with _ h; cases h
    · by_cases h2 : 128 ≤ x.toNat
      · rw [tk_more hb h2] at h
        refine ih _ _ _ _ (by omega) ?_ h
        have h3 : x.toNat % 128 * 128 ^ i ≤ 127 * 128 ^ i := Nat.mul_le_mul_right _ (by omega)
        rw [Nat.pow_succ]; omega
      · rw [tk_last hb h2] at h
        injection h with h _
        by_cases h9 : i = 9
        · subst h9
          have h3 : x.toNat % 128 * 128 ^ 9 ≤ 1 * 128 ^ 9 := Nat.mul_le_mul_right _ (by omega)
          omega
        · have h4 : 128 ^ i ≤ 128 ^ 8 := Nat.pow_le_pow_right (by omega) (by omega)
          have h3 : x.toNat % 128 * 128 ^ i ≤ 127 * 128 ^ i := Nat.mul_le_mul_right _ (by omega)
          omega
theorem tk9_lt {bs : List UInt8} {u n : Nat} (h : tk 9 0 0 bs = (u, n, 0)) : u < 9223372036854775808 := by
  have h1 := tk_n 9 bs 0 0 u n (by omega) h
  obtain ⟨_, h2, h3⟩ := tk_enc0 h
  have h4 : (grp u).length ≤ 9 := by rw [← h3, List.length_take]; omega
  exact grp_bound 9 u h4
/-- What a reader answers. -/
def rdUint (most : Int) (bs : List UInt8) (e : Int) : Int × List UInt8 × Int :=
  if e ≠ 0 then (0, bs, e) else
  let r := tk 9 0 0 bs
  if r.2.2 ≠ 0 then (0, bs, r.2.2) else if most < 0 ∨ most < r.1 then (0, bs, 5) else (r.1, bs.drop r.2.1, 0)
def rdInt (bs : List UInt8) (e : Int) : Int × List UInt8 × Int :=
  if e ≠ 0 then (0, bs, e) else
  let r := tk 10 0 0 bs
  if r.2.2 ≠ 0 then (0, bs, r.2.2) else (zag r.1, bs.drop r.2.1, 0)
/-- The reader's block alone is written. -/
def R1 (w : World) (L : List Nat) (g : Nat) (v : Value) (bs : List UInt8) (e : Int) (r : Ending) (w' : World) : Prop :=
  r = .returned v ∧ RdAt w' L g bs e ∧ Fr L w w' ∧ Fr [g] w w'
theorem rtake_ok {g most : Nat} (hm0 : 0 < most) (hm : most ≤ 10) {bs : List UInt8} {L : List Nat} {w : World} (h : RdAt w L g bs 0) (hl : bs.length ≤ 100000000) {u n : Nat} (hr : tk most 0 0 bs = (u, n, 0)) :
    Calls Try.prog 113 #[.pointer (some ⟨g, 0, none⟩), .int .i64 most] w fun e w' => e = .returned (.tuple #[.int .u64 u, .int .i64 n]) ∧ w' = w :=
  (rtake_any g most hm0 hm bs L w h hl u n 0 hr).mono fun e w' h => by
    rcases h with ⟨_, h1, h2⟩ | ⟨h1, _⟩
    · exact ⟨h1, h2⟩
    · exact absurd rfl h1
theorem rtake_err {g most : Nat} (hm0 : 0 < most) (hm : most ≤ 10) {bs : List UInt8} {L : List Nat} {w : World} (h : RdAt w L g bs 0) (hl : bs.length ≤ 100000000) {u n : Nat} {e0 : Int} (he : e0 ≠ 0) (hr : tk most 0 0 bs = (u, n, e0)) :
    Calls Try.prog 113 #[.pointer (some ⟨g, 0, none⟩), .int .i64 most] w fun e w' => e = .returned (.tuple #[.int .u64 0, .int .i64 0]) ∧ w' = w.setCell ⟨g, 1, none⟩ (.int .i64 e0) :=
  (rtake_any g most hm0 hm bs L w h hl u n e0 hr).mono fun e w' h => by
    rcases h with ⟨h1, _⟩ | ⟨_, h1, h2⟩
    · exact absurd h1 he
    · exact ⟨h1, h2⟩
theorem rd_err {w : World} {L : List Nat} {g : Nat} {bs : List UInt8} {e : Int} (h : RdAt w L g bs e) (e' : Int) (v : Value) : R1 w L g v bs e' (.returned v) (w.setCell ⟨g, 1, none⟩ (.int .i64 e')) :=
  ⟨rfl, h.setErr e', (Fr.refl _ _).setCell (p := ⟨g, 1, none⟩) (.inl h.mem) _, (Fr.refl _ _).setCell (p := ⟨g, 1, none⟩) (.inl (by simp)) _⟩
theorem rd_bytes {w : World} {L : List Nat} {g : Nat} {bs bs2 : List UInt8} {e : Int} (h : RdAt w L g bs e) {a2 : Option Addr} {c2 : Nat} (h2 : In w L a2 bs2) (hc : bs2.length ≤ c2) (v : Value) :
    R1 w L g v bs2 e (.returned v) (w.setCell ⟨g, 0, none⟩ (.slice a2 bs2.length c2)) :=
  ⟨rfl, h.setBytes h2 hc, (Fr.refl _ _).setCell (p := ⟨g, 0, none⟩) (.inl h.mem) _, (Fr.refl _ _).setCell (p := ⟨g, 0, none⟩) (.inl (by simp)) _⟩
theorem rd_same {w : World} {L : List Nat} {g : Nat} {bs : List UInt8} {e : Int} (h : RdAt w L g bs e) (v : Value) : R1 w L g v bs e (.returned v) w := ⟨rfl, h, Fr.refl _ _, Fr.refl _ _⟩
set_option maxRecDepth 100000 in
set_option maxHeartbeats 4000000 in
theorem rUint_dead (g : Nat) (most : Int) (bs : List UInt8) (e : Int) (L : List Nat) (w : World) (h : RdAt w L g bs e) (he : e ≠ 0) :
    Calls Try.prog 101 #[.pointer (some ⟨g, 0, none⟩), .int .i64 most] w (R1 w L g (.int .i64 0) bs e) := by
  have HD := Bx.mk (rdead1 h he); have H := Bx.mk h
  clear h he
  go_enter Try.func101, Try.ntmps101
  go_wp2_with fail
  refine HD.out.mono ?_
  rintro r w1 ⟨rfl, rfl⟩
  go_wp2
  go_ret
  exact rd_same H.out _
set_option maxRecDepth 100000 in
set_option maxHeartbeats 4000000 in
theorem rUint_err (g : Nat) (most : Int) (bs : List UInt8) (L : List Nat) (w : World) (h : RdAt w L g bs 0) (hl : bs.length ≤ 100000000) (u n : Nat) (e0 : Int) (he : e0 ≠ 0) (hr : tk 9 0 0 bs = (u, n, e0)) :
    Calls Try.prog 101 #[.pointer (some ⟨g, 0, none⟩), .int .i64 most] w (R1 w L g (.int .i64 0) bs e0) := by
  have HD := Bx.mk (rdead0 h); have H := Bx.mk h
  have HC := Bx.mk (rtake_err (by omega) (by omega) h hl he hr)
  have he2 : (e0 != 0) = true := by simpa using he
  obtain ⟨⟨a, c, k1, _, _⟩, _, _⟩ := h
  have c1 : (w.setCell ⟨g, 1, none⟩ (.int .i64 e0)).cell? ⟨g, 1, none⟩ = some (.int .i64 e0) := by rw [(k1.setCell 1 (.int .i64 e0)).cell]; rfl
  clear k1 hl he hr
  go_enter Try.func101, Try.ntmps101
  go_wp2_with fail
  refine HD.out.mono ?_
  rintro r w1 ⟨rfl, rfl⟩
  go_wp2_with fail
  refine HC.out.mono ?_
  rintro r w2 ⟨rfl, hw⟩
  rw [← hw] at c1
  have HW := Bx.mk hw; clear hw
  go_wp2
  go_ret
  rw [HW.out]
  exact rd_err H.out _ _
set_option maxRecDepth 100000 in
set_option maxHeartbeats 4000000 in
theorem rUint_ok (g : Nat) (most : Int) (hm : most ≤ 9223372036854775807) (hm2 : -9223372036854775808 ≤ most) (bs : List UInt8) (L : List Nat) (w : World) (h : RdAt w L g bs 0) (hl : bs.length ≤ 100000000) (u n : Nat) (hr : tk 9 0 0 bs = (u, n, 0)) :
    Calls Try.prog 101 #[.pointer (some ⟨g, 0, none⟩), .int .i64 most] w fun r w' =>
      (most < 0 ∨ most < u → R1 w L g (.int .i64 0) bs 5 r w') ∧ (¬ (most < 0 ∨ most < u) → R1 w L g (.int .i64 u) (bs.drop n) 0 r w') := by
  have HD := Bx.mk (rdead0 h); have H := Bx.mk h
  have HC := Bx.mk (rtake_ok (by omega) (by omega) h hl hr)
  have hu := tk9_lt hr
  have hn := (tk_enc0 hr).2.1
  obtain ⟨⟨a, c, k1, k2, k3⟩, _, _⟩ := h
  have c0 : w.cell? ⟨g, 0, none⟩ = some (.slice a bs.length c) := by rw [k1.cell]; rfl
  have c1 : w.cell? ⟨g, 1, none⟩ = some (.int .i64 0) := by rw [k1.cell]; rfl
  have d0 : w.frozen? ⟨g, 0, none⟩ = false := k1.frozen 0
  have d1 : w.frozen? ⟨g, 1, none⟩ = false := k1.frozen 1
  obtain ⟨a2, c2, hsl, hI, hc2⟩ := slice_from (n := n) hn k3 k2
  have RB := fun v => Bx.mk (rd_bytes H.out hI hc2 v)
  have RE := fun v => Bx.mk (rd_err H.out 5 v)
  have f1 : wrap64 (u : Int) = (u : Int) := by unfold wrap64; omega
  have HU := Bx.mk (show (0 : Int) ≤ (u : Int) ∧ (u : Int) ≤ 9223372036854775807 by omega)
  have HM := Bx.mk (And.intro hm hm2)
  clear k1 k2 k3 hI hc2 hr hn hl hu hm hm2 H
  generalize (bs.drop n).length = m at *
  generalize (u : Int) = u at *
  by_cases hm0 : most < 0
  · go_enter Try.func101, Try.ntmps101
    go_wp2_with fail
    refine HD.out.mono ?_
    rintro r w1 ⟨rfl, rfl⟩
    go_wp2_with fail
    refine HC.out.mono ?_
    rintro r w2 ⟨rfl, rfl⟩
    go_wp2
    go_ret
    exact ⟨fun _ => (RE _).out, fun h => absurd (.inl hm0) h⟩
  · have f2 : IntKind.u64.wrap most = most := by rw [IntKind.wrap_u64]; have := HM.out; omega
    by_cases hmu : most < u
    · go_enter Try.func101, Try.ntmps101
      go_wp2_with fail
      refine HD.out.mono ?_
      rintro r w1 ⟨rfl, rfl⟩
      go_wp2_with fail
      refine HC.out.mono ?_
      rintro r w2 ⟨rfl, rfl⟩
      go_wp2
      go_ret
      exact ⟨fun _ => (RE _).out, fun h => absurd (.inr hmu) h⟩
    · go_enter Try.func101, Try.ntmps101
      go_wp2_with fail
      refine HD.out.mono ?_
      rintro r w1 ⟨rfl, rfl⟩
      go_wp2_with fail
      refine HC.out.mono ?_
      rintro r w2 ⟨rfl, rfl⟩
      go_wp2
      go_ret
      exact ⟨fun h => by omega, fun _ => by show R1 _ _ _ (.int .i64 u) _ 0 (.returned (.int .i64 (wrap64 u))) _; rw [f1]; exact (RB _).out⟩
theorem rUint_any (g : Nat) (most : Int) (hm : most ≤ 9223372036854775807) (hm2 : -9223372036854775808 ≤ most) (bs : List UInt8) (e : Int) (L : List Nat) (w : World) (h : RdAt w L g bs e) (hl : bs.length ≤ 100000000) :
    Calls Try.prog 101 #[.pointer (some ⟨g, 0, none⟩), .int .i64 most] w (R1 w L g (.int .i64 (rdUint most bs e).1) (rdUint most bs e).2.1 (rdUint most bs e).2.2) := by
  unfold rdUint
  by_cases he : e = 0
  · subst he
    rw [if_neg (by simp)]
    obtain ⟨u, n, e1, hr⟩ : ∃ u n e1, tk 9 0 0 bs = (u, n, e1) := ⟨_, _, _, rfl⟩
    rw [hr]
    dsimp only
    by_cases he1 : e1 = 0
    · subst he1
      rw [if_neg (by simp)]
      have hC := rUint_ok g most hm hm2 bs L w h hl u n hr
      by_cases hc : most < 0 ∨ most < (u : Int)
      · rw [if_pos hc]; exact hC.mono fun r w' h => h.1 hc
      · rw [if_neg hc]; exact hC.mono fun r w' h => h.2 hc
    · rw [if_pos he1]; exact rUint_err g most bs L w h hl u n e1 he1 hr
  · rw [if_pos he]; exact rUint_dead g most bs e L w h he
/-- What 'End' tells. -/
def rdEnd (bs : List UInt8) (e : Int) : Int := if e = 0 ∧ bs ≠ [] then 4 else e
theorem rEnd_any (g : Nat) (bs : List UInt8) (e : Int) (L : List Nat) (w : World) (h : RdAt w L g bs e) (hl : bs.length ≤ 100000000) :
    Calls Try.prog 91 #[.pointer (some ⟨g, 0, none⟩)] w fun r w' => r = .returned (.int .i64 (rdEnd bs e)) ∧ w' = w := by
  obtain ⟨⟨a, c, k1, k2, k3⟩, _, _⟩ := h
  have c0 : w.cell? ⟨g, 0, none⟩ = some (.slice a bs.length c) := by rw [k1.cell]; rfl
  have c1 : w.cell? ⟨g, 1, none⟩ = some (.int .i64 e) := by rw [k1.cell]; rfl
  clear k1 k2 k3
  unfold rdEnd
  by_cases he : e = 0
  · subst he
    by_cases hb : bs = []
    · subst hb
      rw [if_neg (by simp)]
      have c0' : w.cell? ⟨g, 0, none⟩ = some (.slice a 0 c) := c0
      clear c0 hl
      go_enter Try.func91, Try.ntmps91
      go_wp2
      go_ret
      exact ⟨rfl, rfl⟩
    · rw [if_pos ⟨rfl, hb⟩]
      have hlen : (0 : Int) < (bs.length : Int) := by have := List.length_pos_iff.2 hb; omega
      clear hb
      go_enter Try.func91, Try.ntmps91
      go_wp2
      go_ret
      exact ⟨rfl, rfl⟩
  · rw [if_neg (fun h => he h.1)]
    have heb : (e == 0) = false := by simpa using he
    clear he
    go_enter Try.func91, Try.ntmps91
    go_wp2
    go_ret
    exact ⟨rfl, rfl⟩
theorem rdInt_range (bs : List UInt8) (e : Int) : -9223372036854775808 ≤ (rdInt bs e).1 ∧ (rdInt bs e).1 ≤ 9223372036854775807 := by
  unfold rdInt
  split
  · simp
  · obtain ⟨u, n, e1, hr⟩ : ∃ u n e1, tk 10 0 0 bs = (u, n, e1) := ⟨_, _, _, rfl⟩
    rw [hr]
    dsimp only
    split
    · simp
    · rename_i h
      have h0 : e1 = 0 := Classical.not_not.1 h
      subst h0
      exact zag_range (tk_lt 10 bs 0 0 u n (by omega) (by omega) hr)
theorem rdUint_range (most : Int) (bs : List UInt8) (e : Int) : 0 ≤ (rdUint most bs e).1 ∧ (rdUint most bs e).1 ≤ 9223372036854775807 := by
  unfold rdUint
  split
  · simp
  · obtain ⟨u, n, e1, hr⟩ : ∃ u n e1, tk 9 0 0 bs = (u, n, e1) := ⟨_, _, _, rfl⟩
    rw [hr]
    dsimp only
    split
    · simp
    · rename_i h
      have h0 : e1 = 0 := Classical.not_not.1 h
      subst h0
      split
      · simp
      · have := tk9_lt hr
        show 0 ≤ (u : Int) ∧ (u : Int) ≤ _
        omega
theorem rdLen (bs : List UInt8) (e : Int) : (rdInt bs e).2.1.length ≤ bs.length := by
  unfold rdInt
  split
  · simp
  · dsimp only; split
    · simp
    · simp
theorem rdLenU (most : Int) (bs : List UInt8) (e : Int) : (rdUint most bs e).2.1.length ≤ bs.length := by
  unfold rdUint
  split
  · simp
  · dsimp only; split
    · simp
    · split
      · simp
      · simp
end Go.Proofs.Ytpfmadinijofeaa
end
section
/- The reader's flag and text, walked. -/
namespace Go.Proofs.Ytpfmadinijofeaa
open Go.RowKit
def rdFlag (bs : List UInt8) (e : Int) : Bool × List UInt8 × Int :=
  if e ≠ 0 then (false, bs, e) else match bs with
  | [] => (false, [], 3)
  | x :: r => if 1 < x.toNat then (false, x :: r, 2) else (decide (x.toNat = 1), r, 0)
def rdText (most : Int) (bs : List UInt8) (e : Int) : List UInt8 × List UInt8 × Int :=
  if e ≠ 0 then ([], bs, e) else
  let r := rdUint most bs 0
  if r.2.2 ≠ 0 then ([], r.2.1, r.2.2) else if (r.2.1.length : Int) < r.1 then ([], bs, 3) else (r.2.1.take r.1.toNat, r.2.1.drop r.1.toNat, 0)
theorem in_fr {w w' : World} {L : List Nat} {a a0 : Option Addr} {bs : List UInt8} {n0 c0 g : Nat} {e : Int} (hb : Bk w g #[.slice a0 n0 c0, .int .i64 e] 157) (h : In w L a bs) (hu : Under L w.heap.size) (hf : Fr [g] w w') : In w' L a bs := by
  refine ⟨?_, h.2⟩
  rcases h.1 with h1 | ⟨b, off, rfl, h1⟩
  · exact .inl h1
  · cases bs with
    | nil => exact .inl rfl
    | cons x r =>
      have hbg : b ≠ g := by
        rintro rfl
        have := h1 0 (bV x) rfl
        rw [hb.cell] at this
        generalize off + 0 = j at this
        match j with
        | 0 => cases this
        | 1 => cases this
        | j + 2 => simp at this
      have hbL := h.2 _ rfl (by simp)
      refine .inr ⟨b, off, rfl, fun i v hv => ?_⟩
      rw [← h1 i v hv]
      exact World.cell?_of_block (a := ⟨b, off + i, none⟩) (hf.block b (hu b hbL) (by simpa using hbg))
/-- What 'Text' does. -/
def T1 (w : World) (L : List Nat) (g : Nat) (ts bs : List UInt8) (e : Int) (r : Ending) (w' : World) : Prop :=
  ∃ v, r = .returned v ∧ Own w' w.heap.size 5 1 v ts.length (ts.map bV) ∧ RdAt w' L g bs e ∧ Fr L w w'
set_option maxRecDepth 100000 in
set_option maxHeartbeats 4000000 in
theorem rText_dead (g : Nat) (most : Int) (bs : List UInt8) (e : Int) (L : List Nat) (w : World) (h : RdAt w L g bs e) (he : e ≠ 0) :
    Calls Try.prog 92 #[.pointer (some ⟨g, 0, none⟩), .int .i64 most] w (T1 w L g [] bs e) := by
  have HD := Bx.mk (rdead1 h he); have H := Bx.mk h
  clear h he
  go_enter Try.func92, Try.ntmps92
  go_wp2_with fail
  refine HD.out.mono ?_
  rintro r w1 ⟨rfl, rfl⟩
  go_wp2
  go_ret
  exact ⟨_, rfl, Own.nil _ _ _ _, H.out, Fr.refl _ _⟩
set_option maxRecDepth 100000 in
set_option maxHeartbeats 4000000 in
theorem rText_live (g : Nat) (most : Int) (hm : most ≤ 9223372036854775807) (hm2 : -9223372036854775808 ≤ most) (bs : List UInt8) (L : List Nat) (w : World) (h : RdAt w L g bs 0) (hl : bs.length ≤ 100000000) :
    Calls Try.prog 92 #[.pointer (some ⟨g, 0, none⟩), .int .i64 most] w (T1 w L g (rdText most bs 0).1 (rdText most bs 0).2.1 (rdText most bs 0).2.2) := by
  have HD := Bx.mk (rdead0 h); have H := Bx.mk h
  have HC := rUint_any g most hm hm2 bs 0 L w h hl
  have hr := rdUint_range most bs 0
  have hlen := rdLenU most bs 0
  unfold rdText
  rw [if_neg (by simp)]
  obtain ⟨n, b1, e1, hd⟩ : ∃ n b1 e1, rdUint most bs 0 = (n, b1, e1) := ⟨_, _, _, rfl⟩
  simp only [hd] at HC hr hlen ⊢
  obtain ⟨⟨a, c, k1, k2, k3⟩, k4, k5⟩ := h
  have c0 : w.cell? ⟨g, 0, none⟩ = some (.slice a bs.length c) := by rw [k1.cell]; rfl
  have K1 := Bx.mk k1; have K2 := Bx.mk k2; have K3 := Bx.mk k3; have K4 := Bx.mk k4; have K5 := Bx.mk k5; have HCC := Bx.mk HC
  have HLn := Bx.mk hlen; have HLl := Bx.mk hl
  clear k1 k2 k3 k4 k5 HC hd hlen hl hm hm2
  by_cases he : e1 = 0
  · subst he
    rw [if_neg (by simp)]
    obtain ⟨m, rfl⟩ := Int.eq_ofNat_of_zero_le hr.1
    have hm63 := Bx.mk hr.2
    clear hr
    by_cases hs : (b1.length : Int) < (m : Int)
    · rw [if_pos hs]
      go_enter Try.func92, Try.ntmps92
      go_wp2_with fail
      refine HD.out.mono ?_
      rintro r w1 ⟨rfl, rfl⟩
      go_wp2_with fail
      refine HCC.out.mono ?_
      rintro r w1 ⟨rfl, hr1, hf, hg⟩
      have HD1 := Bx.mk (rdead0 hr1)
      have HF := Bx.mk hf
      have HB := Bx.mk (hr1.setBytes (in_fr K1.out K2.out K5.out hg) K3.out)
      obtain ⟨⟨a1, c1, j1, _, _⟩, _, _⟩ := hr1
      have e0 : w1.cell? ⟨g, 0, none⟩ = some (.slice a1 b1.length c1) := by rw [j1.cell]; rfl
      have d0 : w1.frozen? ⟨g, 0, none⟩ = false := j1.frozen 0
      have d1 : w1.frozen? ⟨g, 1, none⟩ = false := j1.frozen 1
      have e1 : w1.cell? ⟨g, 1, none⟩ = some (.int .i64 0) := by rw [j1.cell]; rfl
      clear hf hg j1
      go_wp2_with fail
      refine HD1.out.mono ?_
      rintro r w2 ⟨rfl, rfl⟩
      go_wp2
      go_ret
      exact ⟨_, rfl, Own.nil _ _ _ _, HB.out.setErr 3, (HF.out.setCell (p := ⟨g, 0, none⟩) (.inl K4.out) _).setCell (p := ⟨g, 1, none⟩) (.inl K4.out) _⟩
    · rw [if_neg hs]
      have hmle : m ≤ b1.length := by omega
      show Calls _ _ _ _ (T1 w L g (b1.take ((m : Int)).toNat) (b1.drop ((m : Int)).toNat) 0)
      rw [Int.toNat_natCast]
      go_enter Try.func92, Try.ntmps92
      go_wp2_with fail
      refine HD.out.mono ?_
      rintro r w1 ⟨rfl, rfl⟩
      go_wp2_with fail
      refine HCC.out.mono ?_
      rintro r w1 ⟨rfl, hr1, hf, hg⟩
      have HD1 := Bx.mk (rdead0 hr1)
      have HF := Bx.mk hf
      have HR1 := Bx.mk hr1
      obtain ⟨⟨a1, c1, j1, j2, j3⟩, _, _⟩ := hr1
      have e0 : w1.cell? ⟨g, 0, none⟩ = some (.slice a1 b1.length c1) := by rw [j1.cell]; rfl
      obtain ⟨a2, c2, hsl, hI, hc2⟩ := slice_from (n := m) hmle j3 j2
      have ht : (b1.take m).length = m := by rw [List.length_take]; omega
      have HRt := Bx.mk (show RowAt w1 a1 ((b1.take m).map bV) by rw [List.map_take]; exact j2.1.take m)
      have J1 := Bx.mk j1; have HI := Bx.mk hI; have HC2 := Bx.mk hc2
      have q0 : (0 : Int) ≤ (m : Int) := by omega
      have q1 : (m : Int) ≤ (c1 : Int) := by omega
      clear hf hg j1 j2 hI hc2 j3
      go_wp2_with fail
      refine HD1.out.mono ?_
      rintro r w2 ⟨rfl, rfl⟩
      go_wp2_with fail
      have HCl := bClone_any a1 c1 (b1.take m) w2 HRt.out (by have := HLn.out; have := HLl.out; omega)
      rw [ht] at HCl
      refine HCl.mono ?_
      rintro r w3 ⟨v, rfl, ho, hb⟩
      have HO := Bx.mk ho
      have HR3 := Bx.mk (HR1.out.below hb)
      have J3 := Bx.mk (J1.out.keep (hb.block g J1.out.lt))
      have HI3 := Bx.mk (HI.out.keep (fun k hk => hb.block k (HR1.out.under k hk)))
      have HF3 := Bx.mk (HF.out.trans (Fr.ofBelow (L := []) hb) (fun k hk => by cases hk))
      have S3 := Bx.mk HF.out.size
      have e3 : w3.cell? ⟨g, 0, none⟩ = some (.slice a1 b1.length c1) := by rw [J3.out.cell]; rfl
      have d3 : w3.frozen? ⟨g, 0, none⟩ = false := J3.out.frozen 0
      clear ho hb HCl
      go_wp2
      go_ret
      refine ⟨_, rfl, ?_, by have h := HR3.out.setBytes HI3.out HC2.out; rw [List.length_drop] at h; exact h, HF3.out.setCell (p := ⟨g, 0, none⟩) (.inl K4.out) _⟩
      rw [ht]
      refine Own.keep (HO.out.base_le fun k hk => Nat.le_trans S3.out (HO.out.lt k hk).1) fun k hk => Below.heap_setCell _ _ _ _ fun e => ?_
      have e2 : k = g := e
      have := (HO.out.lt k hk).1
      have := HR1.out.under g K4.out
      omega
  · rw [if_pos he]
    go_enter Try.func92, Try.ntmps92
    go_wp2_with fail
    refine HD.out.mono ?_
    rintro r w1 ⟨rfl, rfl⟩
    go_wp2_with fail
    refine HCC.out.mono ?_
    rintro r w1 ⟨rfl, hr1, hf, hg⟩
    have HD1 := Bx.mk (rdead1 hr1 he)
    have HF := Bx.mk hf; have HR1 := Bx.mk hr1
    clear hf hg hr1
    go_wp2_with fail
    refine HD1.out.mono ?_
    rintro r w2 ⟨rfl, rfl⟩
    go_wp2
    go_ret
    exact ⟨_, rfl, Own.nil _ _ _ _, HR1.out, HF.out⟩
theorem rText_any (g : Nat) (most : Int) (hm : most ≤ 9223372036854775807) (hm2 : -9223372036854775808 ≤ most) (bs : List UInt8) (e : Int) (L : List Nat) (w : World) (h : RdAt w L g bs e) (hl : bs.length ≤ 100000000) :
    Calls Try.prog 92 #[.pointer (some ⟨g, 0, none⟩), .int .i64 most] w (T1 w L g (rdText most bs e).1 (rdText most bs e).2.1 (rdText most bs e).2.2) := by
  by_cases he : e = 0
  · subst he; exact rText_live g most hm hm2 bs L w h hl
  · have : rdText most bs e = ([], bs, e) := by unfold rdText; rw [if_pos he]
    rw [this]
    exact rText_dead g most bs e L w h he
end Go.Proofs.Ytpfmadinijofeaa
end
section
/- What is read is what was written, and what is written is read: plain laws of the parts. No program in sight. -/
namespace Go.Proofs.Ytpfmadinijofeaa
theorem dead_uint {most : Int} {bs : List UInt8} {e : Int} (he : e ≠ 0) : rdUint most bs e = (0, bs, e) := by unfold rdUint; rw [if_pos he]
theorem dead_int {bs : List UInt8} {e : Int} (he : e ≠ 0) : rdInt bs e = (0, bs, e) := by unfold rdInt; rw [if_pos he]
theorem dead_flag {bs : List UInt8} {e : Int} (he : e ≠ 0) : rdFlag bs e = (false, bs, e) := by unfold rdFlag; rw [if_pos he]
theorem dead_text {most : Int} {bs : List UInt8} {e : Int} (he : e ≠ 0) : rdText most bs e = ([], bs, e) := by unfold rdText; rw [if_pos he]
theorem un_uint {most : Int} {bs : List UInt8} {e : Int} (h : (rdUint most bs e).2.2 = 0) : e = 0 ∧ 0 ≤ (rdUint most bs e).1 ∧ (rdUint most bs e).1 ≤ most ∧ bs = uintB (rdUint most bs e).1 ++ (rdUint most bs e).2.1 := by
  by_cases he : e = 0
  · refine ⟨he, ?_⟩
    subst he
    revert h
    unfold rdUint
    rw [if_neg (by simp)]
    obtain ⟨u, n, e1, hr⟩ : ∃ u n e1, tk 9 0 0 bs = (u, n, e1) := ⟨_, _, _, rfl⟩
    rw [hr]
    dsimp only
    split
    · rename_i h; intro h1; exact absurd h1 h
    rename_i h
    split
    · intro h1; cases h1
    rename_i hm
    intro _
    have h0 : e1 = 0 := Classical.not_not.1 h
    subst h0
    obtain ⟨_, h3, h4⟩ := tk_enc0 hr
    refine ⟨by dsimp only; omega, by dsimp only; omega, ?_⟩
    dsimp only
    unfold uintB
    rw [if_neg (by omega), Int.toNat_natCast, ← h4, List.take_append_drop]
  · rw [dead_uint he] at h; exact absurd h he
theorem un_int {bs : List UInt8} {e : Int} (h : (rdInt bs e).2.2 = 0) : e = 0 ∧ bs = intB (rdInt bs e).1 ++ (rdInt bs e).2.1 := by
  by_cases he : e = 0
  · refine ⟨he, ?_⟩
    subst he
    revert h
    unfold rdInt
    rw [if_neg (by simp)]
    obtain ⟨u, n, e1, hr⟩ : ∃ u n e1, tk 10 0 0 bs = (u, n, e1) := ⟨_, _, _, rfl⟩
    rw [hr]
    dsimp only
    split
    · rename_i h; intro h1; exact absurd h1 h
    rename_i h
    intro _
    have h0 : e1 = 0 := Classical.not_not.1 h
    subst h0
    obtain ⟨_, h3, h4⟩ := tk_enc0 hr
    dsimp only
    unfold intB
    rw [zig_zag, ← h4, List.take_append_drop]
  · rw [dead_int he] at h; exact absurd h he
theorem un_flag {bs : List UInt8} {e : Int} (h : (rdFlag bs e).2.2 = 0) : e = 0 ∧ bs = flagB (rdFlag bs e).1 ++ (rdFlag bs e).2.1 := by
  by_cases he : e = 0
  · refine ⟨he, ?_⟩
    subst he
    revert h
    unfold rdFlag
    rw [if_neg (by simp)]
    cases bs with
    | nil => intro h; cases h
    | cons x r =>
      dsimp only
      split
      · intro h; cases h
      rename_i hx
      intro _
      unfold flagB
      by_cases h1 : x.toNat = 1
      · rw [if_pos (decide_eq_true h1)]
        rw [show x = 1 from UInt8.toNat_inj.1 h1]
        rfl
      · rw [if_neg (by simp [h1])]
        rw [show x = 0 from UInt8.toNat_inj.1 (by show x.toNat = 0; omega)]
        rfl
  · rw [dead_flag he] at h; exact absurd h he
theorem uint_nat {z : Int} (h : 0 ≤ z) : uintB z = grp z.toNat := by unfold uintB; rw [if_neg (by omega)]
theorem un_text {most : Int} {bs : List UInt8} {e : Int} (h : (rdText most bs e).2.2 = 0) : e = 0 ∧ ((rdText most bs e).1.length : Int) ≤ most ∧ bs = textB (rdText most bs e).1 ++ (rdText most bs e).2.1 := by
  by_cases he : e = 0
  · refine ⟨he, ?_⟩
    subst he
    revert h
    unfold rdText
    rw [if_neg (by simp)]
    have hu := un_uint (most := most) (bs := bs) (e := 0)
    revert hu
    generalize rdUint most bs 0 = q
    obtain ⟨z, cs, e1⟩ := q
    dsimp only
    intro hu
    split
    · rename_i h; intro h1; exact absurd h1 h
    rename_i h
    have h0 : e1 = 0 := Classical.not_not.1 h
    obtain ⟨_, k1, k2, k3⟩ := hu h0
    split
    · intro h1; cases h1
    rename_i h2
    intro _
    dsimp only
    have hl : (cs.take z.toNat).length = z.toNat := by rw [List.length_take]; omega
    refine ⟨by rw [hl]; omega, ?_⟩
    unfold textB
    rw [hl, List.append_assoc, List.take_append_drop, ← uint_nat k1]
    exact k3
  · rw [dead_text he] at h; exact absurd h he
theorem ck_grp {m : Nat} {most : Int} (h : (m : Int) ≤ most) (h1 : m < 9223372036854775808) (rest : List UInt8) : rdUint most (grp m ++ rest) 0 = ((m : Int), rest, 0) := by
  unfold rdUint
  rw [if_neg (by simp), tk_dec0 rest (by omega) (grp_len 8 m (by omega))]
  dsimp only
  rw [if_neg (by simp), if_neg (by omega), List.drop_left]
theorem ck_uint {n most : Int} (h0 : 0 ≤ n) (h1 : n ≤ 9223372036854775807) (h2 : n ≤ most) (rest : List UInt8) : rdUint most (uintB n ++ rest) 0 = (n, rest, 0) := by
  rw [uint_nat h0, ck_grp (by omega) (by omega), Int.toNat_of_nonneg h0]
theorem ck_int {n : Int} (h0 : -9223372036854775808 ≤ n) (h1 : n ≤ 9223372036854775807) (rest : List UInt8) : rdInt (intB n ++ rest) 0 = (n, rest, 0) := by
  unfold rdInt intB
  rw [if_neg (by simp), tk_dec0 rest (zig_lt h0 h1) (grp_len64 (zig_lt h0 h1))]
  dsimp only
  rw [if_neg (by simp), List.drop_left, zag_zig]
theorem ck_flag (y : Bool) (rest : List UInt8) : rdFlag (flagB y ++ rest) 0 = (y, rest, 0) := by
  cases y <;> rfl
theorem ck_text {ts : List UInt8} {most : Int} (h : (ts.length : Int) ≤ most) (h2 : ts.length ≤ 100000000) (rest : List UInt8) : rdText most (textB ts ++ rest) 0 = (ts, rest, 0) := by
  unfold rdText textB
  rw [if_neg (by simp), List.append_assoc, ck_grp h (by omega)]
  dsimp only
  rw [if_neg (by simp), if_neg (by rw [List.length_append]; omega), Int.toNat_natCast, List.take_left, List.drop_left]
theorem end_zero {bs : List UInt8} {e : Int} (h : rdEnd bs e = 0) : e = 0 ∧ bs = [] := by
  unfold rdEnd at h
  split at h
  · cases h
  · rename_i h2
    subst h
    exact ⟨rfl, Classical.byContradiction fun h3 => h2 ⟨rfl, h3⟩⟩
theorem end_dead {bs : List UInt8} {e : Int} (h : e ≠ 0) : rdEnd bs e = e := by unfold rdEnd; rw [if_neg (fun h2 => h h2.1)]
theorem end_nil : rdEnd [] 0 = 0 := rfl
theorem uint_le {most : Int} {bs : List UInt8} {e : Int} (h : 0 ≤ most) : (rdUint most bs e).1 ≤ most := by
  unfold rdUint
  split
  · exact h
  dsimp only
  split
  · exact h
  split
  · exact h
  · dsimp only; omega
theorem text_le {most : Int} {bs : List UInt8} {e : Int} (h : 0 ≤ most) : ((rdText most bs e).1.length : Int) ≤ most := by
  unfold rdText
  split
  · exact h
  have hu := uint_le (bs := bs) (e := 0) h
  have hr := (rdUint_range most bs 0).1
  generalize rdUint most bs 0 = q at *
  dsimp only
  split
  · exact h
  split
  · exact h
  · rw [List.length_take]; omega
theorem text_len {most : Int} {bs : List UInt8} {e : Int} : (rdText most bs e).1.length ≤ bs.length ∧ (rdText most bs e).2.1.length ≤ bs.length := by
  have hu := rdLenU most bs 0
  unfold rdText
  split
  · exact ⟨Nat.zero_le _, Nat.le_refl _⟩
  dsimp only
  split
  · exact ⟨Nat.zero_le _, hu⟩
  split
  · exact ⟨Nat.zero_le _, Nat.le_refl _⟩
  · dsimp only
    rw [List.length_take, List.length_drop]
    omega
theorem uint_len10 {n : Int} (h : n ≤ 9223372036854775807) : (uintB n).length ≤ 10 := by
  unfold uintB
  split
  · exact Nat.zero_le _
  · exact grp_len64 (by omega)
theorem int_len10 {n : Int} (h1 : -9223372036854775808 ≤ n) (h2 : n ≤ 9223372036854775807) : (intB n).length ≤ 10 := grp_len64 (zig_lt h1 h2)
theorem textB_len {ts : List UInt8} (h : ts.length ≤ 100000000) : (textB ts).length ≤ ts.length + 10 := by
  unfold textB
  rw [List.length_append]
  have := grp_len64 (u := ts.length) (by omega)
  omega
theorem flag_len {bs : List UInt8} {e : Int} : (rdFlag bs e).2.1.length ≤ bs.length := by
  unfold rdFlag
  split
  · exact Nat.le_refl _
  cases bs with
  | nil => exact Nat.le_refl _
  | cons x r =>
    dsimp only
    split
    · exact Nat.le_refl _
    · simp
end Go.Proofs.Ytpfmadinijofeaa
end
section
/- A log of groups of records (layer 5), as functions. No program in sight. -/
namespace Go.Proofs.Ytpfmadinijofeaa
open Go.RowKit
abbrev Grp := List (List UInt8)
def grpB (g : Grp) : List UInt8 := g.flatMap textB
def secN (n : Nat) : Nat := if n ≤ 39 then 1 else 1 + (n + 23) / 63
theorem secN_pos (n : Nat) : 1 ≤ secN n := by unfold secN; split <;> omega
def labH (gen n len : Nat) : List UInt8 := beB gen 8 ++ beB n 8 ++ beB len 4
theorem labH_len (gen n len : Nat) : (labH gen n len).length = 20 := by simp [labH, beB_len]
def labelB (gen n : Nat) (b : List UInt8) : List UInt8 := labH gen n b.length ++ beB (more 0 (labH gen n b.length ++ b)) 4
theorem labelB_len (gen n : Nat) (b : List UInt8) : (labelB gen n b).length = 24 := by simp [labelB, labH_len, beB_len]
def headRaw (gen n : Nat) (b : List UInt8) : List UInt8 := [1] ++ labelB gen n b ++ b.take 39
def headF (gen n : Nat) (b : List UInt8) : List UInt8 := bodyB (headRaw gen n b)
theorem headRaw_len (gen n : Nat) (b : List UInt8) : (headRaw gen n b).length = 25 + min 39 b.length := by
  simp [headRaw, labelB_len, List.length_take]
  omega
theorem headF_len (gen n : Nat) (b : List UInt8) : (headF gen n b).length = 64 := by
  unfold headF
  rw [bodyB_len, headRaw_len]
  omega
def pieceF (b : List UInt8) (i : Nat) : List UInt8 := bodyB (2 :: (b.drop (63 * i)).take 63)
theorem pieceF_len (b : List UInt8) (i : Nat) : (pieceF b i).length = 64 := by
  unfold pieceF
  rw [bodyB_len, List.length_cons, List.length_take, List.length_drop]
  omega
def tailN (b : List UInt8) (n : Nat) : List UInt8 := (List.range n).flatMap (pieceF b)
theorem tailN_succ (b : List UInt8) (n : Nat) : tailN b (n + 1) = tailN b n ++ pieceF b n := by
  unfold tailN
  rw [List.range_succ, List.flatMap_append]
  simp
theorem tailN_len (b : List UInt8) : ∀ n, (tailN b n).length = n * 64
  | 0 => rfl
  | n + 1 => by rw [tailN_succ, List.length_append, tailN_len b n, pieceF_len]; omega
def tailF (b : List UInt8) : List UInt8 := tailN (b.drop 39) (secN b.length - 1)
theorem tailF_len (b : List UInt8) : (tailF b).length = (secN b.length - 1) * 64 := tailN_len _ _
theorem pieceB_tail (b : List UInt8) {n i : Nat} (hi : i < n) : pieceB (tailN b n) i = pieceF b i := by
  unfold pieceB
  induction n with
  | zero => omega
  | succ n ih =>
    rw [tailN_succ]
    have hl := tailN_len b n
    by_cases h : i < n
    · rw [List.drop_append_of_le_length (by omega), List.take_append_of_le_length (by rw [List.length_drop]; omega)]
      exact ih h
    · obtain rfl : i = n := by omega
      rw [List.drop_append_of_le_length (by omega), List.drop_of_length_le (by omega), List.nil_append, List.take_of_length_le (by rw [pieceF_len]; omega)]
structure LG where
  first : Nat
  size : Nat
  gen : Nat
  used : Nat
  groups : Nat
def apE (S : DS) (L : LG) (g : Grp) : Int :=
  if g = [] then 0 else if L.size - L.used < secN (grpB g).length then 11
  else if pwE S ((L.first + L.used + 1 : Nat) : Int) (tailF (grpB g)) ≠ 0 then pwE S ((L.first + L.used + 1 : Nat) : Int) (tailF (grpB g))
  else pwE (pwD S ((L.first + L.used + 1 : Nat) : Int) (tailF (grpB g))) ((L.first + L.used : Nat) : Int) (headF L.gen L.groups (grpB g))
def apD (S : DS) (L : LG) (g : Grp) : DS :=
  if g = [] then S else if L.size - L.used < secN (grpB g).length then S
  else if pwE S ((L.first + L.used + 1 : Nat) : Int) (tailF (grpB g)) ≠ 0 then pwD S ((L.first + L.used + 1 : Nat) : Int) (tailF (grpB g))
  else pwD (pwD S ((L.first + L.used + 1 : Nat) : Int) (tailF (grpB g))) ((L.first + L.used : Nat) : Int) (headF L.gen L.groups (grpB g))
def apL (S : DS) (L : LG) (g : Grp) : LG := if g ≠ [] ∧ apE S L g = 0 then ⟨L.first, L.size, L.gen, L.used + secN (grpB g).length, L.groups + 1⟩ else L
theorem DWf.ap {S : DS} (h : DWf S) (L : LG) (g : Grp) : DWf (apD S L g) := by
  unfold apD
  split
  · exact h
  · split
    · exact h
    · split
      · exact h.pw _ _
      · exact (h.pw _ _).pw _ _
/-! Reading. -/
def headP (gen n : Nat) : List UInt8 := [1] ++ beB gen 8 ++ beB n 8
theorem headP_len (gen n : Nat) : (headP gen n).length = 17 := by simp [headP, beB_len]
theorem headF_eq (gen n : Nat) (b : List UInt8) : headF gen n b = headP gen n ++ (beB b.length 4 ++ (beB (more 0 (labH gen n b.length ++ b)) 4 ++ (b.take 39 ++ zerosB (39 - min 39 b.length)))) := by
  unfold headF bodyB
  rw [headRaw_len, show (64 - (25 + min 39 b.length) % 64) % 64 = 39 - min 39 b.length by omega]
  unfold headRaw labelB labH headP
  simp only [List.append_assoc]
theorem headF_take17 (gen n : Nat) (b : List UInt8) : (headF gen n b).take 17 = headP gen n := by
  rw [headF_eq, List.take_append_of_le_length (by rw [headP_len]; omega), List.take_of_length_le (by rw [headP_len]; omega)]
theorem headF_num (gen n : Nat) (b : List UInt8) : ((headF gen n b).drop 17).take 4 = beB b.length 4 := by
  rw [headF_eq, List.drop_append_of_le_length (by rw [headP_len]; omega), List.drop_of_length_le (by rw [headP_len]; omega), List.nil_append, List.take_append_of_le_length (by rw [beB_len]; omega), List.take_of_length_le (by rw [beB_len]; omega)]
theorem headF_label (gen n : Nat) (b : List UInt8) : ((headF gen n b).drop 1).take 24 = labelB gen n b := by
  have e : headF gen n b = 1 :: (labelB gen n b ++ (b.take 39 ++ zerosB (39 - min 39 b.length))) := by
    rw [headF_eq]
    unfold headP labelB labH
    simp only [List.append_assoc, List.singleton_append, List.cons_append, List.nil_append]
  rw [e, List.drop_succ_cons, List.drop_zero, List.take_append_of_le_length (by rw [labelB_len]; omega), List.take_of_length_le (by rw [labelB_len]; omega)]
theorem headF_data (gen n : Nat) (b : List UInt8) : (headF gen n b).drop 25 = b.take 39 ++ zerosB (39 - min 39 b.length) := by
  have e : headF gen n b = (1 :: labelB gen n b) ++ (b.take 39 ++ zerosB (39 - min 39 b.length)) := by
    rw [headF_eq]
    unfold headP labelB labH
    simp only [List.append_assoc, List.singleton_append, List.cons_append, List.nil_append]
  rw [e, List.drop_append_of_le_length (by simp [labelB_len]), List.drop_of_length_le (by simp [labelB_len]), List.nil_append]
/-- What comes together of the sectors behind the head. -/
def joinN (f : Nat → List UInt8) (n : Nat) : List UInt8 := (List.range n).flatMap fun i => ((f i).drop 1).take 63
theorem joinN_succ (f : Nat → List UInt8) (n : Nat) : joinN f (n + 1) = joinN f n ++ ((f n).drop 1).take 63 := by
  unfold joinN
  rw [List.range_succ, List.flatMap_append]
  simp
theorem piece_data (b : List UInt8) (i : Nat) (h : 63 * i < b.length) : ((pieceF b i).drop 1).take 63 = (b.drop (63 * i)).take 63 ++ zerosB (63 - min 63 (b.length - 63 * i)) := by
  unfold pieceF bodyB
  rw [List.length_cons, List.length_take, List.length_drop, show (64 - (min 63 (b.length - 63 * i) + 1) % 64) % 64 = 63 - min 63 (b.length - 63 * i) by omega]
  rw [List.cons_append, List.drop_succ_cons, List.drop_zero, List.take_of_length_le (by simp [zerosB, List.length_take]; omega)]
theorem join_take (b : List UInt8) : ∀ n, (n = 0 ∨ 63 * (n - 1) < b.length) → (joinN (pieceF b) n).take b.length = b.take (63 * n) ∧ min b.length (63 * n) ≤ (joinN (pieceF b) n).length
  | 0, _ => by simp [joinN]
  | n + 1, h => by
    have hn : 63 * n < b.length := by
      rcases h with h | h
      · omega
      · rw [Nat.add_sub_cancel] at h; exact h
    obtain ⟨h1, h2⟩ := join_take b n (by
      rcases Nat.eq_zero_or_pos n with e | e
      · exact .inl e
      · right; omega)
    have hl : (joinN (pieceF b) n).length = 63 * n := by
      unfold joinN
      rw [List.length_flatMap]
      have : ∀ m, m ≤ n → ((List.range m).map fun i => (((pieceF b i).drop 1).take 63).length).sum = 63 * m := by
        intro m hm
        induction m with
        | zero => rfl
        | succ m ih =>
          rw [List.range_succ, List.map_append, List.sum_append, ih (by omega)]
          simp only [List.map_cons, List.map_nil, List.sum_cons, List.sum_nil]
          rw [List.length_take, List.length_drop, pieceF_len]
          omega
      exact this n (Nat.le_refl _)
    have e1 : joinN (pieceF b) n = b.take (63 * n) := by
      rw [← h1, List.take_of_length_le (by omega)]
    rw [joinN_succ, e1, piece_data b n hn]
    refine ⟨?_, ?_⟩
    · rw [← List.append_assoc, ← List.take_add, show 63 * n + 63 = 63 * (n + 1) by omega]
      by_cases hc : b.length ≤ 63 * (n + 1)
      · rw [List.take_of_length_le hc, List.take_append_of_le_length (Nat.le_refl _), List.take_length]
      · rw [show 63 - min 63 (b.length - 63 * n) = 0 by omega]
        show (b.take (63 * (n + 1)) ++ []).take b.length = _
        rw [List.append_nil, List.take_take, Nat.min_eq_right (by omega)]
    · rw [List.length_append, List.length_append, List.length_take, List.length_take, List.length_drop]
      omega
/-- The whole group comes together. -/
theorem group_join (gen n : Nat) (b : List UInt8) : (((headF gen n b).drop 25) ++ joinN (pieceF (b.drop 39)) (secN b.length - 1)).take b.length = b := by
  rw [headF_data]
  by_cases h : b.length ≤ 39
  · have : secN b.length - 1 = 0 := by unfold secN; rw [if_pos h]
    rw [this]
    show ((b.take 39 ++ zerosB _) ++ []).take b.length = b
    rw [List.append_nil, List.take_of_length_le h, List.take_append_of_le_length (Nat.le_refl _), List.take_length]
  · have hs : secN b.length - 1 = (b.length + 23) / 63 := by unfold secN; rw [if_neg h]; omega
    rw [hs, show 39 - min 39 b.length = 0 by omega]
    show ((b.take 39 ++ []) ++ _).take b.length = b
    rw [List.append_nil]
    have hd : (b.drop 39).length = b.length - 39 := List.length_drop
    obtain ⟨h1, h2⟩ := join_take (b.drop 39) ((b.length + 23) / 63) (by right; omega)
    have e : b.length = 39 + (b.drop 39).length := by omega
    have h39 : (b.take 39).length = 39 := by rw [List.length_take]; omega
    have : (b.take 39 ++ joinN (pieceF (b.drop 39)) ((b.length + 23) / 63)).take (39 + (b.drop 39).length) = b.take 39 ++ (joinN (pieceF (b.drop 39)) ((b.length + 23) / 63)).take (b.drop 39).length := by
      rw [List.take_append, h39, List.take_of_length_le (by omega), Nat.add_sub_cancel_left]
    rw [show b.take 39 ++ joinN (pieceF (b.drop 39)) ((b.length + 23) / 63) = b.take 39 ++ joinN (pieceF (b.drop 39)) ((b.length + 23) / 63) from rfl]
    calc (b.take 39 ++ joinN (pieceF (b.drop 39)) ((b.length + 23) / 63)).take b.length
        = (b.take 39 ++ joinN (pieceF (b.drop 39)) ((b.length + 23) / 63)).take (39 + (b.drop 39).length) := by rw [← e]
      _ = b.take 39 ++ (joinN (pieceF (b.drop 39)) ((b.length + 23) / 63)).take (b.drop 39).length := this
      _ = b.take 39 ++ b.drop 39 := by rw [h1, List.take_of_length_le (l := b.drop 39) (by omega)]
      _ = b := List.take_append_drop 39 b
end Go.Proofs.Ytpfmadinijofeaa
end
section
/- Conditions of functions, printed by a program of this claim's own (vcgen.py) out of the loaded code; each is proved to be enough. -/
set_option maxRecDepth 100000
namespace Go.Proofs.Ytpfmadinijofeaa
open Go.RowKit
namespace GDk
def env : Env := ⟨[(3, ⟨.int .i64, 1, .int .i64 0, 8, [.int .i64]⟩), (4, ⟨.bool, 1, .bool false, 1, [.bool]⟩), (5, ⟨.int .u8, 1, .int .u8 0, 1, [.int .u8]⟩), (22, ⟨.slice 5, 1, .slice none 0 0, 24, [.slice]⟩), (24, ⟨.ptr, 1, .pointer none, 8, [.ptr]⟩), (44, ⟨.slice 22, 1, .slice none 0 0, 24, [.slice]⟩), (60, ⟨.slice 3, 1, .slice none 0 0, 24, [.slice]⟩), (64, ⟨.slice 4, 1, .slice none 0 0, 24, [.slice]⟩), (94, ⟨.slice 110, 1, .slice none 0 0, 24, [.slice]⟩), (95, ⟨.map 3 110, 1, .map none, 8, [.map]⟩), (97, ⟨.struct [(0, 94), (1, 95), (2, 3), (3, 4)], 4, .agg #[.slice none 0 0, .map none, .int .i64 0, .bool false], 48, [.slice, .map, .int .i64, .bool]⟩), (110, ⟨.arr 64 5, 64, .agg (List.replicate 64 (.int .u8 0)).toArray, 64, [.bytes 64]⟩)], [(36, [.lf (.slice)]), (53, [.lf (.int .i64)]), (54, [.lf (.slice)]), (55, [.lf (.any)]), (56, [.lf (.bool)]), (68, [.lf (.slice)]), (69, [.lf (.any)])], []⟩
theorem ty3 : TyOk Try.prog 3 ⟨.int .i64, 1, .int .i64 0, 8, [.int .i64]⟩ := tyok (by kernel_rfl) (by kernel_rfl)
theorem ty4 : TyOk Try.prog 4 ⟨.bool, 1, .bool false, 1, [.bool]⟩ := tyok (by kernel_rfl) (by kernel_rfl)
theorem ty5 : TyOk Try.prog 5 ⟨.int .u8, 1, .int .u8 0, 1, [.int .u8]⟩ := tyok (by kernel_rfl) (by kernel_rfl)
theorem ty22 : TyOk Try.prog 22 ⟨.slice 5, 1, .slice none 0 0, 24, [.slice]⟩ := tyok (by kernel_rfl) (by kernel_rfl)
theorem ty24 : TyOk Try.prog 24 ⟨.ptr, 1, .pointer none, 8, [.ptr]⟩ := tyok (by kernel_rfl) (by kernel_rfl)
theorem ty44 : TyOk Try.prog 44 ⟨.slice 22, 1, .slice none 0 0, 24, [.slice]⟩ := tyok (by kernel_rfl) (by kernel_rfl)
theorem ty60 : TyOk Try.prog 60 ⟨.slice 3, 1, .slice none 0 0, 24, [.slice]⟩ := tyok (by kernel_rfl) (by kernel_rfl)
theorem ty64 : TyOk Try.prog 64 ⟨.slice 4, 1, .slice none 0 0, 24, [.slice]⟩ := tyok (by kernel_rfl) (by kernel_rfl)
theorem ty94 : TyOk Try.prog 94 ⟨.slice 110, 1, .slice none 0 0, 24, [.slice]⟩ := tyok (by kernel_rfl) (by kernel_rfl)
theorem ty95 : TyOk Try.prog 95 ⟨.map 3 110, 1, .map none, 8, [.map]⟩ := tyok (by kernel_rfl) (by kernel_rfl)
theorem ty97 : TyOk Try.prog 97 ⟨.struct [(0, 94), (1, 95), (2, 3), (3, 4)], 4, .agg #[.slice none 0 0, .map none, .int .i64 0, .bool false], 48, [.slice, .map, .int .i64, .bool]⟩ := tyok (by kernel_rfl) (by kernel_rfl)
theorem ty110 : TyOk Try.prog 110 ⟨.arr 64 5, 64, .agg (List.replicate 64 (.int .u8 0)).toArray, 64, [.bytes 64]⟩ := tyok (by kernel_rfl) (by kernel_rfl)
theorem fn36 : FnOk Try.prog 36 := fnok Try.func36 (by kernel_rfl) (by kernel_rfl)
theorem fn53 : FnOk Try.prog 53 := fnok Try.func53 (by kernel_rfl) (by kernel_rfl)
theorem fn54 : FnOk Try.prog 54 := fnok Try.func54 (by kernel_rfl) (by kernel_rfl)
theorem fn55 : FnOk Try.prog 55 := fnok Try.func55 (by kernel_rfl) (by kernel_rfl)
theorem fn56 : FnOk Try.prog 56 := fnok Try.func56 (by kernel_rfl) (by kernel_rfl)
theorem fn68 : FnOk Try.prog 68 := fnok Try.func68 (by kernel_rfl) (by kernel_rfl)
theorem fn69 : FnOk Try.prog 69 := fnok Try.func69 (by kernel_rfl) (by kernel_rfl)
theorem envOk : EOk Try.prog env := ⟨(by simp only [env, List.forall_mem_cons, List.not_mem_nil, false_implies, implies_true, and_true]; exact ⟨ty3, ty4, ty5, ty22, ty24, ty44, ty60, ty64, ty94, ty95, ty97, ty110⟩), (by simp only [env, List.forall_mem_cons, List.not_mem_nil, false_implies, implies_true, and_true]; exact ⟨fn36, fn53, fn54, fn55, fn56, fn68, fn69⟩), by kernel_rfl, (fun _ h => by cases h)⟩
/-- purser/disk.New -/
def dnew_vc (x0 : Int) (w : World) (K : Value → World → Prop) : Prop :=
  br (decide (x0 < 1)) (
    K (.tuple #[.pointer none, .int .i64 1]) w
  ) (
    br (decide (x0 > 8192)) (
      K (.tuple #[.pointer none, .int .i64 1]) w
    ) (
      (0 : Int) ≤ x0 ∧ x0 ≤ x0 ∧ ((64 : Nat) : Int) * x0 ≤ 281474976710656 ∧ x0 ≤ 9223372036854775807 ∧
      newO w (.cells (madeCells (Value.cells (.agg (List.replicate 64 (.int .u8 0)).toArray)) (x0.toNat * 64)) 110) fun g w_2 =>
      newO w_2 (.map #[] 0) fun g_2 w_3 =>
      newO w_3 (.cells #[.slice (some ⟨g, 0, none⟩) x0.toNat x0.toNat, .map (some g_2), .int .i64 0, .bool false] 97) fun g_3 w_4 =>
      K (.tuple #[.pointer (some ⟨g_3, 0, none⟩), .int .i64 0]) w_4
    )
  )
def dnew_notes : Notes := ⟨[], [], [], []⟩
theorem dnew_calls (x0 : Int) (w : World) (K : Value → World → Prop) (h : dnew_vc x0 w K) : Calls Try.prog 13 #[.int .i64 x0] w fun e w' => ∃ v, e = .returned v ∧ K v w' :=
  calls_of_fvc envOk Try.func13 dnew_notes [] [.int .i64 x0] w K (use_vc h (by as_aux_lemma => kernel_rfl))
/-- (*purser/disk.Disk).may -/
def dmay_vc (p0 : Option Addr) (x1 : Int) (x2 : Int) (w : World) (K : Value → World → Prop) : Prop :=
  br (Option.isNone p0) (
    K (.int .i64 1) w
  ) (
    withP p0 fun g12 o12 =>
    ∃ (b14 : Bool), w.cell? ⟨g12, o12 + 3, none⟩ = some (.bool b14) ∧
    br b14 (
      K (.int .i64 12) w
    ) (
      br (decide (x1 < 0)) (
        K (.int .i64 1) w
      ) (
        br (decide (x2 < 0)) (
          K (.int .i64 1) w
        ) (
          withP p0 fun g25 o25 =>
          ∃ (a27 : Option Addr) (n27 : Nat) (c27 : Nat), w.cell? ⟨g25, o25, none⟩ = some (.slice a27 n27 c27) ∧
          br (decide (x1 > ((n27 : Nat) : Int))) (
            K (.int .i64 1) w
          ) (
            withP p0 fun g34 o34 =>
            ∃ (a36 : Option Addr) (n36 : Nat) (c36 : Nat), w.cell? ⟨g34, o34, none⟩ = some (.slice a36 n36 c36) ∧
            br (decide (x2 > (IntKind.i64.wrap (((n36 : Nat) : Int) - x1)))) (
              K (.int .i64 1) w
            ) (
              K (.int .i64 0) w
            )
          )
        )
      )
    )
  )
def dmay_notes : Notes := ⟨[], [], [], []⟩
theorem dmay_calls (p0 : Option Addr) (x1 : Int) (x2 : Int) (w : World) (K : Value → World → Prop) (h : dmay_vc p0 x1 x2 w K) : Calls Try.prog 53 #[.pointer p0, .int .i64 x1, .int .i64 x2] w fun e w' => ∃ v, e = .returned v ∧ K v w' :=
  calls_of_fvc envOk Try.func53 dmay_notes [] [.pointer p0, .int .i64 x1, .int .i64 x2] w K (use_vc h (by as_aux_lemma => kernel_rfl))
/-- (*purser/disk.Disk).Size -/
def dsize_vc (p0 : Option Addr) (w : World) (K : Value → World → Prop) : Prop :=
  br (Option.isNone p0) (
    K (.int .i64 0) w
  ) (
    withP p0 fun g6 o6 =>
    ∃ (a8 : Option Addr) (n8 : Nat) (c8 : Nat), w.cell? ⟨g6, o6, none⟩ = some (.slice a8 n8 c8) ∧
    K (.int .i64 ((n8 : Nat) : Int)) w
  )
def dsize_notes : Notes := ⟨[], [], [], []⟩
theorem dsize_calls (p0 : Option Addr) (w : World) (K : Value → World → Prop) (h : dsize_vc p0 w K) : Calls Try.prog 58 #[.pointer p0] w fun e w' => ∃ v, e = .returned v ∧ K v w' :=
  calls_of_fvc envOk Try.func58 dsize_notes [] [.pointer p0] w K (use_vc h (by as_aux_lemma => kernel_rfl))
/-- (*purser/disk.Disk).Read -/
def dread_vc (p0 : Option Addr) (x1 : Int) (x2 : Int) (w : World) (K : Value → World → Prop) : Prop :=
  Calls Try.prog 53 #[.pointer p0, .int .i64 x1, .int .i64 x2] w fun e w_2 => KeepG [] w w_2 ∧
  ∃ (x16 : Int),
  e = .returned (.int .i64 x16) ∧
  br (decide (x16 ≠ 0)) (
    K (.tuple #[.slice none 0 0, .int .i64 x16]) w_2
  ) (
    ∃ (I : Option Addr → Nat → Nat → Int → World → Prop) (μ : Option Addr → Nat → Nat → Int → World → Nat),
    I none 0 0 0 w_2 ∧
    ∀ (a9 : Option Addr) (n9 : Nat) (c9 : Nat) (x21 : Int) (w_3 : World), I a9 n9 c9 x21 w_3 →
    br (decide (x21 < x2)) (
      withP p0 fun g26 o26 =>
      ∃ (mb28 : Option Nat), w_3.cell? ⟨g26, o26 + 1, none⟩ = some (.map mb28) ∧
      ∃ bs32_0 : List UInt8, bs32_0.length = 64 ∧
      ∃ b32_ok : Bool,
      (∃ r, MLk w_3 mb28 (IntKind.i64.wrap (x1 + x21)) r ∧ r.getD (.agg (List.replicate 64 (.int .u8 0)).toArray) = (.agg (bs32_0.map bV).toArray) ∧ r.isSome = b32_ok) ∧
      newO w_3 (.cells (List.replicate 64 (.int .u8 0)).toArray 110) fun g w_4 =>
      cond (Nat.beq (bs32_0.map bV).length 64) (cond (allOne (bs32_0.map bV)) (
        stO [] w_4 g 0 (bs32_0.map bV) fun w_5 =>
        br (!b32_ok) (
          withP p0 fun g38 o38 =>
          ∃ (a40 : Option Addr) (n40 : Nat) (c40 : Nat), w_5.cell? ⟨g38, o38, none⟩ = some (.slice a40 n40 c40) ∧
          withP a40 fun g44 o44 =>
          (0 : Int) ≤ IntKind.i64.wrap (x1 + x21) ∧ IntKind.i64.wrap (x1 + x21) < (((n40 : Nat) : Int) : Int) ∧
          ∃ bs45_0 : List UInt8, bs45_0.length = 64 ∧
          cellsAt w_5 g44 (o44 + (IntKind.i64.wrap (x1 + x21)).toNat * 64) (bs45_0.map bV) ∧
          cond (Nat.beq (bs45_0.map bV).length 64) (cond (allOne (bs45_0.map bV)) (
            stO [] w_5 g 0 (bs45_0.map bV) fun w_6 =>
            appO Try.prog [] w_6 5 1 1 22 a9 n9 c9 (.slice (some ⟨g, 0, none⟩) 64 64) fun m48_2 a48_2 c48_2 w_10 =>
            I a48_2 (n9 + m48_2) c48_2 (IntKind.i64.wrap (x21 + 1)) w_10 ∧ μ a48_2 (n9 + m48_2) c48_2 (IntKind.i64.wrap (x21 + 1)) w_10 < μ a9 n9 c9 x21 w_3
          ) False) False
        ) (
          appO Try.prog [] w_5 5 1 1 22 a9 n9 c9 (.slice (some ⟨g, 0, none⟩) 64 64) fun m48_3 a48_3 c48_3 w_11 =>
          I a48_3 (n9 + m48_3) c48_3 (IntKind.i64.wrap (x21 + 1)) w_11 ∧ μ a48_3 (n9 + m48_3) c48_3 (IntKind.i64.wrap (x21 + 1)) w_11 < μ a9 n9 c9 x21 w_3
        )
      ) False) False
    ) (
      K (.tuple #[.slice a9 n9 c9, .int .i64 0]) w_3
    )
  )
def dread_notes : Notes := ⟨[], [(6, ⟨[(9, .lf (.slice)), (21, .lf (.int .i64))], [], [22, 23, 10, 25, 26, 27, 28, 29, 30, 31, 32, 24, 33, 34, 11, 12, 35, 36, 37, 38, 39, 40, 41, 42, 43, 44, 45, 46, 47, 48, 9, 49, 21], []⟩)], [], []⟩
theorem dread_calls (p0 : Option Addr) (x1 : Int) (x2 : Int) (w : World) (K : Value → World → Prop) (h : dread_vc p0 x1 x2 w K) : Calls Try.prog 18 #[.pointer p0, .int .i64 x1, .int .i64 x2] w fun e w' => ∃ v, e = .returned v ∧ K v w' :=
  calls_of_fvc envOk Try.func18 dread_notes [] [.pointer p0, .int .i64 x1, .int .i64 x2] w K (use_vc h (by as_aux_lemma => kernel_rfl))
/-- (*purser/disk.Disk).put -/
def dput_vc (p0 : Option Addr) (x1 : Int) (a2 : Option Addr) (n2 : Nat) (c2 : Nat) (w : World) (K : Value → World → Prop) : Prop :=
  drewO w fun w_2 =>
  withP p0 fun g8 o8 =>
  ∃ (mb10 : Option Nat), w_2.cell? ⟨g8, o8 + 1, none⟩ = some (.map mb10) ∧
  withP a2 fun g13 o13 =>
  64 ≤ n2 ∧
  ∃ bs14_0 : List UInt8, bs14_0.length = 64 ∧
  cellsAt w_2 g13 o13 (bs14_0.map bV) ∧
  mapO w_2 mb10 (fun m => putM m x1 (.agg (bs14_0.map bV).toArray)) fun w_3 =>
  withP p0 fun g16 o16 =>
  ∃ (x18 : Int), w_3.cell? ⟨g16, o16 + 2, none⟩ = some (.int .i64 x18) ∧
  br (decide (x18 > 0)) (
    withP p0 fun g21 o21 =>
    ∃ (x23 : Int), w_3.cell? ⟨g21, o21 + 2, none⟩ = some (.int .i64 x23) ∧
    withP p0 fun g25 o25 =>
    stO [] w_3 g25 (o25 + 2) [.int .i64 (IntKind.i64.wrap (x23 - 1))] fun w_4 =>
    withP p0 fun g29 o29 =>
    ∃ (x31 : Int), w_4.cell? ⟨g29, o29 + 2, none⟩ = some (.int .i64 x31) ∧
    withP p0 fun g33 o33 =>
    stO [] w_4 g33 (o33 + 3) [.bool (decide (x31 = 0))] fun w_5 =>
    withP p0 fun g36_2 o36_2 =>
    ∃ (b38_2 : Bool), w_5.cell? ⟨g36_2, o36_2 + 3, none⟩ = some (.bool b38_2) ∧
    K (.bool (!b38_2)) w_5
  ) (
    withP p0 fun g36_3 o36_3 =>
    ∃ (b38_3 : Bool), w_3.cell? ⟨g36_3, o36_3 + 3, none⟩ = some (.bool b38_3) ∧
    K (.bool (!b38_3)) w_3
  )
def dput_notes : Notes := ⟨[(1, ⟨[0, 1, 3, 7, 0, 0, 32, 96, 255], [8], [0, 1, 2, 3, 4, 5, 6, 7]⟩)], [], [], []⟩
theorem dput_calls (p0 : Option Addr) (x1 : Int) (a2 : Option Addr) (n2 : Nat) (c2 : Nat) (w : World) (K : Value → World → Prop) (h : dput_vc p0 x1 a2 n2 c2 w K) : Calls Try.prog 56 #[.pointer p0, .int .i64 x1, .slice a2 n2 c2] w fun e w' => ∃ v, e = .returned v ∧ K v w' :=
  calls_of_fvc envOk Try.func56 dput_notes [] [.pointer p0, .int .i64 x1, .slice a2 n2 c2] w K (use_vc h (by as_aux_lemma => kernel_rfl))
/-- (*purser/disk.Disk).Write -/
def dwrite_vc (p0 : Option Addr) (x1 : Int) (a2 : Option Addr) (n2 : Nat) (c2 : Nat) (w : World) (K : Value → World → Prop) : Prop :=
  (64 : Int) ≠ 0 ∧
  Calls Try.prog 53 #[.pointer p0, .int .i64 x1, .int .i64 (IntKind.i64.wrap (Int.tdiv ((n2 : Nat) : Int) 64))] w fun e w_2 => KeepG [] w w_2 ∧
  ∃ (x15 : Int),
  e = .returned (.int .i64 x15) ∧
  br (decide (x15 ≠ 0)) (
    K (.int .i64 x15) w_2
  ) (
    (64 : Int) ≠ 0 ∧
    br (decide ((Int.tmod ((n2 : Nat) : Int) 64) ≠ 0)) (
      K (.int .i64 1) w_2
    ) (
      Calls Try.prog 55 #[.slice a2 n2 c2, .int .i64 64] w_2 fun e_2 w_3 => KeepG [] w_2 w_3 ∧
      ∃ (v24 : Value),
      e_2 = .returned (v24) ∧
      Calls Try.prog 54 #[v24] w_3 fun e_3 w_4 => KeepG [] w_3 w_4 ∧
      ∃ (a25 : Option Addr) (n25 : Nat) (c25 : Nat),
      e_3 = .returned (.slice a25 n25 c25) ∧
      ∃ (I : Int → World → Prop) (μ : Int → World → Nat),
      I 0 w_4 ∧
      ∀ (x27 : Int) (w_5 : World), I x27 w_5 →
      br (decide (x27 < ((n25 : Nat) : Int))) (
        withP a25 fun g30 o30 =>
        (0 : Int) ≤ x27 ∧ x27 < (((n25 : Nat) : Int) : Int) ∧
        ∃ (a31 : Option Addr) (n31 : Nat) (c31 : Nat), w_5.cell? ⟨g30, o30 + x27.toNat * 1, none⟩ = some (.slice a31 n31 c31) ∧
        Calls Try.prog 56 #[.pointer p0, .int .i64 (IntKind.i64.wrap (x1 + x27)), .slice a31 n31 c31] w_5 fun e_4 w_6 => KeepG [] w_5 w_6 ∧
        ∃ (b37 : Bool),
        e_4 = .returned (.bool b37) ∧
        br (!b37) (
          K (.int .i64 12) w_6
        ) (
          I (IntKind.i64.wrap (x27 + 1)) w_6 ∧ μ (IntKind.i64.wrap (x27 + 1)) w_6 < μ x27 w_5
        )
      ) (
        K (.int .i64 0) w_5
      )
    )
  )
def dwrite_notes : Notes := ⟨[], [(7, ⟨[(27, .lf (.int .i64))], [], [28, 29, 30, 31, 8, 9, 32, 33, 34, 35, 36, 37, 38, 6, 39, 27], []⟩)], [], []⟩
theorem dwrite_calls (p0 : Option Addr) (x1 : Int) (a2 : Option Addr) (n2 : Nat) (c2 : Nat) (w : World) (K : Value → World → Prop) (h : dwrite_vc p0 x1 a2 n2 c2 w K) : Calls Try.prog 17 #[.pointer p0, .int .i64 x1, .slice a2 n2 c2] w fun e w' => ∃ v, e = .returned v ∧ K v w' :=
  calls_of_fvc envOk Try.func17 dwrite_notes [] [.pointer p0, .int .i64 x1, .slice a2 n2 c2] w K (use_vc h (by as_aux_lemma => kernel_rfl))
/-- (*purser/disk.Disk).Sync -/
def dsync_vc (p0 : Option Addr) (w : World) (K : Value → World → Prop) : Prop :=
  Calls Try.prog 53 #[.pointer p0, .int .i64 0, .int .i64 0] w fun e w_2 => KeepG [] w w_2 ∧
  ∃ (x7 : Int),
  e = .returned (.int .i64 x7) ∧
  br (decide (x7 ≠ 0)) (
    K (.int .i64 x7) w_2
  ) (
    withP p0 fun g12 o12 =>
    ∃ (mb14 : Option Nat), w_2.cell? ⟨g12, o12 + 1, none⟩ = some (.map mb14) ∧
    rngO w_2 mb14 fun g w_3 =>
    ∃ (I : World → Prop) (μ : World → Nat),
    I w_3 ∧
    ∀ (w_4 : World), I w_4 →
    nxtO w_4 g (fun w_5 =>
      withP p0 fun g29 o29 =>
      ∃ (mb31 : Option Nat), w_5.cell? ⟨g29, o29 + 1, none⟩ = some (.map mb31) ∧
      ((mb31 = none ∧
        K (.int .i64 0) w_5
      ) ∨ (mapO w_5 mb31 (fun _ => []) fun w_6 =>
        K (.int .i64 0) w_6
      ))
    ) fun x16_k v16 w_7 =>
    ∃ bs18_0 : List UInt8, bs18_0.length = 64 ∧
    ∃ x18_k : Int,
    IterLast w_7 g x18_k (.agg (bs18_0.map bV).toArray) ∧
    newO w_7 (.cells (List.replicate 64 (.int .u8 0)).toArray 110) fun g_2 w_8 =>
    cond (Nat.beq (bs18_0.map bV).length 64) (cond (allOne (bs18_0.map bV)) (
      stO [] w_8 g_2 0 (bs18_0.map bV) fun w_9 =>
      drewO w_9 fun w_10 =>
      withP p0 fun g22 o22 =>
      ∃ (a24 : Option Addr) (n24 : Nat) (c24 : Nat), w_10.cell? ⟨g22, o22, none⟩ = some (.slice a24 n24 c24) ∧
      ∃ bs26_0 : List UInt8, bs26_0.length = 64 ∧
      cellsAt w_10 g_2 0 (bs26_0.map bV) ∧
      withP a24 fun g27 o27 =>
      (0 : Int) ≤ x18_k ∧ x18_k < (((n24 : Nat) : Int) : Int) ∧
      cond (Nat.beq (bs26_0.map bV).length 64) (cond (allOne (bs26_0.map bV)) (
        stO [] w_10 g27 (o27 + x18_k.toNat * 64) (bs26_0.map bV) fun w_11 =>
        I w_11 ∧ μ w_11 < μ w_4
      ) False) False
    ) False) False
  )
def dsync_notes : Notes := ⟨[(7, ⟨[0, 1, 3, 7, 0, 0, 63, 127], [7], [0, 1, 2, 3, 4, 5, 6]⟩)], [(5, ⟨[], [], [16, 17, 18, 19, 20, 5, 4, 21, 22, 23, 24, 25, 26, 27], []⟩)], [], []⟩
theorem dsync_calls (p0 : Option Addr) (w : World) (K : Value → World → Prop) (h : dsync_vc p0 w K) : Calls Try.prog 65 #[.pointer p0] w fun e w' => ∃ v, e = .returned v ∧ K v w' :=
  calls_of_fvc envOk Try.func65 dsync_notes [] [.pointer p0] w K (use_vc h (by as_aux_lemma => kernel_rfl))
/-- (*purser/disk.Disk).Dirty -/
def ddirty_vc (p0 : Option Addr) (w : World) (K : Value → World → Prop) : Prop :=
  br (Option.isNone p0) (
    K (.slice none 0 0) w
  ) (
    withP p0 fun g6 o6 =>
    ∃ (mb8 : Option Nat), w.cell? ⟨g6, o6 + 1, none⟩ = some (.map mb8) ∧
    Calls Try.prog 69 #[.map mb8] w fun e w_2 => KeepG [] w w_2 ∧
    ∃ (v9 : Value),
    e = .returned (v9) ∧
    Calls Try.prog 68 #[v9] w_2 fun e_2 w_3 => KeepG [] w_2 w_3 ∧
    ∃ (a10 : Option Addr) (n10 : Nat) (c10 : Nat),
    e_2 = .returned (.slice a10 n10 c10) ∧
    K (.slice a10 n10 c10) w_3
  )
def ddirty_notes : Notes := ⟨[], [], [], []⟩
theorem ddirty_calls (p0 : Option Addr) (w : World) (K : Value → World → Prop) (h : ddirty_vc p0 w K) : Calls Try.prog 36 #[.pointer p0] w fun e w' => ∃ v, e = .returned v ∧ K v w' :=
  calls_of_fvc envOk Try.func36 ddirty_notes [] [.pointer p0] w K (use_vc h (by as_aux_lemma => kernel_rfl))
/-- (*purser/disk.Disk).Cut -/
def dcut_vc (p0 : Option Addr) (x1 : Int) (w : World) (K : Value → World → Prop) : Prop :=
  br (!(Option.isNone p0)) (
    withP p0 fun g9 o9 =>
    stO [] w g9 (o9 + 2) [.int .i64 (max x1 0)] fun w_2 =>
    K (.tuple #[]) w_2
  ) (
    K (.tuple #[]) w
  )
def dcut_notes : Notes := ⟨[], [], [], []⟩
theorem dcut_calls (p0 : Option Addr) (x1 : Int) (w : World) (K : Value → World → Prop) (h : dcut_vc p0 x1 w K) : Calls Try.prog 37 #[.pointer p0, .int .i64 x1] w fun e w' => ∃ v, e = .returned v ∧ K v w' :=
  calls_of_fvc envOk Try.func37 dcut_notes [] [.pointer p0, .int .i64 x1] w K (use_vc h (by as_aux_lemma => kernel_rfl))
/-- (*purser/disk.Disk).Off -/
def doff_vc (p0 : Option Addr) (w : World) (K : Value → World → Prop) : Prop :=
  br (Option.isNone p0) (
    K (.bool true) w
  ) (
    withP p0 fun g7 o7 =>
    ∃ (b9 : Bool), w.cell? ⟨g7, o7 + 3, none⟩ = some (.bool b9) ∧
    K (.bool b9) w
  )
def doff_notes : Notes := ⟨[], [], [], []⟩
theorem doff_calls (p0 : Option Addr) (w : World) (K : Value → World → Prop) (h : doff_vc p0 w K) : Calls Try.prog 38 #[.pointer p0] w fun e w' => ∃ v, e = .returned v ∧ K v w' :=
  calls_of_fvc envOk Try.func38 doff_notes [] [.pointer p0] w K (use_vc h (by as_aux_lemma => kernel_rfl))
/-- (*purser/disk.Disk).Crash -/
def dcrash_vc (p0 : Option Addr) (a1 : Option Addr) (n1 : Nat) (c1 : Nat) (w : World) (K : Value → World → Prop) : Prop :=
  br (Option.isNone p0) (
    K (.tuple #[]) w
  ) (
    Calls Try.prog 36 #[.pointer p0] w fun e w_2 => KeepG [] w w_2 ∧
    ∃ (a9 : Option Addr) (n9 : Nat) (c9 : Nat),
    e = .returned (.slice a9 n9 c9) ∧
    ∃ (I : Int → World → Prop) (μ : Int → World → Nat),
    I 0 w_2 ∧
    ∀ (x11 : Int) (w_3 : World), I x11 w_3 →
    br (decide (x11 < ((n9 : Nat) : Int))) (
      withP a9 fun g14 o14 =>
      (0 : Int) ≤ x11 ∧ x11 < (((n9 : Nat) : Int) : Int) ∧
      ∃ (x15 : Int), w_3.cell? ⟨g14, o14 + x11.toNat * 1, none⟩ = some (.int .i64 x15) ∧
      br (decide (x11 < ((n1 : Nat) : Int))) (
        withP a1 fun g23 o23 =>
        (0 : Int) ≤ x11 ∧ x11 < (((n1 : Nat) : Int) : Int) ∧
        ∃ (b24 : Bool), w_3.cell? ⟨g23, o23 + x11.toNat * 1, none⟩ = some (.bool b24) ∧
        br b24 (
          drewO w_3 fun w_4 =>
          withP p0 fun g27 o27 =>
          ∃ (a29 : Option Addr) (n29 : Nat) (c29 : Nat), w_4.cell? ⟨g27, o27, none⟩ = some (.slice a29 n29 c29) ∧
          withP p0 fun g32 o32 =>
          ∃ (mb34 : Option Nat), w_4.cell? ⟨g32, o32 + 1, none⟩ = some (.map mb34) ∧
          ∃ bs36_0 : List UInt8, bs36_0.length = 64 ∧
          (∃ r, MLk w_4 mb34 x15 r ∧ r.getD (.agg (List.replicate 64 (.int .u8 0)).toArray) = (.agg (bs36_0.map bV).toArray)) ∧
          withP a29 fun g37 o37 =>
          (0 : Int) ≤ x15 ∧ x15 < (((n29 : Nat) : Int) : Int) ∧
          cond (Nat.beq (bs36_0.map bV).length 64) (cond (allOne (bs36_0.map bV)) (
            stO [] w_4 g37 (o37 + x15.toNat * 64) (bs36_0.map bV) fun w_5 =>
            I (IntKind.i64.wrap (x11 + 1)) w_5 ∧ μ (IntKind.i64.wrap (x11 + 1)) w_5 < μ x11 w_3
          ) False) False
        ) (
          I (IntKind.i64.wrap (x11 + 1)) w_3 ∧ μ (IntKind.i64.wrap (x11 + 1)) w_3 < μ x11 w_3
        )
      ) (
        I (IntKind.i64.wrap (x11 + 1)) w_3 ∧ μ (IntKind.i64.wrap (x11 + 1)) w_3 < μ x11 w_3
      )
    ) (
      withP p0 fun g40 o40 =>
      ∃ (mb42 : Option Nat), w_3.cell? ⟨g40, o40 + 1, none⟩ = some (.map mb42) ∧
      ((mb42 = none ∧
        withP p0 fun g45 o45 =>
        stO [] w_3 g45 (o45 + 2) [.int .i64 0] fun w_7 =>
        withP p0 fun g47 o47 =>
        stO [] w_7 g47 (o47 + 3) [.bool false] fun w_8 =>
        K (.tuple #[]) w_8
      ) ∨ (mapO w_3 mb42 (fun _ => []) fun w_9 =>
        withP p0 fun g45_2 o45_2 =>
        stO [] w_9 g45_2 (o45_2 + 2) [.int .i64 0] fun w_10 =>
        withP p0 fun g47_2 o47_2 =>
        stO [] w_10 g47_2 (o47_2 + 3) [.bool false] fun w_11 =>
        K (.tuple #[]) w_11
      ))
    )
  )
def dcrash_notes : Notes := ⟨[(5, ⟨[0, 1, 3, 7, 0, 0, 32, 96, 224, 0, 992, 2047, 4095], [12], [0, 1, 2, 3, 4, 5, 6, 7, 8, 9, 10, 11]⟩)], [(2, ⟨[(11, .lf (.int .i64))], [], [12, 13, 14, 15, 4, 5, 16, 17, 18, 19, 20, 21, 22, 23, 24, 25, 26, 27, 28, 29, 30, 31, 32, 33, 34, 35, 36, 37, 38, 11], []⟩)], [], []⟩
theorem dcrash_calls (p0 : Option Addr) (a1 : Option Addr) (n1 : Nat) (c1 : Nat) (w : World) (K : Value → World → Prop) (h : dcrash_vc p0 a1 n1 c1 w K) : Calls Try.prog 39 #[.pointer p0, .slice a1 n1 c1] w fun e w' => ∃ v, e = .returned v ∧ K v w' :=
  calls_of_fvc envOk Try.func39 dcrash_notes [] [.pointer p0, .slice a1 n1 c1] w K (use_vc h (by as_aux_lemma => kernel_rfl))
end GDk
end Go.Proofs.Ytpfmadinijofeaa
end
section
/- The sorted keys of a disk's cache: the library's contracts at this program. -/
namespace Go.Proofs.Ytpfmadinijofeaa
open Go.RowKit Go.Maps Go.Sort Go.Shelf
shelf_lay_g SlLaysZI.n7 Ggz 7 at Try 69 as Try.keysDisk
shelf_lay_g SlLaysZI.n6 Ggz 6 at Try 68 as Try.sortedI
shelf_lay_g SlLaysM.n5 Slgm 5 at Try 85 as Try.sortI
theorem sortsID (m : Nat) : AnyZI.SortsIn Try.prog Try.sortedI_ren Fence.wide m :=
  ⟨fun blk off cap ss W hH hblk hsz => callsIn_wide.2 (AnyM.slices_Sort_int Try.sortI blk off cap ss W hH hblk hsz),
   fun p cap W => callsIn_wide.2 (AnyM.slices_Sort_int_none Try.sortI p cap W)⟩
theorem keysDisk_calls (mb : Option Nat) (w : World) : Calls Try.prog 69 #[.map mb] w fun e w' => e = .returned (.func (.func 86) #[] #[.pointer (some ⟨w.heap.size, 0, none⟩)]) ∧ w' = w.alloc (.cells #[.map mb] 95) :=
  (callsIn_wide (n := 5)).1 (AnyZI.keys_in Try.keysDisk Fence.wide 5 trivial rfl mb w)
theorem sortDisk_calls (w : World) (Bm b : Nat) (m : List (Int × Value)) (hBm : Bm < w.heap.size) (hc : w.cell? ⟨Bm, 0, none⟩ = some (.map (some b))) (h : MapAt w b m)
    (hr : ∀ p ∈ m, -9223372036854775808 ≤ p.1 ∧ p.1 ≤ 9223372036854775807) (hl : m.length ≤ 1000000) :
    Calls Try.prog 68 #[.func (.func 86) #[] #[.pointer (some ⟨Bm, 0, none⟩)]] w fun e w' => ∃ a c, e = .returned (.slice a (sortK m).length c) ∧
      Own w' w.heap.size 3 1 (.slice a (sortK m).length c) (sortK m).length ((sortK m).map (Value.int .i64)) ∧ (a = none ↔ sortK m = []) ∧ Below w.heap.size w w' :=
  sortK_calls (ρK := Try.keysDisk_ren) (ρS := Try.sortedI_ren) { Try.keysDisk with } Try.sortedI Try.underlying3 (sortsID 4) (enters_of Try.func85 (by kernel_rfl) rfl) (enters_of Try.func86 (by kernel_rfl) rfl) w Bm b m hBm hc h hr hl
/-- 'slices.Sorted(maps.Keys(m))': a new slice with the keys, ascending. -/
theorem keysDisk_new {w : World} {mb : Nat} {m : List (Int × Value)} (h : MapAt w mb m) (hr : ∀ p ∈ m, -9223372036854775808 ≤ p.1 ∧ p.1 ≤ 9223372036854775807) (hl : m.length ≤ 1000000) {gs : List Nat} {w0 : World} {K : Value → World → Prop} (B : Bs w0 w)
    (k : ∀ a c w2, Own w2 w.heap.size 3 1 (.slice a (sortK m).length c) (sortK m).length ((sortK m).map (Value.int .i64)) → (a = none ↔ sortK m = []) → Below w.heap.size w w2 → Bs w0 w2 → K (.slice a (sortK m).length c) w2) :
    Calls Try.prog 69 #[.map (some mb)] w fun e w1 => KeepG gs w w1 ∧ ∃ v : Value, e = .returned v ∧ Calls Try.prog 68 #[v] w1 fun e w2 => KeepG gs w1 w2 ∧ ∃ (a : Option Addr) (n c : Nat), e = .returned (.slice a n c) ∧ K (.slice a n c) w2 := by
  refine (keysDisk_calls (some mb) w).mono ?_
  rintro e w1 ⟨rfl, rfl⟩
  have b1 : Below w.heap.size w (w.alloc (.cells #[.map (some mb)] 95)) := Below_one _
  refine ⟨keepG_below b1, _, rfl, ?_⟩
  have hc : (w.alloc (.cells #[.map (some mb)] 95)).cell? ⟨w.heap.size, 0, none⟩ = some (.map (some mb)) := by rw [cell_of_row _ _ _ _ _ _ (al_new rfl)]; rfl
  refine (sortDisk_calls _ w.heap.size mb m (by simp) hc (h.below b1) hr hl).mono ?_
  rintro e w2 ⟨a, c, rfl, ho, hn, hb⟩
  have hb' : Below w.heap.size w w2 := b1.trans (hb.mono b1.size)
  exact ⟨keepG_below hb, _, _, _, rfl, k a c w2 (ho.base_le fun j hj => Nat.le_trans b1.size (ho.lt j hj).1) hn hb' (B.to hb')⟩
end Go.Proofs.Ytpfmadinijofeaa
end
section
/- 'slices.Collect(slices.Chunk(b, 64))' where b's length is a multiple of 64: the pieces, one behind the other; walked. -/
namespace Go.Proofs.Ytpfmadinijofeaa
open Go.RowKit Go.Shelf
attribute [local go_sem] Oper.semAt_some
/-- The k-th piece. -/
def pieceV (g off k : Nat) : Value := .slice (some ⟨g, off + k * 64, none⟩) 64 64
set_option maxRecDepth 100000 in
set_option maxHeartbeats 4000000 in
theorem chunk1_in (F : Fence) (n : Nat) (hf : F.fn 76) (hro : F.round = none) (hn : 1 ≤ n) (l Bs Bn n₀ g off c m : Nat) (a : Option Addr) (ha : 0 < m → a = some ⟨g, off, none⟩) (hm : m ≤ 1000000) (hcap : m * 64 ≤ c) (hBs0 : Bs < n₀) (hBn0 : Bn < n₀) (J Jx : List Nat → World → Prop)
    (hJ : ∀ s A, J s A → J s A.drew) (hY : ∀ pre x W, J pre W → pre.length < m → YieldAt F (n - 1) Try.prog l #[pieceV g off x] W fun e W' =>
      (e = .returned (.bool true) ∧ J (pre ++ [x]) W' ∧ Below n₀ W W') ∨ (e = .returned (.bool false) ∧ Jx (pre ++ [x]) W'))
    (W : World) (hBs : W.cell? ⟨Bs, 0, none⟩ = some (.slice a (m * 64) c)) (hBn : W.cell? ⟨Bn, 0, none⟩ = some (.int .i64 64)) (h0 : J [] W) :
    CallsIn F n Try.prog 76 #[.func (.yield l) #[] #[], .pointer (some ⟨Bs, 0, none⟩), .pointer (some ⟨Bn, 0, none⟩)] W fun e W' => (∃ v, e = .returned v) ∧
      ((∃ ys, ys = List.range m ∧ J ys W') ∨ (∃ pre, True ∧ Jx pre W')) := by
  refine callsIn_of_wp Try.func76 rfl hf ?_ hro
  simp only [Try.ntmps76, List.size_toArray, List.length_cons, List.length_nil, Nat.reduceAdd, Nat.reduceSub, Array.replicate_succ, Array.replicate_zero, List.push_toArray, List.append_toArray, List.nil_append, List.cons_append]
  gi_wp2
  gi_loopw [4] (fun i wr => ∃ k : Nat, k ≤ m ∧ i = .int .i64 ((k * 64 : Nat) : Int) ∧ J (List.range k) wr ∧ Below n₀ W wr)
    (fun i _ => m * 64 - (intOf i).toNat)
  case atStart => exact ⟨0, Nat.zero_le _, rfl, h0, Below.refl _ _⟩
  case round =>
    obtain ⟨k, hk, rfl, hJs, hnx⟩ := hrel
    have hcs : wr.cell? ⟨Bs, 0, none⟩ = some (.slice a (m * 64) c) := (hnx.cell (p := ⟨Bs, 0, none⟩) hBs0).trans hBs
    have hcn : wr.cell? ⟨Bn, 0, none⟩ = some (.int .i64 64) := (hnx.cell (p := ⟨Bn, 0, none⟩) hBn0).trans hBn
    by_cases hlt : k < m
    · obtain rfl := ha (by omega)
      obtain ⟨fn, tmps, assign, body, hy, hR⟩ := hY _ k wr.drew (hJ _ _ hJs) (by rw [List.length_range]; exact hlt)
      unfold pieceV at hy
      have hd1 : wr.drew.cell? ⟨Bs, 0, none⟩ = some (.slice (some ⟨g, off, none⟩) (m * 64) c) := hcs
      have hd2 : wr.drew.cell? ⟨Bn, 0, none⟩ = some (.int .i64 64) := hcn
      gi_wp2
      gi_region
      all_goals (first | simp only [if_neg (show ¬ (((m * 64 - k * 64 : Nat)) : Int) < 64 by omega)] | simp only [Int.min_eq_left (show (64 : Int) ≤ (((m * 64 - k * 64 : Nat)) : Int) by omega)])
      all_goals gi_wp2
      all_goals (
        refine hR.mono ?_
        rintro e W3 (⟨rfl, hJ3, hk3⟩ | ⟨rfl, hJx3⟩)
        · have hcn3 : W3.cell? ⟨Bn, 0, none⟩ = some (.int .i64 64) := (hk3.cell (p := ⟨Bn, 0, none⟩) hBn0).trans hcn
          have hdr : Below n₀ W wr.drew := ⟨hnx.os, hnx.tape, hnx.output, hnx.size, hnx.block⟩
          gi_wp2
          go_roundw
          case rel => exact ⟨k + 1, by omega, by simp; omega, by rw [List.range_succ]; exact hJ3, hdr.trans hk3⟩
          case measure => simp [intOf]; omega
        · gi_wp2
          refine bodyPost_ret (results_none rfl _ _ _) rfl ?_
          exact ⟨⟨_, rfl⟩, .inr ⟨_, trivial, hJx3⟩⟩)
    · obtain rfl : k = m := by omega
      gi_wp2
      go_end0
      exact ⟨⟨_, rfl⟩, .inl ⟨_, rfl, hJs⟩⟩
set_option maxHeartbeats 1000000 in
theorem chunk_in (F : Fence) (n : Nat) (hf : F.fn 55) (hro : F.round = none) (a : Option Addr) (len cap : Nat) (w : World) :
    CallsIn F n Try.prog 55 #[.slice a len cap, .int .i64 64] w fun e w' => e = .returned (.func (.func 76) #[] #[.pointer (some ⟨w.heap.size, 0, none⟩), .pointer (some ⟨w.heap.size + 1, 0, none⟩)]) ∧
      w' = (w.alloc (.cells #[.slice a len cap] 22)).alloc (.cells #[.int .i64 64] 3) := by
  refine callsIn_of_wp Try.func55 rfl hf ?_ hro
  simp only [Try.ntmps55, List.size_toArray, List.length_cons, List.length_nil, Nat.reduceAdd, Nat.reduceSub, Array.replicate_succ, Array.replicate_zero, List.push_toArray, List.append_toArray, List.nil_append, List.cons_append]
  gi_wp2
  go_ret
  exact ⟨by simp, rfl⟩
theorem chunk_stops (F : Fence) (n : Nat) (hf : F.fn 76) (hro : F.round = none) (hn : 1 ≤ n) (Bs Bn n₀ g off c m : Nat) (a : Option Addr) (ha : 0 < m → a = some ⟨g, off, none⟩) (hm : m ≤ 1000000) (hcap : m * 64 ≤ c) (hBs0 : Bs < n₀) (hBn0 : Bn < n₀) (w : World) (hn₀ : n₀ ≤ w.heap.size)
    (hBs : w.cell? ⟨Bs, 0, none⟩ = some (.slice a (m * 64) c)) (hBn : w.cell? ⟨Bn, 0, none⟩ = some (.int .i64 64)) :
    SeqStopsK F n Try.prog 76 #[.pointer (some ⟨Bs, 0, none⟩), .pointer (some ⟨Bn, 0, none⟩)] (fun k : Nat => #[.slice (some ⟨g, off + k * 64, none⟩) 64 64]) (Below n₀) (fun ys => ys = List.range m) (fun _ => True) m w := fun l J Jx W hW hJ _ hY h0 =>
  chunk1_in F n hf hro hn l Bs Bn n₀ g off c m a ha hm hcap hBs0 hBn0 J Jx (fun s A h => hJ s A A.drew none h ⟨rfl, rfl, rfl, Nat.le_refl _, fun _ _ _ => rfl⟩ (fun r e => by cases e)) hY W
    ((hW.cell (p := ⟨Bs, 0, none⟩) (by show Bs < _; omega)).trans hBs) ((hW.cell (p := ⟨Bn, 0, none⟩) (by show Bn < _; omega)).trans hBn) h0
theorem infoB : (Try.prog.info? 22).map (fun i => (i.zero, i.size, i.bytes)) = some (some (.slice none 0 0), 1, 24) := by kernel_rfl
set_option maxRecDepth 100000 in
set_option maxHeartbeats 2000000 in
theorem appSeq_in (F : Fence) (n : Nat) (hA : F.fn 75) (hf : F.fn 76) (hro : F.round = none) (hn : 3 ≤ n) (Bs Bn g off c m : Nat) (a : Option Addr) (ha : 0 < m → a = some ⟨g, off, none⟩) (hm : m ≤ 1000000) (hcap : m * 64 ≤ c) (w : World) (hBs0 : Bs < w.heap.size) (hBn0 : Bn < w.heap.size)
    (hBs : w.cell? ⟨Bs, 0, none⟩ = some (.slice a (m * 64) c)) (hBn : w.cell? ⟨Bn, 0, none⟩ = some (.int .i64 64)) :
    CallsIn F n Try.prog 75 #[.slice none 0 0, .func (.func 76) #[] #[.pointer (some ⟨Bs, 0, none⟩), .pointer (some ⟨Bn, 0, none⟩)]] w fun e W' => ∃ v, e = .returned v ∧ W'.ownsRow w.heap.size 22 1 v m ((List.range m).map (pieceV g off)) ∧ (v = .slice none 0 0 ↔ m = 0) ∧ Below w.heap.size w W' := by
  have h1 : 1 ≤ n := by omega
  obtain ⟨i0, hi, hz0, hz1, hz2⟩ := info_parts infoB
  refine callsIn_of_wp_marks Try.func75 rfl hA ?_ hro
  simp only [Try.ntmps75, List.size_toArray, List.length_cons, List.length_nil, Nat.reduceAdd, Nat.reduceSub, Array.replicate_succ, Array.replicate_zero, List.push_toArray, List.append_toArray, List.nil_append, List.cons_append]
  gi_wp2
  have bO := Boxed.new w 44 (.slice none 0 0)
  have hB0 : Below w.heap.size w (w.alloc (.cells #[.slice none 0 0] 44)) := (Below.refl _ w).alloc (Nat.le_refl _) _
  refine wpIn_rangeFunc_ownG hro h1 (gf := 76) (lb := #[.pointer (some ⟨Bs, 0, none⟩), .pointer (some ⟨Bn, 0, none⟩)]) rfl hf (enters_of Try.func76 (by kernel_rfl) rfl)
    (chunk_stops F (n - 1) hf hro (by omega) Bs Bn w.heap.size g off c m a ha hm hcap hBs0 hBn0 _ (by simp) ((hB0.cell (p := ⟨Bs, 0, none⟩) hBs0).trans hBs) ((hB0.cell (p := ⟨Bn, 0, none⟩) hBn0).trans hBn)) belowK_t (belowK_b (by simp)) (Below.refl _ _) (fun _ => rfl)
    (fun pre W => (∃ v, Boxed W w.heap.size 44 v ∧ W.ownsRow w.heap.size 22 1 v pre.length (pre.map (pieceV g off)) ∧ (v = .slice none 0 0 ↔ pre = [])) ∧ Below w.heap.size w W)
    (fun _ _ _ => False)
    (OwnFrom.and (Own.from (holdsRow_own w.heap.size w.heap.size 44 22 1 (fun pre => pre.length) (fun pre => pre.map (pieceV g off)) (fun pre v => v = .slice none 0 0 ↔ pre = [])) _) (ownFrom_below (Nat.le_refl _) (by simp)))
    (fun _ _ _ _ _ hs _ _ => hs)
    ⟨⟨_, bO, World.ownsRow_nil _ _ _ _, by simp⟩, hB0⟩
    (fun x => { tmps := #[.slice none 0 0, .func (.func 76) #[] #[.pointer (some ⟨Bs, 0, none⟩), .pointer (some ⟨Bn, 0, none⟩)], .pointer (some ⟨w.heap.size, 0, none⟩), undef, .slice none 0 0, .slice (some ⟨g, off + x * 64, none⟩) 64 64, .func (.func 76) #[] #[.pointer (some ⟨Bs, 0, none⟩), .pointer (some ⟨Bn, 0, none⟩)], Value.slice (some ⟨g, off + x * 64, none⟩) 64 64, undef, undef, undef, undef, undef], defers := [] }) ?assign ?body ?done ?stop
  case assign =>
    intro l x W K hK
    gi_wp2
    exact hK
  case body =>
    rintro l pre x W ⟨⟨v, hv, hrow, hnil⟩, hB⟩ hlt
    have hc := hv.cell
    gi_wp2_with (gi_at_builtin; refine wpListIn_append_own _ rfl _ _ 44 rfl w.heap.size 22 i0 (.slice none 0 0) 1 24 Try.underlying44 hi hz0 hz1 hz2 rfl (by decide) _ _ _ rfl (hrow.alloc _) ⟨W.heap.size, 0, none⟩ 1 1 [.slice (some ⟨g, off + x * 64, none⟩) 64 64] rfl rfl (cell_one_new _ _ _) (by simp [Value.oneCell']) (by unfold maxLen; omega) (by omega) (by have := hB.size; simp; omega) ?_; intro v' w1 hown' hgrow _; obtain ⟨g', cap', rfl⟩ := ownsRow_succ hown'; obtain ⟨hv1, hv2, hr2, hk2, hb2⟩ := hv.appended (by decide) hrow hB.size (Nat.le_refl _) hown' hgrow; have hc1 := hv1.cell; have hf1 := hv1.frozen)
    exact ⟨hk2.from _, hb2, ⟨_, hv2, by simpa [pieceV] using hr2, by simp⟩, hB.trans hb2⟩
  case done =>
    rintro D ys W hD rfl ⟨⟨v, hv, hrow, hnil⟩, hB⟩ hK
    have hc := hv.cell
    gi_wp2
    refine ⟨by simp, .inl ⟨_, _, rfl, run_takeDeferred hK, ?_⟩⟩
    exact ⟨_, results_tmp rfl _ _ _, v, rfl, by have := ownsRow_putObj hrow (.deferred none) hK rfl; rwa [List.length_range] at this, by rw [hnil]; simp, hB.trans (belowK_b (w := w) (Nat.le_refl _) W D _ _ (by simp at hD; omega) hK rfl rfl)⟩
  case stop =>
    rintro D c pre W _ _ h _
    exact h.elim
set_option maxHeartbeats 1000000 in
theorem collectB_in (F : Fence) (n : Nat) (hC : F.fn 54) (hA : F.fn 75) (hf : F.fn 76) (hro : F.round = none) (hn : 4 ≤ n) (Bs Bn g off c m : Nat) (a : Option Addr) (ha : 0 < m → a = some ⟨g, off, none⟩) (hm : m ≤ 1000000) (hcap : m * 64 ≤ c) (w : World) (hBs0 : Bs < w.heap.size) (hBn0 : Bn < w.heap.size)
    (hBs : w.cell? ⟨Bs, 0, none⟩ = some (.slice a (m * 64) c)) (hBn : w.cell? ⟨Bn, 0, none⟩ = some (.int .i64 64)) :
    CallsIn F n Try.prog 54 #[.func (.func 76) #[] #[.pointer (some ⟨Bs, 0, none⟩), .pointer (some ⟨Bn, 0, none⟩)]] w fun e W' => ∃ v, e = .returned v ∧ W'.ownsRow w.heap.size 22 1 v m ((List.range m).map (pieceV g off)) ∧ (v = .slice none 0 0 ↔ m = 0) ∧ Below w.heap.size w W' := by
  have h1 : 1 ≤ n := by omega
  refine callsIn_of_wp Try.func54 rfl hC ?_ hro
  simp only [Try.ntmps54, List.size_toArray, List.length_cons, List.length_nil, Nat.reduceAdd, Nat.reduceSub, Array.replicate_succ, Array.replicate_zero, List.push_toArray, List.append_toArray, List.nil_append, List.cons_append]
  gi_wp2_with (gi_at_call 75; refine (appSeq_in F (n - 1) hA hf hro (by omega) Bs Bn g off c m a ha hm hcap _ hBs0 hBn0 hBs hBn).mono ?_; rintro e w' ⟨v, rfl, hrow, hnil, hb⟩)
  go_ret
  exact ⟨v, rfl, hrow, hnil, hb⟩
end Go.Proofs.Ytpfmadinijofeaa
end
section
/- The program's disk: what it holds, what reads it; walked. -/
namespace Go.Proofs.Ytpfmadinijofeaa
open Go.RowKit
structure DkAt (w : World) (g gl mb : Nat) (S : DS) : Prop where
  blk : Bk w g #[.slice (some ⟨gl, 0, none⟩) S.n S.n, .map (some mb), .int .i64 S.left, .bool S.off] 97
  lst : Bk w gl (sArr S.n 64 fun i => (S.last i).map bV) 110
  map : ∃ m, MapAt w mb m ∧ ∀ k, lkM m k = cD S k
theorem allOne_b : ∀ bs : List UInt8, allOne (bs.map bV) = true
  | [] => rfl
  | b :: r => by
    rw [List.map_cons, allOne, allOne_b r]
    rfl
theorem condB {bs : List UInt8} (h : bs.length = 64) {A : Prop} (hA : A) : cond (Nat.beq (bs.map bV).length 64) (cond (allOne (bs.map bV)) A False) False := by
  rw [List.length_map, h, allOne_b]
  exact hA
theorem zero_sec : Value.agg (List.replicate 64 (.int .u8 0)).toArray = secV zero64 := by
  unfold secV zero64
  rw [List.map_replicate]
  rfl
section
variable {w w1 : World} {g gl mb : Nat} {S : DS}
theorem DkAt.c0 (h : DkAt w g gl mb S) : w.cell? ⟨g, 0, none⟩ = some (.slice (some ⟨gl, 0, none⟩) S.n S.n) := by rw [h.blk.cell]; rfl
theorem DkAt.c1 (h : DkAt w g gl mb S) : w.cell? ⟨g, 0 + 1, none⟩ = some (.map (some mb)) := by rw [h.blk.cell]; rfl
theorem DkAt.c2 (h : DkAt w g gl mb S) : w.cell? ⟨g, 0 + 2, none⟩ = some (.int .i64 S.left) := by rw [h.blk.cell]; rfl
theorem DkAt.c3 (h : DkAt w g gl mb S) : w.cell? ⟨g, 0 + 3, none⟩ = some (.bool S.off) := by rw [h.blk.cell]; rfl
theorem DkAt.lt (h : DkAt w g gl mb S) : g < w.heap.size ∧ gl < w.heap.size ∧ mb < w.heap.size := by
  obtain ⟨m, hm, _⟩ := h.map
  exact ⟨h.blk.lt, h.lst.lt, hm.lt⟩
theorem DkAt.ne (h : DkAt w g gl mb S) : g ≠ gl ∧ g ≠ mb ∧ gl ≠ mb := by
  obtain ⟨m, hm, _⟩ := h.map
  exact ⟨h.blk.ne h.lst (by decide), hm.ne_cells h.blk, hm.ne_cells h.lst⟩
theorem DkAt.keep (h : DkAt w g gl mb S) (h1 : w1.heap[g]? = w.heap[g]?) (h2 : w1.heap[gl]? = w.heap[gl]?) (h3 : w1.heap[mb]? = w.heap[mb]?) : DkAt w1 g gl mb S := by
  obtain ⟨m, hm, hl⟩ := h.map
  exact ⟨h.blk.keep h1, h.lst.keep h2, m, hm.keep h3, hl⟩
theorem DkAt.below (h : DkAt w g gl mb S) (b : Below w.heap.size w w1) : DkAt w1 g gl mb S := h.keep (b.block g h.lt.1) (b.block gl h.lt.2.1) (b.block mb h.lt.2.2)
theorem DkAt.fr {L : List Nat} (h : DkAt w g gl mb S) (b : Fr L w w1) (h1 : g ∉ L) (h2 : gl ∉ L) (h3 : mb ∉ L) : DkAt w1 g gl mb S := h.keep (b.block g h.lt.1 h1) (b.block gl h.lt.2.1 h2) (b.block mb h.lt.2.2 h3)
theorem DkAt.hit (h : DkAt w g gl mb S) {k : Nat} {s : List UInt8} (hk : S.cch k = some s) : ∃ r, MLk w (some mb) (k : Int) r ∧ r.getD (.agg (List.replicate 64 (.int .u8 0)).toArray) = .agg (s.map bV).toArray ∧ r.isSome = true := by
  obtain ⟨m, hm, hl⟩ := h.map
  exact ⟨_, ⟨m, hm, rfl⟩, by rw [hl, cD_nat, hk]; rfl, by rw [hl, cD_nat, hk]; rfl⟩
theorem DkAt.miss (h : DkAt w g gl mb S) {k : Nat} (hk : S.cch k = none) : ∃ r, MLk w (some mb) (k : Int) r ∧ r.getD (.agg (List.replicate 64 (.int .u8 0)).toArray) = .agg (zero64.map bV).toArray ∧ r.isSome = false := by
  obtain ⟨m, hm, hl⟩ := h.map
  exact ⟨_, ⟨m, hm, rfl⟩, by rw [hl, cD_nat, hk]; exact zero_sec, by rw [hl, cD_nat, hk]; rfl⟩
theorem DkAt.secs (h : DkAt w g gl mb S) (hW : DWf S) {i : Nat} (hi : i < S.n) : cellsAt w gl (0 + i * 64) ((S.last i).map bV) := by
  rw [Nat.zero_add]
  exact sArr_cells h.lst hi (by rw [List.length_map, hW.last])
/-! What changes it. -/
theorem DkAt.setLeft (h : DkAt w g gl mb S) (l : Int) {gs : List Nat} (hg : ∀ x ∈ gs, x ≠ g) {K : World → Prop} (k : ∀ w1, DkAt w1 g gl mb ⟨S.n, S.last, S.cch, l, S.off⟩ → Fr [g] w w1 → w1.heap.size = w.heap.size → K w1) : stO gs w g (0 + 2) [.int .i64 l] K := by
  obtain ⟨n1, n2, n3⟩ := h.ne
  obtain ⟨m, hm, hl⟩ := h.map
  exact stO_bk h.blk (by simp) hg fun w1 h1 f1 z1 => k w1 ⟨h1, h.lst.fr1 f1 (fun e => n1 e.symm), m, hm.fr f1 (by rw [List.mem_singleton]; exact fun e => n2 e.symm), hl⟩ f1 z1
theorem DkAt.setOff (h : DkAt w g gl mb S) (b : Bool) {gs : List Nat} (hg : ∀ x ∈ gs, x ≠ g) {K : World → Prop} (k : ∀ w1, DkAt w1 g gl mb ⟨S.n, S.last, S.cch, S.left, b⟩ → Fr [g] w w1 → w1.heap.size = w.heap.size → K w1) : stO gs w g (0 + 3) [.bool b] K := by
  obtain ⟨n1, n2, n3⟩ := h.ne
  obtain ⟨m, hm, hl⟩ := h.map
  exact stO_bk h.blk (by simp) hg fun w1 h1 f1 z1 => k w1 ⟨h1, h.lst.fr1 f1 (fun e => n1 e.symm), m, hm.fr f1 (by rw [List.mem_singleton]; exact fun e => n2 e.symm), hl⟩ f1 z1
theorem DkAt.setSec (h : DkAt w g gl mb S) (hW : DWf S) {i : Nat} (hi : i < S.n) {s : List UInt8} (hs : s.length = 64) {gs : List Nat} (hg : ∀ x ∈ gs, x ≠ gl) {K : World → Prop}
    (k : ∀ w1, DkAt w1 g gl mb ⟨S.n, fun j => if j = i then s else S.last j, S.cch, S.left, S.off⟩ → Fr [gl] w w1 → w1.heap.size = w.heap.size → K w1) : stO gs w gl (0 + i * 64) (s.map bV) K := by
  obtain ⟨n1, n2, n3⟩ := h.ne
  obtain ⟨m, hm, hl⟩ := h.map
  rw [Nat.zero_add]
  have hle : (i + 1) * 64 ≤ S.n * 64 := Nat.mul_le_mul_right 64 hi
  refine stO_part h.lst (by rw [sArr_size, List.length_map, hs]; omega) hg fun w1 h1 f1 z1 => k w1 ⟨h.blk.fr1 f1 n1, ?_, m, hm.fr f1 (by rw [List.mem_singleton]; exact fun e => n3 e.symm), hl⟩ f1 z1
  rw [sArr_setL (n := S.n) (k := 64) hi (by rw [List.length_map, hs]) (fun j _ => by rw [List.length_map, hW.last])] at h1
  rw [sArr_congr (enc' := fun j => (if j = i then s else S.last j).map bV) fun j _ => by split <;> rfl] at h1
  exact h1
theorem DkAt.putM (h : DkAt w g gl mb S) (i : Nat) (s : List UInt8) {K : World → Prop} (k : ∀ w1, DkAt w1 g gl mb ⟨S.n, S.last, fun j => if j = i then some s else S.cch j, S.left, S.off⟩ → Fr [mb] w w1 → w1.heap.size = w.heap.size → K w1) :
    mapO w (some mb) (fun m => putM m (i : Int) (.agg (s.map bV).toArray)) K := by
  obtain ⟨n1, n2, n3⟩ := h.ne
  obtain ⟨m, hm, hl⟩ := h.map
  refine ⟨mb, m, rfl, hm, fun w1 m1 f1 z1 => k w1 ⟨h.blk.fr1 f1 n2, h.lst.fr1 f1 n3, _, m1, fun j => ?_⟩ f1 z1⟩
  rw [lkM_put, hl]
  unfold cD
  by_cases e : (i : Int) = j
  · subst e
    rw [if_pos rfl, if_neg (by omega), Int.toNat_natCast]
    dsimp only
    rw [if_pos rfl]
    rfl
  · rw [if_neg e]
    by_cases hj : j < 0
    · rw [if_pos hj, if_pos hj]
    · rw [if_neg hj, if_neg hj]
      dsimp only
      rw [if_neg (by omega)]
theorem DkAt.clear (h : DkAt w g gl mb S) {K : World → Prop} (k : ∀ w1, DkAt w1 g gl mb ⟨S.n, S.last, fun _ => none, S.left, S.off⟩ → Fr [mb] w w1 → w1.heap.size = w.heap.size → K w1) : mapO w (some mb) (fun _ => []) K := by
  obtain ⟨n1, n2, n3⟩ := h.ne
  obtain ⟨m, hm, hl⟩ := h.map
  refine ⟨mb, m, rfl, hm, fun w1 m1 f1 z1 => k w1 ⟨h.blk.fr1 f1 n2, h.lst.fr1 f1 n3, _, m1, fun j => ?_⟩ f1 z1⟩
  unfold cD
  split <;> rfl
end
theorem dmay_ret {w : World} {g gl mb : Nat} {S : DS} (h : DkAt w g gl mb S) (hW : DWf S) (first n : Int) : Calls Try.prog 53 #[.pointer (some ⟨g, 0, none⟩), .int .i64 first, .int .i64 n] w (Ret (.int .i64 (mayE S first n)) w) := by
  refine ret_in (GDk.dmay_calls (some ⟨g, 0, none⟩) first n w (fun u w' => u = .int .i64 (mayE S first n) ∧ Below w.heap.size w w') ?_)
  unfold GDk.dmay_vc mayE
  have h1 := hW.n2
  refine br_f rfl ⟨S.off, h.c3, ?_⟩
  cases ho : S.off
  · rw [if_neg (by decide)]
    refine br_f rfl (br_dec (fun q => ⟨by rw [if_neg (by omega)], Bs.refl _⟩) fun q1 => br_dec (fun q => ⟨by rw [if_neg (by omega)], Bs.refl _⟩) fun q2 => ⟨some ⟨gl, 0, none⟩, S.n, S.n, h.c0, br_dec (fun q => ⟨by rw [if_neg (by omega)], Bs.refl _⟩) fun q3 => ⟨some ⟨gl, 0, none⟩, S.n, S.n, h.c0, ?_⟩⟩)
    rw [wr64 (by omega) (by omega)]
    exact br_dec (fun q => ⟨by rw [if_neg (by omega)], Bs.refl _⟩) fun q4 => ⟨by rw [if_pos ⟨by omega, by omega, by omega, by omega⟩], Bs.refl _⟩
  · rw [if_pos rfl]
    exact br_t rfl ⟨rfl, Bs.refl _⟩
theorem dmay_nil (first n : Int) (w : World) : Calls Try.prog 53 #[.pointer none, .int .i64 first, .int .i64 n] w (Ret (.int .i64 1) w) := by
  refine ret_in (GDk.dmay_calls none first n w (fun u w' => u = .int .i64 1 ∧ Below w.heap.size w w') ?_)
  unfold GDk.dmay_vc
  exact br_t rfl ⟨rfl, Bs.refl _⟩
theorem dsize_ret {w : World} {g gl mb : Nat} {S : DS} (h : DkAt w g gl mb S) : Calls Try.prog 58 #[.pointer (some ⟨g, 0, none⟩)] w (Ret (.int .i64 S.n) w) := by
  refine ret_in (GDk.dsize_calls (some ⟨g, 0, none⟩) w (fun u w' => u = .int .i64 S.n ∧ Below w.heap.size w w') ?_)
  unfold GDk.dsize_vc
  exact br_f rfl ⟨some ⟨gl, 0, none⟩, S.n, S.n, h.c0, rfl, Bs.refl _⟩
theorem dsize_nil (w : World) : Calls Try.prog 58 #[.pointer none] w (Ret (.int .i64 0) w) := by
  refine ret_in (GDk.dsize_calls none w (fun u w' => u = .int .i64 0 ∧ Below w.heap.size w w') ?_)
  unfold GDk.dsize_vc
  exact br_t rfl ⟨rfl, Bs.refl _⟩
theorem doff_ret {w : World} {g gl mb : Nat} {S : DS} (h : DkAt w g gl mb S) : Calls Try.prog 38 #[.pointer (some ⟨g, 0, none⟩)] w (Ret (.bool S.off) w) := by
  refine ret_in (GDk.doff_calls (some ⟨g, 0, none⟩) w (fun u w' => u = .bool S.off ∧ Below w.heap.size w w') ?_)
  unfold GDk.doff_vc
  exact br_f rfl ⟨S.off, h.c3, rfl, Bs.refl _⟩
theorem doff_nil (w : World) : Calls Try.prog 38 #[.pointer none] w (Ret (.bool true) w) := by
  refine ret_in (GDk.doff_calls none w (fun u w' => u = .bool true ∧ Below w.heap.size w w') ?_)
  unfold GDk.doff_vc
  exact br_t rfl ⟨rfl, Bs.refl _⟩
/-- New bytes. -/
def NewBs (w : World) (bs : List UInt8) (a : Option Addr) (n c : Nat) (w' : World) : Prop := n = bs.length ∧ Own w' w.heap.size 5 1 (.slice a n c) n (bs.map bV) ∧ Below w.heap.size w w'
theorem dread_new {w : World} {g gl mb : Nat} {S : DS} (h : DkAt w g gl mb S) (hW : DWf S) (first n : Int) :
    Calls Try.prog 18 #[.pointer (some ⟨g, 0, none⟩), .int .i64 first, .int .i64 n] w fun e w' => ∃ a m c, e = .returned (.tuple #[.slice a m c, .int .i64 (mayE S first n)]) ∧ NewBs w (readL S first n) a m c w' := by
  refine (GDk.dread_calls (some ⟨g, 0, none⟩) first n w (fun u w' => ∃ a m c, u = .tuple #[.slice a m c, .int .i64 (mayE S first n)] ∧ NewBs w (readL S first n) a m c w') ?_).mono (by rintro e w' ⟨v, rfl, a, m, c, rfl, h⟩; exact ⟨a, m, c, rfl, h⟩)
  unfold GDk.dread_vc readL
  refine callB (Bs.refl w) (dmay_ret h hW first n) fun w2 b2 B2 => ⟨_, rfl, br_dec (fun q => ⟨none, 0, 0, rfl, by rw [if_neg q]; rfl, by rw [if_neg q]; exact Own.nil _ _ _ _, B2⟩) fun q => ?_⟩
  have q : mayE S first n = 0 := Decidable.byContradiction q
  rw [if_pos q, q]
  obtain ⟨ho, h0, h1, h3, h4⟩ := mayE_zero q
  have hn2 := hW.n2
  obtain ⟨f, rfl⟩ := Int.eq_ofNat_of_zero_le h0
  obtain ⟨k, rfl⟩ := Int.eq_ofNat_of_zero_le h1
  rw [Int.toNat_natCast, Int.toNat_natCast]
  refine ⟨fun a m c x wy => ∃ i : Nat, x = i ∧ i ≤ k ∧ m = (readS S f i).length ∧ Own wy w.heap.size 5 1 (.slice a m c) m ((readS S f i).map bV) ∧ Bs w wy, fun _ _ _ x _ => k - x.toNat, ⟨0, rfl, by omega, rfl, Own.nil _ _ _ _, B2⟩, ?_⟩
  rintro a m c x wy ⟨i, rfl, hi, rfl, hO, By⟩
  refine br_dec (fun hlt => ?_) fun hge => ?_
  · have hik : i < k := by omega
    have hy := h.below By
    have hl := readS_len hW f i
    rw [wr64 (z := (f : Int) + i) (by omega) (by omega), wr64 (z := (i : Int) + 1) (by omega) (by omega), show (f : Int) + i = ((f + i : Nat) : Int) by omega]
    -- the piece that is put behind, whichever it is
    have fin : ∀ {wz : World} {g1 : Nat} {s : List UInt8}, s = nowS S (f + i) → Bk wz g1 (s.map bV).toArray 110 → Below wy.heap.size wy wz → Bs w wz →
        appO Try.prog [] wz 5 1 1 22 a (readS S f i).length c (.slice (some ⟨g1, 0, none⟩) 64 64) fun m48 a48 c48 w10 =>
          (∃ j : Nat, (i : Int) + 1 = j ∧ j ≤ k ∧ (readS S f i).length + m48 = (readS S f j).length ∧ Own w10 w.heap.size 5 1 (.slice a48 ((readS S f i).length + m48) c48) ((readS S f i).length + m48) ((readS S f j).map bV) ∧ Bs w w10) ∧ k - ((i : Int) + 1).toNat < k - (i : Int).toNat := fun {wz g1 s} hs hb by' Bz => by
      have h64 : s.length = 64 := by rw [hs]; exact hW.now _
      refine appB Bz (hO.below by' (Nat.le_refl _)) (Nat.le_refl _) Bz.size (src_block (n := 64) (size := 1) (cs := s.map bV) Try.underlying22 hb (by rw [List.length_map, h64]) (allOne_b s)) (by unfold maxLen; omega) (by omega) (fun q hq => by cases hq) fun a' c' w11 o11 gr11 B11 z11 => ⟨⟨i + 1, by omega, by omega, ?_, ?_, B11⟩, by omega⟩
      · rw [readS_len hW, readS_len hW]; omega
      · rw [readS_succ, List.map_append, ← hs]; exact o11
    cases hc : S.cch (f + i) with
    | some s =>
      have h64 := (hW.cch _ _ hc).2
      refine ⟨some mb, hy.c1, s, h64, true, hy.hit hc, newB By fun g1 w3 g10 sg1 n3 z3 b3 B3 => condB h64 (stB B3 g10 n3 (by rw [List.length_map, h64]; rfl) (fun q hq => by cases hq) fun w4 n4 f4 B4 z4 => br_f rfl ?_)⟩
      exact fin (by unfold nowS; rw [hc]; rfl) n4 (Bs.fr1 (show Bs wy w3 from b3) f4 (by omega)) B4
    | none =>
      refine ⟨some mb, hy.c1, zero64, rfl, false, hy.miss hc, newB By fun g1 w3 g10 sg1 n3 z3 b3 B3 => condB rfl (stB B3 g10 n3 (by rfl) (fun q hq => by cases hq) fun w4 n4 f4 B4 z4 => br_t rfl ?_)⟩
      have bx : Bs wy w4 := Bs.fr1 (show Bs wy w3 from b3) f4 (by omega)
      have h4' := hy.below bx
      refine ⟨some ⟨gl, 0, none⟩, S.n, S.n, h4'.c0, by omega, by omega, S.last (f + i), hW.last _, by rw [Int.toNat_natCast]; exact h4'.secs hW (by omega), condB (hW.last _) (stB B4 g10 n4 (by rw [List.length_map, hW.last]; rfl) (fun q hq => by cases hq) fun w5 n5 f5 B5 z5 => ?_)⟩
      exact fin (by unfold nowS; rw [hc]; rfl) n5 (Bs.fr1 bx f5 (by omega)) B5
  · obtain rfl : i = k := by omega
    exact ⟨a, _, c, rfl, rfl, hO, By⟩
theorem dread_nil (first n : Int) (w : World) : Calls Try.prog 18 #[.pointer none, .int .i64 first, .int .i64 n] w (Ret (.tuple #[.slice none 0 0, .int .i64 1]) w) := by
  refine ret_in (GDk.dread_calls none first n w (fun u w' => u = .tuple #[.slice none 0 0, .int .i64 1] ∧ Below w.heap.size w w') ?_)
  unfold GDk.dread_vc
  exact callB (Bs.refl w) (dmay_nil first n w) fun w2 b2 B2 => ⟨_, rfl, br_y (by decide) ⟨rfl, B2⟩⟩
end Go.Proofs.Ytpfmadinijofeaa
end
section
/- Loops over maps: how far they are. No program in sight. -/
namespace Go.Proofs.Ytpfmadinijofeaa
open Go.RowKit Go.MapKept
def iterLen (w : World) (g : Nat) : Nat := match w.heap[g]? with
  | some (.mapIter _ _ sb _) => sb.size
  | _ => 0
theorem IterAt.len {w : World} {g b : Nat} {m : List (Int × Value)} {seen : List Int} (h : IterAt w g b m seen) : iterLen w g = seen.length := by
  obtain ⟨es, clock, sb, hb, hs, hm, hi, L, hL, hsb, hsk⟩ := h
  unfold iterLen
  rw [hi]
  have h1 := congrArg List.length hsb
  have h2 := congrArg List.length hsk
  simp at h1 h2
  show sb.size = _
  omega
theorem nodup_sub : ∀ {l l' : List Int}, l.Nodup → (∀ x ∈ l, x ∈ l') → l.length ≤ l'.length
  | [], _, _, _ => Nat.zero_le _
  | x :: r, l', hn, h => by
    rw [List.nodup_cons] at hn
    have hx := h x (List.mem_cons_self ..)
    have h1 := List.length_erase_of_mem hx
    have h2 := nodup_sub (l := r) (l' := l'.erase x) hn.2 fun y hy => by
      have hne : y ≠ x := fun e => hn.1 (e ▸ hy)
      exact (List.mem_erase_of_ne hne).2 (h y (List.mem_cons_of_mem _ hy))
    have := List.length_pos_of_mem hx
    simp only [List.length_cons]
    omega
/-- What a loop over a map knows. -/
structure Loop (w : World) (g b : Nat) (m : List (Int × Value)) (seen : List Int) : Prop where
  at' : IterAt w g b m seen
  nodup : seen.Nodup
  sub : ∀ k ∈ seen, k ∈ m.map (·.1)
section
variable {w w1 : World} {g b : Nat} {m : List (Int × Value)} {seen : List Int}
theorem Loop.start (h : IterAt w g b m []) : Loop w g b m [] := ⟨h, List.nodup_nil, fun _ h => by cases h⟩
theorem Loop.step (h : Loop w g b m seen) {k : Int} {v : Value} (hm : (k, v) ∈ m) (hk : k ∉ seen) (h1 : IterAt w1 g b m (seen ++ [k])) : Loop w1 g b m (seen ++ [k]) :=
  ⟨h1, List.nodup_append.2 ⟨h.nodup, by simp, fun a ha b hb => by rw [List.mem_singleton] at hb; subst hb; exact fun e => hk (e ▸ ha)⟩, fun x hx => by
    rcases List.mem_append.1 hx with hx | hx
    · exact h.sub x hx
    · rw [List.mem_singleton] at hx; subst hx; exact List.mem_map.2 ⟨_, hm, rfl⟩⟩
theorem Loop.le (h : Loop w g b m seen) : seen.length ≤ m.length := by have := nodup_sub h.nodup h.sub; simpa using this
theorem Loop.more (h : Loop w g b m seen) {k : Int} {v : Value} (hm : (k, v) ∈ m) (hk : k ∉ seen) : seen.length < m.length := by
  have := nodup_sub (l := k :: seen) (l' := m.map (·.1)) (List.nodup_cons.2 ⟨hk, h.nodup⟩) fun x hx => by
    rcases List.mem_cons.1 hx with rfl | hx
    · exact List.mem_map.2 ⟨_, hm, rfl⟩
    · exact h.sub x hx
  simp at this
  omega
theorem Loop.keep (h : Loop w g b m seen) (hb : w1.heap[b]? = w.heap[b]?) (hg : w1.heap[g]? = w.heap[g]?) : Loop w1 g b m seen := ⟨h.at'.keep hb hg, h.nodup, h.sub⟩
theorem Loop.below (h : Loop w g b m seen) (hb : Below w.heap.size w w1) : Loop w1 g b m seen := h.keep (hb.block b h.at'.lt.2) (hb.block g h.at'.lt.1)
theorem Loop.box {x : Nat} {cs : Array Value} {t : TypeId} {fr : Nat × Nat} (h : Loop w g b m seen) (hx : w.heap[x]? = some (.cells cs t fr)) (hf : Fr [x] w w1) : Loop w1 g b m seen := by
  have h1 : b ≠ x := fun e => by
    obtain ⟨es, clock, sb, hb, _⟩ := h.at'
    rw [e, hx] at hb; cases hb
  have h2 : g ≠ x := fun e => by
    obtain ⟨es, clock, sb, hb, _, _, hi, _⟩ := h.at'
    rw [e, hx] at hi; cases hi
  exact h.keep (hf.block b h.at'.lt.2 (by rw [List.mem_singleton]; exact h1)) (hf.block g h.at'.lt.1 (by rw [List.mem_singleton]; exact h2))
end
end Go.Proofs.Ytpfmadinijofeaa
end
