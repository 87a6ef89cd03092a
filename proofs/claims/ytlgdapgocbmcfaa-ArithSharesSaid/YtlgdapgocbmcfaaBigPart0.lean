/- 'Blocks' of both, walked. -/
import Derived.Test.YtlgdapgocbmcfaaBigLaws2
namespace Go.Proofs.Ytlgdapgocbmcfaa
open Go.RowKit
/-- How many blocks, and whether there are any to be told. -/
def blkB (u b : Int) : Bool := decide (0 ≤ u ∧ 1 ≤ b)
def blkV (u b : Int) : Int := if blkB u b = true then (u + b - 1) / b else 0
def blkT (u b : Int) : Value := .tuple #[.int .i64 (blkV u b), .bool (blkB u b)]
theorem blkT_no {u b : Int} (h : u < 0 ∨ b < 1) : blkT u b = .tuple #[.int .i64 0, .bool false] := by
  have : blkB u b = false := by unfold blkB; simp; omega
  unfold blkT blkV; rw [this]; rfl
theorem blkT_yes {u b : Int} (h1 : 0 ≤ u) (h2 : 1 ≤ b) : blkT u b = .tuple #[.int .i64 ((u + b - 1) / b), .bool true] := by
  have : blkB u b = true := by unfold blkB; simp; omega
  unfold blkT blkV; rw [this]; rfl
theorem blk_one {u b : Int} (h1 : 1 ≤ u) (h2 : 1 ≤ b) : (u - 1).tdiv b + 1 = (u + b - 1) / b ∧ 0 ≤ (u - 1) / b ∧ (u - 1) / b < u := by
  rw [Int.tdiv_eq_ediv_of_nonneg (by omega), show u + b - 1 = (u - 1) + 1 * b by omega, Int.add_mul_ediv_right _ _ (by omega)]
  refine ⟨rfl, Int.ediv_nonneg (by omega) (by omega), ?_⟩
  have := Int.ediv_le_self b (show 0 ≤ u - 1 by omega)
  omega
set_option maxRecDepth 100000 in
set_option maxHeartbeats 2000000 in
theorem aBlocks_any (u b : Int) (hu : u ≤ 9223372036854775807) (hb : b ≤ 9223372036854775807) (hu0 : -9223372036854775808 ≤ u) (hb0 : -9223372036854775808 ≤ b) (w : World) (v : Value) (hv : v = blkT u b) :
    Calls Try.prog 46 #[.int .i64 u, .int .i64 b] w fun e w' => e = .returned v ∧ w' = w := by
  by_cases h1 : u < 0
  · obtain rfl : v = .tuple #[.int .i64 0, .bool false] := by rw [hv]; exact blkT_no (.inl h1)
    clear hv
    go_enter Try.func46, Try.ntmps46
    go_wp2
    go_ret2
    exact ⟨rfl, rfl⟩
  · by_cases h2 : b < 1
    · obtain rfl : v = .tuple #[.int .i64 0, .bool false] := by rw [hv]; exact blkT_no (.inr h2)
      clear hv
      go_enter Try.func46, Try.ntmps46
      go_wp2
      go_ret2
      exact ⟨rfl, rfl⟩
    · by_cases h3 : u = 0
      · subst h3
        obtain rfl : v = .tuple #[.int .i64 0, .bool true] := by
          rw [hv, blkT_yes (by omega) (by omega), show 0 + b - 1 = b - 1 by omega, Int.ediv_eq_zero_of_lt (by omega) (by omega)]
        clear hv
        go_enter Try.func46, Try.ntmps46
        go_wp2
        go_ret2
        exact ⟨rfl, rfl⟩
      · have hk := blk_one (u := u) (b := b) (by omega) (by omega)
        obtain ⟨k1, k2, k3⟩ := hk
        rw [Int.tdiv_eq_ediv_of_nonneg (by omega)] at k1
        obtain ⟨q, hq⟩ : ∃ q, q = (u - 1) / b := ⟨_, rfl⟩
        rw [← hq] at k1 k2 k3
        obtain rfl : v = .tuple #[.int .i64 (q + 1), .bool true] := by rw [hv, blkT_yes (by omega) (by omega), k1]
        have ht : (u - 1).tdiv b = q := by rw [hq]; exact Int.tdiv_eq_ediv_of_nonneg (by omega)
        have h3' : (u == 0) = false := by simp; omega
        have hb0 : (b == 0) = false := by simp; omega
        have HQ := Box.mk hq
        clear hv k1 hq h3
        go_enter Try.func46, Try.ntmps46
        go_wp2
        go_ret2
        exact ⟨rfl, rfl⟩
theorem blk_two {u b : Int} (h1 : 0 ≤ u) (h2 : 1 ≤ b) : (u % b = 0 → (u + b - 1) / b = u / b) ∧ (u % b ≠ 0 → (u + b - 1) / b = u / b + 1) ∧ 0 ≤ u / b ∧ u / b ≤ u ∧ (u % b ≠ 0 → u / b < u) := by
  have hd := Int.mul_ediv_add_emod u b
  have m0 := Int.emod_nonneg u (show b ≠ 0 by omega)
  have m1 := Int.emod_lt_of_pos u (show 0 < b by omega)
  have q0 : 0 ≤ u / b := Int.ediv_nonneg h1 (by omega)
  have q1 := Int.ediv_le_self b h1
  have e : u + b - 1 = (u % b + b - 1) + (u / b) * b := by rw [Int.mul_comm]; omega
  refine ⟨fun h => ?_, fun h => ?_, q0, q1, fun h => ?_⟩
  · rw [e, Int.add_mul_ediv_right _ _ (by omega), h, Int.ediv_eq_zero_of_lt (by omega) (by omega)]; omega
  · rw [e, Int.add_mul_ediv_right _ _ (by omega), show u % b + b - 1 = (u % b - 1) + 1 * b by omega, Int.add_mul_ediv_right _ _ (by omega), Int.ediv_eq_zero_of_lt (by omega) (by omega)]; omega
  · refine Classical.byContradiction fun h3 => ?_
    · have h4 : u / b = u := by omega
      rw [h4] at hd
      have : u ≤ b * u := by
        have := Int.mul_le_mul_of_nonneg_right h2 h1
        omega
      omega
set_option maxRecDepth 100000 in
set_option maxHeartbeats 2000000 in
theorem rBlocks_any (u b : Int) (hu : u ≤ 9223372036854775807) (hb : b ≤ 9223372036854775807) (hu0 : -9223372036854775808 ≤ u) (hb0 : -9223372036854775808 ≤ b) (w : World) (v : Value) (hv : v = blkT u b) :
    Calls Try.prog 47 #[.int .i64 u, .int .i64 b] w fun e w' => e = .returned v ∧ w' = w := by
  by_cases h1 : u < 0
  · obtain rfl : v = .tuple #[.int .i64 0, .bool false] := by rw [hv]; exact blkT_no (.inl h1)
    clear hv
    go_enter Try.func47, Try.ntmps47
    go_wp2
    go_ret2
    exact ⟨rfl, rfl⟩
  · by_cases h2 : b < 1
    · obtain rfl : v = .tuple #[.int .i64 0, .bool false] := by rw [hv]; exact blkT_no (.inr h2)
      clear hv
      go_enter Try.func47, Try.ntmps47
      go_wp2
      go_ret2
      exact ⟨rfl, rfl⟩
    · have hk := blk_two (u := u) (b := b) (by omega) (by omega)
      obtain ⟨k1, k2, k3, k4, k5⟩ := hk
      have hy := blkT_yes (u := u) (b := b) (by omega) (by omega)
      rw [hy] at hv
      have ht : u.tdiv b = u / b := Int.tdiv_eq_ediv_of_nonneg (by omega)
      have hr : u.tmod b = u % b := Int.tmod_eq_emod_of_nonneg (by omega)
      generalize u / b = q at *
      generalize (u + b - 1) / b = n at *
      generalize u % b = r at *
      by_cases h3 : r = 0
      · obtain rfl : v = .tuple #[.int .i64 q, .bool true] := by rw [hv, k1 h3]
        subst h3
        have hb1 : (b == 0) = false := by simp; omega
        clear hv k1 k2 k5 hy
        go_enter Try.func47, Try.ntmps47
        go_wp2
        go_ret2
        exact ⟨rfl, rfl⟩
      · obtain rfl : v = .tuple #[.int .i64 (q + 1), .bool true] := by rw [hv, k2 h3]
        have k6 := k5 h3
        have hb1 : (b == 0) = false := by simp; omega
        have hr1 : (r != 0) = true := by simp; omega
        clear hv k1 k2 k5 hy h3
        go_enter Try.func47, Try.ntmps47
        go_wp2
        go_ret2
        exact ⟨rfl, rfl⟩
end Go.Proofs.Ytlgdapgocbmcfaa
