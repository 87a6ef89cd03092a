/- The law of pairs, walked. -/
import Derived.Test.YtlgdapgocbmcfaaBigTimes
import Derived.Test.YtlgdapgocbmcfaaBigLaws
namespace Go.Proofs.Ytlgdapgocbmcfaa
open Go.RowKit
theorem sign_mul (x y : Int) : decide (x * y < 0) = ((decide (x < 0) != decide (y < 0)) && !(decide ((x * y).natAbs = 0))) := by
  rcases Int.lt_trichotomy x 0 with hx | hx | hx <;> rcases Int.lt_trichotomy y 0 with hy | hy | hy
  · have := Int.mul_pos_of_neg_of_neg hx hy
    rw [decide_eq_true hx, decide_eq_true hy, decide_eq_false (by omega)]; rfl
  · subst hy; simp
  · have := Int.mul_neg_of_neg_of_pos hx hy
    rw [decide_eq_true hx, decide_eq_false (show ¬ y < 0 by omega), decide_eq_true this, decide_eq_false (show ¬ (x * y).natAbs = 0 by omega)]; rfl
  · subst hx; simp
  · subst hx; simp
  · subst hx; simp
  · have := Int.mul_neg_of_pos_of_neg hx hy
    rw [decide_eq_false (show ¬ x < 0 by omega), decide_eq_true hy, decide_eq_true this, decide_eq_false (show ¬ (x * y).natAbs = 0 by omega)]; rfl
  · subst hy; simp
  · have := Int.mul_pos hx hy
    rw [decide_eq_false (show ¬ x < 0 by omega), decide_eq_false (show ¬ y < 0 by omega), decide_eq_false (show ¬ x * y < 0 by omega)]; rfl
theorem rTimes_any (x y : Int) (hx : x.natAbs < 2 ^ (32 * 5)) (hy : y.natAbs < 2 ^ (32 * 5)) (w : World) :
    Calls Try.prog 32 #[bigOf x, bigOf y] w fun e w' => e = .returned (bigOf (x * y)) ∧ Below w.heap.size w w' :=
  rTimes_nat x.natAbs y.natAbs (x * y).natAbs (Int.natAbs_mul x y) (decide (x < 0)) (decide (y < 0)) (decide (x * y < 0)) (sign_mul x y) hx hy w
theorem fitV_out (z : Int) : ∃ x o, fitV z = .tuple #[.int .i64 x, .bool o] := ⟨_, _, rfl⟩
set_option maxRecDepth 100000 in
set_option maxHeartbeats 4000000 in
theorem lPairs_walk (a b : Int) (w : World) (ha : -9223372036854775808 ≤ a ∧ a ≤ 9223372036854775807) (hb : -9223372036854775808 ≤ b ∧ b ≤ 9223372036854775807) :
    Calls Try.prog 8 #[.int .i64 a, .int .i64 b] w fun e w' => e = .returned (.bool true) ∧ Below w.heap.size w w' := by
  obtain ⟨x1, o1, hf1⟩ := fitV_out (a + b)
  obtain ⟨x2, o2, hf2⟩ := fitV_out (a - b)
  obtain ⟨x3, o3, hf3⟩ := fitV_out (a * b)
  have F1 := Box.mk hf1; have F2 := Box.mk hf2; have F3 := Box.mk hf3
  have HA := Box.mk ha; have HB := Box.mk hb
  have P1 := Box.mk (show 2 * a.natAbs < lim from lim_big (k := 100) (by omega) (by omega))
  have P2 := Box.mk (show 2 * b.natAbs < lim from lim_big (k := 100) (by omega) (by omega))
  have P3 := Box.mk (show (a + b).natAbs < lim from lim_big (k := 100) (by omega) (by omega))
  have P4 := Box.mk (show (a - b).natAbs < lim from lim_big (k := 100) (by omega) (by omega))
  have hm : a.natAbs * b.natAbs ≤ 9223372036854775808 * 9223372036854775808 := Nat.mul_le_mul (by omega) (by omega)
  have P5 := Box.mk (show (a * b).natAbs < lim from lim_big (k := 200) (by omega) (by rw [Int.natAbs_mul]; omega))
  have P6 := Box.mk (show a.natAbs < 2 ^ (32 * 5) from (by omega))
  have P7 := Box.mk (show b.natAbs < 2 ^ (32 * 5) from (by omega))
  clear hf1 hf2 hf3 ha hb hm
  go_enter Try.func8, Try.ntmps8
  go_wp2_with fail
  refine (aAdd_any a b HA.out.1 HA.out.2 HB.out.1 HB.out.2 _ _ F1.out.symm).mono ?_
  rintro e W ⟨rfl, rfl⟩
  go_wp2_with fail
  refine (rOf_any a _ HA.out.1 (by have := HA.out; omega)).mono ?_
  rintro e W1 ⟨rfl, hb1⟩
  have B1 := Box.mk hb1; clear hb1
  go_wp2_with fail
  refine (rOf_any b _ HB.out.1 (by have := HB.out; omega)).mono ?_
  rintro e W2 ⟨rfl, hb2⟩
  have B2 := Box.mk (B1.out.trans (hb2.mono B1.out.size)); clear hb2
  go_wp2_with fail
  refine (rPlus_any a b P1.out P2.out _).mono ?_
  rintro e W3 ⟨rfl, hb3⟩
  have B3 := Box.mk (B2.out.trans (hb3.mono B2.out.size)); clear hb3
  go_wp2_with fail
  refine (rIntZ_any (a + b) P3.out _).mono ?_
  rintro e W4 ⟨rfl, hb4⟩
  have B4 := Box.mk (B3.out.trans (hb4.mono B3.out.size)); clear hb4
  rw [F1.out]
  go_wp2_with fail
  refine (aSub_any a b HA.out.1 HA.out.2 HB.out.1 HB.out.2 _ _ F2.out.symm).mono ?_
  rintro e W ⟨rfl, rfl⟩
  go_wp2_with fail
  refine (rOf_any a _ HA.out.1 (by have := HA.out; omega)).mono ?_
  rintro e W5 ⟨rfl, hb5⟩
  have B5 := Box.mk (B4.out.trans (hb5.mono B4.out.size)); clear hb5
  go_wp2_with fail
  refine (rOf_any b _ HB.out.1 (by have := HB.out; omega)).mono ?_
  rintro e W6 ⟨rfl, hb6⟩
  have B6 := Box.mk (B5.out.trans (hb6.mono B5.out.size)); clear hb6
  go_wp2_with fail
  refine (rMinus_any b (by have := P2.out; omega) _).mono ?_
  rintro e W7 ⟨rfl, hb7⟩
  have B7 := Box.mk (B6.out.trans (hb7.mono B6.out.size)); clear hb7
  go_wp2_with fail
  refine (rPlus_any a (-b) P1.out (by rw [Int.natAbs_neg]; exact P2.out) _).mono ?_
  rintro e W8 ⟨rfl, hb8⟩
  have B8 := Box.mk (B7.out.trans (hb8.mono B7.out.size)); clear hb8
  rw [← Int.sub_eq_add_neg]
  go_wp2_with fail
  refine (rIntZ_any (a - b) P4.out _).mono ?_
  rintro e W9 ⟨rfl, hb9⟩
  have B9 := Box.mk (B8.out.trans (hb9.mono B8.out.size)); clear hb9
  rw [F2.out]
  go_wp2_with fail
  refine (aMul_any a b HA.out.1 HA.out.2 HB.out.1 HB.out.2 _ _ F3.out.symm).mono ?_
  rintro e W ⟨rfl, rfl⟩
  go_wp2_with fail
  refine (rOf_any a _ HA.out.1 (by have := HA.out; omega)).mono ?_
  rintro e W10 ⟨rfl, hb10⟩
  have B10 := Box.mk (B9.out.trans (hb10.mono B9.out.size)); clear hb10
  go_wp2_with fail
  refine (rOf_any b _ HB.out.1 (by have := HB.out; omega)).mono ?_
  rintro e W11 ⟨rfl, hb11⟩
  have B11 := Box.mk (B10.out.trans (hb11.mono B10.out.size)); clear hb11
  go_wp2_with fail
  refine (rTimes_any a b P6.out P7.out _).mono ?_
  rintro e W12 ⟨rfl, hb12⟩
  have B12 := Box.mk (B11.out.trans (hb12.mono B11.out.size)); clear hb12
  go_wp2_with fail
  refine (rIntZ_any (a * b) P5.out _).mono ?_
  rintro e W13 ⟨rfl, hb13⟩
  have B13 := Box.mk (B12.out.trans (hb13.mono B12.out.size)); clear hb13
  rw [F3.out]
  go_wp2_with fail
  refine (sums1_any _).mono ?_
  rintro e W ⟨rfl, rfl⟩
  go_wp2
  go_ret
  exact ⟨rfl, B13.out⟩
end Go.Proofs.Ytlgdapgocbmcfaa
