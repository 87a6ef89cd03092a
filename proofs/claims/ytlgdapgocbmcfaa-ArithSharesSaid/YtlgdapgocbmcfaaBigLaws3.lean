/- The laws of parts, walked. -/
import Derived.Test.YtlgdapgocbmcfaaBigDivide
namespace Go.Proofs.Ytlgdapgocbmcfaa
open Go.RowKit
theorem blkT_out (u b : Int) : ∃ x o, blkT u b = .tuple #[.int .i64 x, .bool o] := ⟨_, _, rfl⟩
set_option maxRecDepth 100000 in
set_option maxHeartbeats 4000000 in
theorem lParts_walk (a b c : Int) (w : World) (ha : -9223372036854775808 ≤ a ∧ a ≤ 9223372036854775807) (hb : -9223372036854775808 ≤ b ∧ b ≤ 9223372036854775807) (hc : -9223372036854775808 ≤ c ∧ c ≤ 9223372036854775807) :
    Calls Try.prog 11 #[.int .i64 a, .int .i64 b, .int .i64 c] w fun e w' => e = .returned (.bool true) ∧ Below w.heap.size w w' := by
  obtain ⟨x1, y1, o1, hf1⟩ := partT_out a b c
  obtain ⟨x2, o2, hf2⟩ := blkT_out a c
  have F1 := Box.mk hf1; have F2 := Box.mk hf2
  have HA := Box.mk ha; have HB := Box.mk hb; have HC := Box.mk hc
  clear hf1 hf2 ha hb hc
  go_enter Try.func11, Try.ntmps11
  go_wp2_with fail
  refine (aPart_any a b c HA.out HB.out HC.out _ _ F1.out.symm).mono ?_
  rintro e W1 ⟨rfl, hb⟩
  have B1 := Box.mk hb; clear hb
  go_wp2_with fail
  refine (rPart_any a b c HA.out HB.out HC.out _ _ F1.out.symm).mono ?_
  rintro e W2 ⟨rfl, hb⟩
  have B2 := Box.mk (B1.out.trans (hb.mono B1.out.size)); clear hb
  go_wp2_with fail
  refine (aBlocks_any a c HA.out.2 HC.out.2 HA.out.1 HC.out.1 _ _ F2.out.symm).mono ?_
  rintro e W ⟨rfl, rfl⟩
  go_wp2_with fail
  refine (rBlocks_any a c HA.out.2 HC.out.2 HA.out.1 HC.out.1 _ _ F2.out.symm).mono ?_
  rintro e W ⟨rfl, rfl⟩
  go_wp2_with fail
  refine (sums1_any _).mono ?_
  rintro e W ⟨rfl, rfl⟩
  go_wp2
  go_ret
  exact ⟨rfl, B2.out⟩
theorem bigNeq (n : Nat) (neg : Bool) (W : World) : (binOp .neq 47 (bigM n neg) (bigM n neg)).run Try.prog W = .ok (.bool false) W := by
  have heq : ∀ W : World, (Op.equalIn 9999 45 (.agg #[uV (limb n 0), uV (limb n 1), uV (limb n 2), uV (limb n 3), uV (limb n 4), uV (limb n 5), uV (limb n 6), uV (limb n 7), uV (limb n 8), uV (limb n 9)])
      (.agg #[uV (limb n 0), uV (limb n 1), uV (limb n 2), uV (limb n 3), uV (limb n 4), uV (limb n 5), uV (limb n 6), uV (limb n 7), uV (limb n 8), uV (limb n 9)])).run Try.prog W = .ok true W := fun W => by
    have h := run_equalIn_arr (P := Try.prog) 9997 Try.underlying45 Try.underlying39 (fun w => by kernel_rfl) #[uV (limb n 0), uV (limb n 1), uV (limb n 2), uV (limb n 3), uV (limb n 4), uV (limb n 5), uV (limb n 6), uV (limb n 7), uV (limb n 8), uV (limb n 9)]
      #[uV (limb n 0), uV (limb n 1), uV (limb n 2), uV (limb n 3), uV (limb n 4), uV (limb n 5), uV (limb n 6), uV (limb n 7), uV (limb n 8), uV (limb n 9)] (fun i => ((limb n i : Nat) : Int)) (fun i => ((limb n i : Nat) : Int)) (cases10 ⟨rfl, rfl⟩ ⟨rfl, rfl⟩ ⟨rfl, rfl⟩ ⟨rfl, rfl⟩ ⟨rfl, rfl⟩ ⟨rfl, rfl⟩ ⟨rfl, rfl⟩ ⟨rfl, rfl⟩ ⟨rfl, rfl⟩ ⟨rfl, rfl⟩) W
    rw [List.all_eq_true.2 (fun i _ => by simp)] at h
    exact h
  unfold bigM arr
  go_simp
/-- A count of blocks, and the last one's begin. -/
theorem blk_back {a c : Int} (h0 : 0 ≤ a) (h1 : 1 ≤ c) : 0 ≤ (a + c - 1) / c ∧ (a + c - 1) / c ≤ a ∧ (((a + c - 1) / c == 0) = (a == 0)) ∧ (1 ≤ (a + c - 1) / c → (a - 1) / c = (a + c - 1) / c - 1 ∧ 1 ≤ a) := by
  by_cases h : a = 0
  · subst h
    have e : (0 + c - 1) / c = 0 := Int.ediv_eq_zero_of_lt (by omega) (by omega)
    rw [e]
    exact ⟨by omega, by omega, rfl, by omega⟩
  · have e : (a + c - 1) / c = (a - 1) / c + 1 := by rw [show a + c - 1 = (a - 1) + 1 * c by omega, Int.add_mul_ediv_right _ _ (by omega)]
    have q0 : 0 ≤ (a - 1) / c := Int.ediv_nonneg (by omega) (by omega)
    have q1 := Int.ediv_le_self c (show 0 ≤ a - 1 by omega)
    rw [e]
    generalize (a - 1) / c = q at *
    refine ⟨by omega, by omega, ?_, by omega⟩
    rw [show (q + 1 == 0) = false by simp; omega, show (a == 0) = false by simp; omega]
set_option maxRecDepth 100000 in
set_option maxHeartbeats 4000000 in
theorem lBack_walk (a b c : Int) (w : World) (ha : -9223372036854775808 ≤ a ∧ a ≤ 9223372036854775807) (hb : -9223372036854775808 ≤ b ∧ b ≤ 9223372036854775807) (hc : -9223372036854775808 ≤ c ∧ c ≤ 9223372036854775807) :
    Calls Try.prog 12 #[.int .i64 a, .int .i64 b, .int .i64 c] w fun e w' => e = .returned (.bool true) ∧ Below w.heap.size w w' := by
  have HA := Box.mk ha; have HB := Box.mk hb; have HC := Box.mk hc
  have hp : ∃ x y o, partT a b c = .tuple #[.int .i64 x, .int .i64 y, .bool o] ∧ (o = true → ∃ q r k m n : Nat, x = q ∧ y = r ∧ a = k ∧ b = m ∧ c = n ∧ r < n ∧ q * n + r = k * m ∧ 1 ≤ n ∧ q ≤ 9223372036854775807) := by
    by_cases h : a < 0 ∨ b < 0 ∨ c < 1 ∨ 9223372036854775808 ≤ a * b / c
    · exact ⟨0, 0, false, partT_no h, fun h => by cases h⟩
    · obtain ⟨k, rfl⟩ := Int.eq_ofNat_of_zero_le (show 0 ≤ a by omega)
      obtain ⟨m, rfl⟩ := Int.eq_ofNat_of_zero_le (show 0 ≤ b by omega)
      obtain ⟨n, rfl⟩ := Int.eq_ofNat_of_zero_le (show 0 ≤ c by omega)
      rw [mulN] at h
      have h2 : ¬ (9223372036854775808 ≤ k * m / n) := by omega
      refine ⟨((k * m / n : Nat) : Int), ((k * m % n : Nat) : Int), true, partT_yes (by omega) (by omega), fun _ => ⟨k * m / n, k * m % n, k, m, n, rfl, rfl, rfl, rfl, rfl, Nat.mod_lt _ (by omega), ?_, by omega, by omega⟩⟩
      rw [Nat.mul_comm]; exact Nat.div_add_mod _ _
  obtain ⟨x, y, o, hp1, hp2⟩ := hp
  have P1 := Box.mk hp1; have P2 := Box.mk hp2
  clear hp1 hp2 ha hb hc
  go_enter Try.func12, Try.ntmps12
  go_wp2_with fail
  refine (aPart_any a b c HA.out HB.out HC.out _ _ P1.out.symm).mono ?_
  rintro e W1 ⟨rfl, hb⟩
  have B1 := Box.mk hb; clear hb
  go_wp2_with fail
  refine (sums1_any _).mono ?_
  rintro e W ⟨rfl, rfl⟩
  go_upto_region 4 with fail
  go_cut [0, 2, 47] (fun t0 t2 t47 wx => t0 = .int .i64 a ∧ t2 = .int .i64 c ∧ t47 = .bool false ∧ Below w.heap.size w wx)
  case first =>
    cases o with
    | false =>
      go_wp2
      go_meet
      case rel => exact ⟨rfl, rfl, rfl, B1.out⟩
    | true =>
      obtain ⟨q, r, k, m, n, rfl, rfl, rfl, rfl, rfl, h1, h2, h3, h4⟩ := P2.out rfl
      have hm2 : k * m < 2 ^ 126 := Nat.lt_of_lt_of_le (lim_mul (k := 63) (by have := HA.out; omega) (by have := HB.out; omega)) (Nat.le_refl _)
      have H1 := Box.mk h1; have H2 := Box.mk h2; have H3 := Box.mk h3; have H4 := Box.mk h4
      have hmul : (q : Int) * (n : Int) + (r : Int) = (k : Int) * (m : Int) := by rw [mulN, mulN]; omega
      have HMUL := Box.mk hmul
      have r0 : ¬ (r : Int) < 0 := by omega
      have r1 : (r : Int) < (n : Int) := by omega
      have r2 : ¬ (n : Int) ≤ (r : Int) := by omega
      obtain ⟨z, hz⟩ : ∃ z, z = k * m := ⟨_, rfl⟩
      have hqn : q * n ≤ z := by omega
      rw [← hz] at hm2
      have HZ := Box.mk hz; have HZ2 := Box.mk hm2; have HQN := Box.mk hqn
      have hneq := fun W => bigNeq z false W
      have hgd : ∀ W x y, (eqGuard .neq 47 x y (bigM z false) (bigM z false)).run Try.prog W = .ok () W := fun W x y => run_eqGuard_agg W .neq 47 x y _ _ (by kernel_rfl)
      clear h1 h2 h3 h4 hm2 hmul hz hqn P1 P2
      go_wp2_with fail
      refine (rOf_any q _ (by omega) (by have := H4.out; omega)).mono ?_
      rintro e W2 ⟨rfl, hb⟩
      have B2 := Box.mk (B1.out.trans (hb.mono B1.out.size)); clear hb
      go_wp2_with fail
      refine (rOf_any n _ (by omega) HC.out.2).mono ?_
      rintro e W3 ⟨rfl, hb⟩
      have B3 := Box.mk (B2.out.trans (hb.mono B2.out.size)); clear hb
      go_wp2_with fail
      refine (rTimes_any q n (by have := H4.out; omega) (by have := HC.out; omega) _).mono ?_
      rintro e W4 ⟨rfl, hb⟩
      have B4 := Box.mk (B3.out.trans (hb.mono B3.out.size)); clear hb
      go_wp2_with fail
      refine (rOf_any r _ (by omega) (by have := H1.out; have := HC.out; omega)).mono ?_
      rintro e W5 ⟨rfl, hb⟩
      have B5 := Box.mk (B4.out.trans (hb.mono B4.out.size)); clear hb
      go_wp2_with fail
      refine (rPlus_any (q * n) r ?_ ?_ _).mono ?_
      · rw [mulN]; exact lim_big (k := 128) (by omega) (by have := HQN.out; have := HZ2.out; omega)
      · exact lim_big (k := 128) (by omega) (by have := H1.out; have := HC.out; omega)
      rintro e W6 ⟨rfl, hb⟩
      have B6 := Box.mk (B5.out.trans (hb.mono B5.out.size)); clear hb
      rw [HMUL.out]
      go_wp2_with fail
      refine (rOf_any k _ (by omega) HA.out.2).mono ?_
      rintro e W7 ⟨rfl, hb⟩
      have B7 := Box.mk (B6.out.trans (hb.mono B6.out.size)); clear hb
      go_wp2_with fail
      refine (rOf_any m _ (by omega) HB.out.2).mono ?_
      rintro e W8 ⟨rfl, hb⟩
      have B8 := Box.mk (B7.out.trans (hb.mono B7.out.size)); clear hb
      go_wp2_with fail
      refine (rTimes_any k m (by have := HA.out; omega) (by have := HB.out; omega) _).mono ?_
      rintro e W9 ⟨rfl, hb⟩
      have B9 := Box.mk (B8.out.trans (hb.mono B8.out.size)); clear hb
      rw [mulN, ← HZ.out, bigOf_nat]
      go_wp2
      go_meet
      case rel => exact ⟨rfl, rfl, by rw [decide_eq_false (show ¬ (r : Int) < 0 by omega), decide_eq_false (show ¬ n ≤ r by omega)]; rfl, B9.out⟩
  case rest =>
    obtain ⟨rfl, rfl, rfl, hb⟩ := hcut
    have B2 := Box.mk hb
    clear hb B1 P1 P2
    by_cases hk : 0 ≤ a ∧ 1 ≤ c
    · obtain ⟨k1, k2⟩ := hk
      obtain ⟨b1, b2, b3, b4⟩ := blk_back k1 k2
      have F := Box.mk (blkT_yes k1 k2)
      obtain ⟨z, hz⟩ : ∃ z, z = (a + c - 1) / c := ⟨_, rfl⟩
      rw [← hz] at F b1 b2 b3 b4
      clear hz
      go_wp2_with fail
      refine (aBlocks_any a c HA.out.2 HC.out.2 HA.out.1 HC.out.1 _ _ F.out.symm).mono ?_
      rintro e W ⟨rfl, rfl⟩
      by_cases hz1 : z < 1
      · have hz0 : z = 0 := by omega
        subst hz0
        have ha0 : (a == 0) = true := by rw [← b3]; rfl
        clear b3 b4 b1 b2
        go_wp2
        go_ret
        exact ⟨rfl, B2.out⟩
      · obtain ⟨c1, c2⟩ := b4 (by omega)
        have hz0 : (z == 0) = false := by simp; omega
        have ha0 : (a == 0) = false := by rw [← b3]; exact hz0
        have hc0 : (c == 0) = false := by simp; omega
        clear b3 b4
        have ht : (a - 1).tdiv c = z - 1 := by rw [Int.tdiv_eq_ediv_of_nonneg (by omega)]; exact c1
        have w1 : wrap64 (a - 1) = a - 1 := by unfold wrap64; have := HA.out; omega
        have w2 : wrap64 (z - 1) = z - 1 := by unfold wrap64; have := HA.out; omega
        go_wp2
        go_ret
        exact ⟨by simp, B2.out⟩
    · have F := Box.mk (blkT_no (u := a) (b := c) (by omega))
      go_wp2_with fail
      refine (aBlocks_any a c HA.out.2 HC.out.2 HA.out.1 HC.out.1 _ _ F.out.symm).mono ?_
      rintro e W ⟨rfl, rfl⟩
      by_cases h1 : a < 0
      · clear hk
        go_wp2
        go_ret
        exact ⟨rfl, B2.out⟩
      · have h2 : c < 1 := by omega
        clear hk
        go_wp2
        go_ret
        exact ⟨rfl, B2.out⟩
end Go.Proofs.Ytlgdapgocbmcfaa
