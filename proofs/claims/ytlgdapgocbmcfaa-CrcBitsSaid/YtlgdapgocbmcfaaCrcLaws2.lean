/- The two other laws of crc, walked. -/
import Derived.Test.YtlgdapgocbmcfaaCrcLaws
namespace Go.Proofs.Ytlgdapgocbmcfaa
open Go.RowKit
theorem u32_low (q : Nat) (h : q < 4294967296) : bits BinOp.and IntKind.u32 (q : Int) 1 = ((q % 2 : Nat) : Int) := by
  rw [show (1 : Int) = ((1 : Nat) : Int) from rfl, u32_and_nat _ _ h (by omega), nat_mask1]
theorem st_yes {q : Nat} (h : (((q % 2 : Nat) : Int) == 1) = true) : st q = (q / 2) ^^^ 3988292384 := by
  have := beq_iff_eq.1 h
  unfold st; rw [if_pos (by omega)]
theorem st_no {q : Nat} (h : (((q % 2 : Nat) : Int) == 1) = false) : st q = q / 2 := by
  have := beq_eq_false_iff_ne.1 h
  unfold st; rw [if_neg (by omega)]
set_option maxRecDepth 100000 in
set_option maxHeartbeats 1000000 in
theorem lany_walk (n : Nat) (a : Option Addr) (ca : Nat) (al : List UInt8) (w : World) (hn : n < 4294967296) (hla : al.length ≤ ca) (hra : RowAt w a (al.map bV)) :
    Calls Try.prog 7 #[.int .u32 n, .slice a al.length ca] w fun e w' => e = .returned (.bool true) ∧ Below w.heap.size w w' := by
  have ma : min (al.length : Int) 300 = ((al.take 300).length : Int) := min_take al 300
  have ra := slice_row hra 300
  have la : (al.take 300).length ≤ ca ∧ (al.take 300).length ≤ 300 := by rw [List.length_take]; omega
  generalize al.take 300 = xs at *
  have RA := hid ra
  clear ra hra hla
  obtain ⟨la, la5⟩ := la
  have qa0 : (0 : Int) ≤ (xs.length : Int) := by omega
  have qa1 : (xs.length : Int) ≤ (ca : Int) := by omega
  have LA := hid la5
  have hnot := u32_not n hn
  go_enter Try.func7, Try.ntmps7
  go_wp2
  clear ma qa0 qa1
  go_loop [5,6,7,8,16,17,18,19,20,21,22,23,24,25,26,27,28,29,30,31,32,33,34,35,36,37,38,39,40] (fun t5 t6 _ _ _ _ _ _ _ _ _ _ _ _ _ _ _ _ _ _ _ _ _ _ _ _ _ _ _ => ∃ k : Nat, k ≤ xs.length ∧ t6 = .int .i64 k ∧ t5 = V32 (crcL (cpl n) (xs.take k))) (fun t5 t6 _ _ _ _ _ _ _ _ _ _ _ _ _ _ _ _ _ _ _ _ _ _ _ _ _ _ _ => xs.length - (intOf t6).toNat)
  case atStart => exact ⟨0, by omega, rfl, rfl⟩
  case round =>
    obtain ⟨k, hk, rfl, rfl⟩ := hrel
    have h0 : crcL (cpl n) (xs.take k) < 4294967296 := crcL_lt _ (cpl_lt hn)
    by_cases hlt : k < xs.length
    · have hsn := hid (crcL_snoc (cpl n) xs k hlt)
      generalize crcL (cpl n) (xs.take k) = m at *
      obtain ⟨b, off, rfl, hc⟩ := RA.out.byte hlt
      have hx := (xs[k]).toNat_lt
      generalize (xs[k]).toNat = x at *
      have e1 := u32_xor_nat m x h0 (by omega)
      have l1 := xlt h0 (show x < 4294967296 by omega)
      have hcb := hid (cb_iter m x)
      generalize m ^^^ x = y at *
      clear hnot
      unfold V32
      go_wp2
      go_loop [5,7,8,29,30,31,32,33,34,35,36,37,38,39,40] (fun t5 t7 _ _ _ _ _ _ _ _ _ _ _ _ _ => ∃ j : Nat, j ≤ 8 ∧ t7 = .int .i64 j ∧ t5 = V32 (iter st j y)) (fun t5 t7 _ _ _ _ _ _ _ _ _ _ _ _ _ => 8 - (intOf t7).toNat)
      case atStart => exact ⟨0, by omega, rfl, rfl⟩
      case round =>
        obtain ⟨j, hj, rfl, rfl⟩ := hrel
        have h1 := iter_lt j l1
        have Hr := hid (show iter st (j + 1) y = st (iter st j y) from rfl)
        generalize hq : iter st j y = q at *
        have Hq := hid hq; clear hq
        unfold V32
        by_cases hlj : j < 8
        · have HB := hid (u32_low q h1)
          have HX := hid (u32_xor_half q h1)
          clear hc e1
          go_wp2
          · have ht : (bits BinOp.and IntKind.u32 (q : Int) 1 == 1) = true := by assumption
            rw [HB.out] at ht
            go_round
            case rel => exact ⟨j + 1, by omega, by go_num, by rw [Hr.out, HX.out, st_yes ht]⟩
            case measure => simp [intOf]; omega
          · have ht : (bits BinOp.and IntKind.u32 (q : Int) 1 == 1) = false := by assumption
            rw [HB.out] at ht
            go_round
            case rel => exact ⟨j + 1, by omega, by go_num, by rw [Hr.out, st_no ht]; rfl⟩
            case measure => simp [intOf]; omega
        · obtain rfl : j = 8 := by omega
          go_wp2
          go_round
          case rel => exact ⟨k + 1, by omega, by go_num, by rw [hsn.out, hcb.out, Hq.out]⟩
          case measure => simp [intOf]; omega
    · obtain rfl : k = xs.length := by omega
      rw [List.take_length] at h0 ⊢
      have Hf := hid (show more n xs = cpl (crcL (cpl n) xs) from rfl)
      generalize crcL (cpl n) xs = m at *
      clear hnot
      unfold V32
      go_wp2_with fail
      refine (sums2_any _).mono ?_
      rintro e W1 ⟨rfl, hb1⟩
      have B1 := hid hb1
      have RA1 := hid (RA.out.below hb1 (Nat.le_refl _)); clear hb1
      go_wp2_with fail
      refine (more_any n a ca xs _ hn (by have := LA.out; unfold maxLen; omega) RA1.out).mono ?_
      rintro e W2 ⟨rfl, hb2⟩
      have B2 := hid (B1.out.trans (hb2.mono B1.out.size)); clear hb2
      rw [Hf.out]
      have hc := u32_not m h0
      generalize cpl m = r at *
      go_wp2_with fail
      go_ret
      exact ⟨rfl, B2.out⟩
end Go.Proofs.Ytlgdapgocbmcfaa
