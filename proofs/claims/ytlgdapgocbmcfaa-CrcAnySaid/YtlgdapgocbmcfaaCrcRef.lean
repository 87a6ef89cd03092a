/- The reference's sum: bit by bit. -/
import Derived.Test.YtlgdapgocbmcfaaCrcMore
namespace Go.Proofs.Ytlgdapgocbmcfaa
open Go.RowKit
theorem rsum_snoc (n : Nat) (s : ByteArray) (k : Nat) (h : k < s.size) : crcL n (s.data.toList.take (k + 1)) = cb (crcL n (s.data.toList.take k)) s[k].toNat := by
  rw [crcL_snoc n _ k (by simpa using h)]; rfl
theorem xor_bit (a b : Nat) : (a % 2) ^^^ (b % 2) = (a % 2 + b % 2) % 2 := by
  rcases Nat.mod_two_eq_zero_or_one a with x | x <;> rcases Nat.mod_two_eq_zero_or_one b with y | y <;> rw [x, y] <;> decide
theorem bit_test (q x j : Nat) (hq : q < 4294967296) (hx : x < 256) :
    bits BinOp.xor IntKind.u32 (bits BinOp.and IntKind.u32 (q : Int) 1) (bits BinOp.and IntKind.u8 ((x : Int) / 2 ^ j) 1 % 4294967296) = (((q % 2 + x / 2 ^ j % 2) % 2 : Nat) : Int) := by
  have hd : x / 2 ^ j < 256 := Nat.lt_of_le_of_lt (Nat.div_le_self _ _) hx
  have e1 : bits BinOp.and IntKind.u32 (q : Int) 1 = ((q % 2 : Nat) : Int) := by rw [show (1 : Int) = ((1 : Nat) : Int) from rfl, u32_and_nat _ _ hq (by omega), nat_mask1]
  have e2 : bits BinOp.and IntKind.u8 ((x : Int) / 2 ^ j) 1 = ((x / 2 ^ j % 2 : Nat) : Int) := by
    rw [show (x : Int) / 2 ^ j = ((x / 2 ^ j : Nat) : Int) by simp, show (1 : Int) = ((1 : Nat) : Int) from rfl, u8_and_nat _ _ hd (by omega), nat_mask1]
  rw [e1, e2, show (((x / 2 ^ j % 2 : Nat) : Int)) % 4294967296 = ((x / 2 ^ j % 2 : Nat) : Int) by omega, u32_xor_nat _ _ (by omega) (by omega), xor_bit]
theorem rst_yes {q x j : Nat} (h : ((((q % 2 + x / 2 ^ j % 2) % 2 : Nat) : Int) == 1) = true) : rst q x j = (q / 2) ^^^ 3988292384 := by
  unfold rst
  have := beq_iff_eq.1 h
  generalize x / 2 ^ j = y at *
  rw [if_pos (by omega)]
theorem rst_no {q x j : Nat} (h : ((((q % 2 + x / 2 ^ j % 2) % 2 : Nat) : Int) == 1) = false) : rst q x j = q / 2 := by
  unfold rst
  have := beq_eq_false_iff_ne.1 h
  generalize x / 2 ^ j = y at *
  rw [if_neg (by omega)]
theorem u32_xor_half (q : Nat) (h : q < 4294967296) : bits BinOp.xor IntKind.u32 ((q : Int) / 2) 3988292384 = ((q / 2 ^^^ 3988292384 : Nat) : Int) := by
  rw [show (3988292384 : Int) = ((3988292384 : Nat) : Int) from rfl, show (q : Int) / 2 = ((q / 2 : Nat) : Int) from rfl, u32_xor_nat _ _ (by omega) (by omega)]
set_option maxHeartbeats 400000 in
theorem rsum_any (s : ByteArray) (w : World) (hs : s.size ≤ maxLen) :
    Calls Try.prog 23 #[.string s] w fun e w' => e = .returned (.int .u32 (more 0 s.data.toList)) ∧ w' = w := by
  unfold maxLen at hs
  go_enter Try.func23, Try.ntmps23
  go_wp2
  go_loop [3, 4, 5, 6, 7,8,9,10,11,12,13,14,15,16,17,18,19,20,21,22,23,24,25,26,27,28,29,30,31,32] (fun t3 t4 _ _ _ _ _ _ _ _ _ _ _ _ _ _ _ _ _ _ _ _ _ _ _ _ _ _ _ _ => ∃ k : Nat, k ≤ s.size ∧ t4 = .int .i64 k ∧ t3 = V32 (crcL 4294967295 (s.data.toList.take k))) (fun t3 t4 _ _ _ _ _ _ _ _ _ _ _ _ _ _ _ _ _ _ _ _ _ _ _ _ _ _ _ _ => s.size - (intOf t4).toNat)
  case atStart => exact ⟨0, by omega, rfl, rfl⟩
  case round =>
    obtain ⟨k, hk, rfl, rfl⟩ := hrel
    have h0 : crcL 4294967295 (s.data.toList.take k) < 4294967296 := crcL_lt _ (by omega)
    by_cases hlt : k < s.size
    · have hsn := rsum_snoc 4294967295 s k hlt
      rw [cb_rsteps] at hsn
      have Hs := hid hsn; clear hsn
      generalize crcL 4294967295 (s.data.toList.take k) = m at *
      go_wp2
      go_loop [3, 5,6,13,14,15,16,17,18,19,20,21,22,23,24,25,26,27,28,29,30,31,32] (fun t3 t5 _ _ _ _ _ _ _ _ _ _ _ _ _ _ _ _ _ _ _ _ _ => ∃ j : Nat, j ≤ 8 ∧ t5 = .int .i64 j ∧ t3 = V32 (rsteps s[k].toNat j m)) (fun t3 t5 _ _ _ _ _ _ _ _ _ _ _ _ _ _ _ _ _ _ _ _ _ => 8 - (intOf t5).toNat)
      case atStart => exact ⟨0, by omega, rfl, rfl⟩
      case round =>
        obtain ⟨j, hj, rfl, rfl⟩ := hrel
        have h1 := rsteps_lt s[k].toNat j h0
        have Hr := hid (show rsteps s[k].toNat (j + 1) m = rst (rsteps s[k].toNat j m) s[k].toNat j from rfl)
        generalize hq : rsteps s[k].toNat j m = q at *
        have Hq := hid hq; clear hq
        unfold V32
        by_cases hlj : j < 8
        · have hx : s[k].toNat < 256 := s[k].toNat_lt
          have hB := bit_test q s[k].toNat j h1 hx
          have hX := u32_xor_half q h1
          have HB := hid hB; clear hB
          have HX := hid hX; clear hX
          go_wp2
          · have ht : (bits BinOp.xor IntKind.u32 (bits BinOp.and IntKind.u32 (q : Int) 1) (bits BinOp.and IntKind.u8 (((s[k].toNat : Nat) : Int) / 2 ^ j) 1 % 4294967296) == 1) = true := by assumption
            rw [HB.out] at ht
            go_round
            case rel => exact ⟨j + 1, by omega, by go_num, by rw [Hr.out, HX.out, rst_yes ht]⟩
            case measure => simp [intOf]; omega
          · have ht : (bits BinOp.xor IntKind.u32 (bits BinOp.and IntKind.u32 (q : Int) 1) (bits BinOp.and IntKind.u8 (((s[k].toNat : Nat) : Int) / 2 ^ j) 1 % 4294967296) == 1) = false := by assumption
            rw [HB.out] at ht
            go_round
            case rel => exact ⟨j + 1, by omega, by go_num, by rw [Hr.out, rst_no ht]; rfl⟩
            case measure => simp [intOf]; omega
        · obtain rfl : j = 8 := by omega
          go_wp2
          go_round
          case rel => exact ⟨k + 1, by omega, by go_num, by rw [Hs.out, Hq.out]; rfl⟩
          case measure => simp [intOf]; omega
    · obtain rfl : k = s.size := by omega
      rw [List.take_of_length_le (by simp)] at h0 ⊢
      have hfin : more 0 s.data.toList = cpl (crcL 4294967295 s.data.toList) := rfl
      generalize crcL 4294967295 s.data.toList = m at *
      have hc := u32_not m h0
      have Hf := hid hfin; clear hfin
      unfold V32
      go_wp2
      go_ret
      exact ⟨by rw [Hf.out]; rfl, rfl⟩
end Go.Proofs.Ytlgdapgocbmcfaa
