/- 'Part' of the code, walked. -/
import Derived.Test.YtlgdapgocbmcfaaBigDiv
import Derived.Test.YtlgdapgocbmcfaaBigPart0
import Derived.OwnWalk
namespace Go.Proofs.Ytlgdapgocbmcfaa
open Go.RowKit
def partB (a b c : Int) : Bool := decide (0 ≤ a ∧ 0 ≤ b ∧ 1 ≤ c ∧ a * b / c < 9223372036854775808)
def partT (a b c : Int) : Value := if partB a b c = true then .tuple #[.int .i64 (a * b / c), .int .i64 (a * b % c), .bool true] else .tuple #[.int .i64 0, .int .i64 0, .bool false]
theorem partT_no {a b c : Int} (h : a < 0 ∨ b < 0 ∨ c < 1 ∨ 9223372036854775808 ≤ a * b / c) : partT a b c = .tuple #[.int .i64 0, .int .i64 0, .bool false] := by
  have : partB a b c = false := by unfold partB; exact decide_eq_false (by omega)
  unfold partT; rw [this]; rfl
theorem partT_yes {x y z : Nat} (h1 : 1 ≤ z) (h2 : x * y / z < 9223372036854775808) : partT x y z = .tuple #[.int .i64 ((x * y / z : Nat) : Int), .int .i64 ((x * y % z : Nat) : Int), .bool true] := by
  have : partB x y z = true := by unfold partB; exact decide_eq_true ⟨by omega, by omega, by omega, by rw [mulN]; omega⟩
  unfold partT; rw [this, mulN]; rfl
theorem partT_nat {x y z : Nat} (h2 : 9223372036854775808 ≤ x * y / z) : partT x y z = .tuple #[.int .i64 0, .int .i64 0, .bool false] :=
  partT_no (.inr (.inr (.inr (by rw [mulN]; omega))))
theorem partT_out (a b c : Int) : ∃ x y o, partT a b c = .tuple #[.int .i64 x, .int .i64 y, .bool o] := by
  unfold partT; split
  · exact ⟨_, _, _, rfl⟩
  · exact ⟨_, _, _, rfl⟩
set_option maxRecDepth 100000 in
set_option maxHeartbeats 2000000 in
theorem aPart_neg (a b c : Int) (h : a < 0 ∨ b < 0 ∨ c < 1) (w : World) :
    Calls Try.prog 44 #[.int .i64 a, .int .i64 b, .int .i64 c] w fun e w' => e = .returned (.tuple #[.int .i64 0, .int .i64 0, .bool false]) ∧ w' = w := by
  by_cases h1 : a < 0
  · clear h
    go_enter Try.func44, Try.ntmps44
    go_wp2
    go_ret3
    exact ⟨rfl, rfl⟩
  · by_cases h2 : b < 0
    · clear h
      go_enter Try.func44, Try.ntmps44
      go_wp2
      go_ret3
      exact ⟨rfl, rfl⟩
    · have h3 : c < 1 := by omega
      clear h
      go_enter Try.func44, Try.ntmps44
      go_wp2
      go_ret3
      exact ⟨rfl, rfl⟩
set_option maxRecDepth 100000 in
set_option maxHeartbeats 2000000 in
theorem aPart_nat (x y z : Nat) (hx : x ≤ 9223372036854775807) (hy : y ≤ 9223372036854775807) (hz1 : 1 ≤ z) (hz : z ≤ 9223372036854775807) (w : World) (v : Value) (hv : v = partT x y z) :
    Calls Try.prog 44 #[.int .i64 x, .int .i64 y, .int .i64 z] w fun e w' => e = .returned v ∧ Below w.heap.size w w' := by
  have g1 : ¬ (x : Int) < 0 := by omega
  have g2 : ¬ (y : Int) < 0 := by omega
  have g3 : ¬ (z : Int) < 1 := by omega
  have f1 : IntKind.u64.wrap (x : Int) = (x : Int) := wrapN _ (by omega)
  have f2 : IntKind.u64.wrap (y : Int) = (y : Int) := wrapN _ (by omega)
  have f3 : IntKind.u64.wrap (z : Int) = (z : Int) := wrapN _ (by omega)
  have HV := Box.mk hv; have HX := Box.mk hx; have HY := Box.mk hy; have HZ1 := Box.mk hz1; have HZ := Box.mk hz
  have HYES := fun h => Box.mk (partT_yes (x := x) (y := y) (z := z) hz1 h)
  have HNO := fun h => Box.mk (partT_nat (x := x) (y := y) (z := z) h)
  clear hv hx hy hz1 hz
  go_enter Try.func44, Try.ntmps44
  go_wp2_with fail
  refine (Mul64_any x y (by have := HX.out; omega) (by have := HY.out; omega) _).mono ?_
  rintro e W ⟨rfl, rfl⟩
  obtain ⟨m, hm⟩ : ∃ m, m = x * y := ⟨_, rfl⟩
  rw [← hm] at HYES HNO ⊢
  clear hm
  obtain ⟨hi, hhi⟩ : ∃ hi, hi = m / 18446744073709551616 := ⟨_, rfl⟩
  obtain ⟨lo, hlo⟩ : ∃ lo, lo = m % 18446744073709551616 := ⟨_, rfl⟩
  rw [← hhi, ← hlo]
  have hlo2 : lo < 18446744073709551616 := by rw [hlo]; exact Nat.mod_lt _ (by omega)
  have hsum : hi * 18446744073709551616 + lo = m := by omega
  have HLO := Box.mk hlo2; have HS := Box.mk hsum
  clear hhi hlo hlo2 hsum
  by_cases hge : (z : Int) ≤ (hi : Int)
  · have hq : 9223372036854775808 ≤ m / z := by
      rw [Nat.le_div_iff_mul_le (by have := HZ1.out; omega), ← HS.out]
      have h1 : z ≤ hi := by omega
      have h2 := Nat.mul_le_mul_left 9223372036854775808 h1
      omega
    have hv := HV.out.trans (HNO hq).out
    subst hv
    clear HNO HYES hq HV
    go_wp2
    go_ret3
    exact ⟨rfl, Below.refl _ _⟩
  · obtain ⟨q, hq⟩ : ∃ q, q = m / z := ⟨_, rfl⟩
    obtain ⟨r, hr⟩ : ∃ r, r = m % z := ⟨_, rfl⟩
    rw [← hq] at HYES HNO
    rw [← hr] at HYES
    have hr2 : r < z := by rw [hr]; exact Nat.mod_lt _ (by have := HZ1.out; omega)
    have hq2 : q < 18446744073709551616 := by
      rw [hq, Nat.div_lt_iff_lt_mul (by have := HZ1.out; omega), ← HS.out]
      have h1 : hi + 1 ≤ z := by omega
      have h2 := Nat.mul_le_mul_left 18446744073709551616 h1
      have := HLO.out
      omega
    have call : ∀ wx, Calls Try.prog 71 #[.int .u64 hi, .int .u64 lo, .int .u64 z] wx fun e w' => e = .returned (.tuple #[.int .u64 (q : Int), .int .u64 (r : Int)]) ∧ Below wx.heap.size wx w' := by
      intro wx
      by_cases h0 : hi = 0
      · subst h0
        have := HS.out
        rw [Nat.zero_mul, Nat.zero_add] at this
        rw [hq, hr, ← this]
        exact Div64_low lo z HZ1.out (by have := HZ.out; omega) HLO.out wx
      · exact (Div64_high hi lo z (by omega) (by omega) (by have := HZ.out; omega) HLO.out wx q r (by rw [HS.out, hq]) (by rw [HS.out, hr])).mono fun e w' ⟨h1, h2⟩ => ⟨h1, by subst h2; exact Below.refl _ _⟩
    have CALL := fun wx => Box.mk (call wx)
    have HR2 := Box.mk hr2; have HQ2 := Box.mk hq2
    clear hq hr hr2 hq2 call
    go_wp2_with fail
    refine (CALL _).out.mono ?_
    rintro e W2 ⟨rfl, hb⟩
    have HB := Box.mk hb; clear hb
    have HQI := fun (h : (9223372036854775808 : Int) ≤ (q : Int)) => HV.out.trans (HNO (by omega)).out
    have HQJ := fun (h : ¬ (9223372036854775808 : Int) ≤ (q : Int)) => HV.out.trans (HYES (by omega)).out
    have q0 : (0 : Int) ≤ (q : Int) := by omega
    have r0 : (0 : Int) ≤ (r : Int) := by omega
    have r1 : (r : Int) ≤ 9223372036854775807 := by have := HR2.out; have := HZ.out; omega
    clear HNO HYES HV CALL HR2 HQ2
    generalize (q : Int) = q at *
    generalize (r : Int) = r at *
    by_cases hbig : (9223372036854775808 : Int) ≤ q
    · have hv := HQI hbig
      subst hv
      clear HQI HQJ
      go_wp2
      go_ret3
      exact ⟨rfl, HB.out⟩
    · have hv := HQJ hbig
      subst hv
      clear HQI HQJ
      go_wp2
      go_ret3
      exact ⟨rfl, HB.out⟩
theorem aPart_any (a b c : Int) (ha : -9223372036854775808 ≤ a ∧ a ≤ 9223372036854775807) (hb : -9223372036854775808 ≤ b ∧ b ≤ 9223372036854775807) (hc : -9223372036854775808 ≤ c ∧ c ≤ 9223372036854775807) (w : World) (v : Value) (hv : v = partT a b c) :
    Calls Try.prog 44 #[.int .i64 a, .int .i64 b, .int .i64 c] w fun e w' => e = .returned v ∧ Below w.heap.size w w' := by
  by_cases h : a < 0 ∨ b < 0 ∨ c < 1
  · rw [hv, partT_no (by omega)]
    exact (aPart_neg a b c h w).mono fun e w' ⟨h1, h2⟩ => ⟨h1, by subst h2; exact Below.refl _ _⟩
  · obtain ⟨x, rfl⟩ := Int.eq_ofNat_of_zero_le (show 0 ≤ a by omega)
    obtain ⟨y, rfl⟩ := Int.eq_ofNat_of_zero_le (show 0 ≤ b by omega)
    obtain ⟨z, rfl⟩ := Int.eq_ofNat_of_zero_le (show 0 ≤ c by omega)
    exact aPart_nat x y z (by omega) (by omega) (by omega) (by omega) w v hv
end Go.Proofs.Ytlgdapgocbmcfaa
