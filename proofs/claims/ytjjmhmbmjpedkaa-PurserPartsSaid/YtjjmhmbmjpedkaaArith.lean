/- 'Add', 'Sub', 'Mul' of the code, walked. -/
import Derived.Test.YtjjmhmbmjpedkaaBigOf
import Derived.Lib.Mul64
import Derived.Laws.Bits64b
namespace Go.Proofs.Ytjjmhmbmjpedkaa
open Go.RowKit
set_option maxRecDepth 100000 in
set_option maxHeartbeats 2000000 in
theorem aAdd_any (a b : Int) (ha1 : -9223372036854775808 ≤ a) (ha2 : a ≤ 9223372036854775807) (hb1 : -9223372036854775808 ≤ b) (hb2 : b ≤ 9223372036854775807) (w : World) (v : Value) (hv : v = fitV (a + b)) :
    Calls Try.prog 57 #[.int .i64 a, .int .i64 b] w fun e w' => e = .returned v ∧ w' = w := by
  have HV := hid hv; clear hv
  have HS := hid (show (wrap64 (a + b) = a + b ∨ wrap64 (a + b) = a + b - 18446744073709551616 ∨ wrap64 (a + b) = a + b + 18446744073709551616) ∧ -9223372036854775808 ≤ wrap64 (a + b) ∧ wrap64 (a + b) ≤ 9223372036854775807 by unfold wrap64; omega)
  by_cases hE : wrap64 (a + b) = a + b
  · have HE := hid hE
    obtain rfl : v = .tuple #[.int .i64 (a + b), .bool true] := by have := HS.out; rw [HV.out]; exact fitV_yes (by omega) (by omega)
    clear hE HV
    by_cases hA : a < 0 <;> by_cases hB : b < 0 <;> by_cases hS : wrap64 (a + b) < 0
    all_goals first
      | (exfalso; have h1 := HS.out; have h2 := HE.out; omega)
      | (go_enter Try.func57, Try.ntmps57
         go_wp2
         go_ret2
         refine ⟨?_, rfl⟩
         first
           | rfl
           | (show Ending.returned (.tuple #[.int .i64 (wrap64 (a + b)), .bool true]) = _
              rw [HE.out]))
  · have HE := hid hE
    obtain rfl : v = .tuple #[.int .i64 0, .bool false] := by have := HS.out; rw [HV.out]; exact fitV_no (by omega)
    clear hE HV
    by_cases hA : a < 0 <;> by_cases hB : b < 0 <;> by_cases hS : wrap64 (a + b) < 0
    all_goals first
      | (exfalso; have h1 := HS.out; have h2 := HE.out; omega)
      | (go_enter Try.func57, Try.ntmps57
         go_wp2
         go_ret2
         exact ⟨rfl, rfl⟩)
set_option maxHeartbeats 2000000 in
theorem asize_any (a : Int) (ha1 : -9223372036854775808 ≤ a) (ha2 : a ≤ 9223372036854775807) (w : World) :
    Calls Try.prog 95 #[.int .i64 a] w fun e w' => e = .returned (.int .u64 a.natAbs) ∧ w' = w := by
  by_cases hA : a < 0
  · have hw : IntKind.u64.wrap a = a + 18446744073709551616 := by rw [IntKind.wrap_u64]; omega
    have hw2 : IntKind.u64.wrap (-(a + 18446744073709551616)) = ((a.natAbs : Nat) : Int) := by rw [IntKind.wrap_u64]; omega
    go_enter Try.func95, Try.ntmps95
    go_wp2
    go_ret
    exact ⟨rfl, rfl⟩
  · have hw : IntKind.u64.wrap a = ((a.natAbs : Nat) : Int) := by rw [IntKind.wrap_u64]; omega
    go_enter Try.func95, Try.ntmps95
    go_wp2
    go_ret
    exact ⟨rfl, rfl⟩
theorem maskN (a : Nat) (ha : a < 18446744073709551616) : bits .and .u64 (a : Int) 4294967295 = ((a % 4294967296 : Nat) : Int) := u64_mask a ha
theorem divN (a : Nat) : (a : Int) / 4294967296 = ((a / 4294967296 : Nat) : Int) := by omega
theorem mulN (a b : Nat) : (a : Int) * (b : Int) = ((a * b : Nat) : Int) := (Int.natCast_mul a b).symm
theorem addN (a b : Nat) : (a : Int) + (b : Int) = ((a + b : Nat) : Int) := (Int.natCast_add a b).symm
theorem wrapN (a : Nat) (ha : a < 18446744073709551616) : IntKind.u64.wrap (a : Int) = (a : Int) := by rw [IntKind.wrap_u64]; omega
theorem wrapM (a : Nat) : IntKind.u64.wrap (a : Int) = ((a % 18446744073709551616 : Nat) : Int) := by rw [IntKind.wrap_u64]; omega
set_option maxHeartbeats 2000000 in
theorem Mul64_any (x y : Nat) (hx : x < 18446744073709551616) (hy : y < 18446744073709551616) (w : World) :
    Calls Try.prog 94 #[.int .u64 x, .int .u64 y] w fun e w' => e = .returned (.tuple #[.int .u64 ((x * y / 18446744073709551616 : Nat) : Int), .int .u64 ((x * y % 18446744073709551616 : Nat) : Int)]) ∧ w' = w := by
  obtain ⟨bd, bt, bw, hhi⟩ := Lib.mul64_hi x y hx hy
  have ba := Lib.half_mul_le (a := x / 4294967296) (b := y / 4294967296) (by omega) (by omega)
  have bb := Lib.half_mul_le (a := x / 4294967296) (b := y % 4294967296) (by omega) (by omega)
  have bc := Lib.half_mul_le (a := x % 4294967296) (b := y / 4294967296) (by omega) (by omega)
  have ba' : x / 4294967296 * (y / 4294967296) < 18446744073709551616 := by omega
  have bb' : x / 4294967296 * (y % 4294967296) < 18446744073709551616 := by omega
  have bc' : x % 4294967296 * (y / 4294967296) < 18446744073709551616 := by omega
  have bh1 : x / 4294967296 * (y / 4294967296) + (x / 4294967296 * (y % 4294967296) + x % 4294967296 * (y % 4294967296) / 4294967296) / 4294967296 < 18446744073709551616 := by omega
  have bh : x / 4294967296 * (y / 4294967296) + (x / 4294967296 * (y % 4294967296) + x % 4294967296 * (y % 4294967296) / 4294967296) / 4294967296 + ((x / 4294967296 * (y % 4294967296) + x % 4294967296 * (y % 4294967296) / 4294967296) % 4294967296 + x % 4294967296 * (y / 4294967296)) / 4294967296 < 18446744073709551616 := by omega
  go_enter Try.func94, Try.ntmps94
  go_wp2
  simp only [maskN x hx, maskN y hy, divN, mulN, addN, wrapN _ bd, wrapN _ bb', wrapN _ bt, maskN _ bt, wrapN _ bc', wrapN _ bw, wrapN _ ba', wrapN _ bh1, wrapN _ bh, wrapM (x * y)]
  rw [hhi]
  go_ret2
  exact ⟨rfl, rfl⟩
set_option maxRecDepth 100000 in
set_option maxHeartbeats 2000000 in
theorem aMul_any (a b : Int) (ha1 : -9223372036854775808 ≤ a) (ha2 : a ≤ 9223372036854775807) (hb1 : -9223372036854775808 ≤ b) (hb2 : b ≤ 9223372036854775807) (w : World) (v : Value) (hv : v = fitV (a * b)) :
    Calls Try.prog 86 #[.int .i64 a, .int .i64 b] w fun e w' => e = .returned v ∧ w' = w := by
  have HV := hid hv; clear hv
  have HA := hid (show a.natAbs < 18446744073709551616 by omega)
  have HB := hid (show b.natAbs < 18446744073709551616 by omega)
  have HN := hid (Int.natAbs_mul a b)
  have HS : Hid ((a < 0 ∧ 0 ≤ b → a * b ≤ 0) ∧ (0 ≤ a ∧ b < 0 → a * b ≤ 0) ∧ (a < 0 ∧ b < 0 → 0 ≤ a * b) ∧ (0 ≤ a ∧ 0 ≤ b → 0 ≤ a * b)) := by
    refine ⟨fun h => ?_, fun h => ?_, fun h => ?_, fun h => ?_⟩
    · exact Int.mul_nonpos_of_nonpos_of_nonneg (by omega) h.2
    · exact Int.mul_nonpos_of_nonneg_of_nonpos h.1 (by omega)
    · exact Int.mul_nonneg_of_nonpos_of_nonpos (by omega) (by omega)
    · exact Int.mul_nonneg h.1 h.2
  generalize a * b = p at *
  go_enter Try.func86, Try.ntmps86
  go_wp2_with fail
  refine (asize_any a ha1 ha2 w).mono ?_
  rintro e W ⟨rfl, rfl⟩
  go_wp2_with fail
  refine (asize_any b hb1 hb2 _).mono ?_
  rintro e W ⟨rfl, rfl⟩
  go_wp2_with fail
  refine (Mul64_any a.natAbs b.natAbs HA.out HB.out _).mono ?_
  rintro e W ⟨rfl, rfl⟩
  generalize a.natAbs * b.natAbs = m at *
  have mul0 : ((m / 18446744073709551616 : Nat) : Int) = 0 → IntKind.u64.wrap 0 = 0 := fun _ => rfl
  clear mul0
  obtain ⟨H, hH⟩ : ∃ H, H = m / 18446744073709551616 := ⟨_, rfl⟩
  obtain ⟨L, hL⟩ : ∃ L, L = m % 18446744073709551616 := ⟨_, rfl⟩
  rw [← hH, ← hL]
  have M := hid (show m = H * 18446744073709551616 + L ∧ L < 18446744073709551616 by omega)
  clear hH hL HA HB
  by_cases hz : H = 0
  · subst hz
    have T := hid (show p = (m : Int) ∨ p = -(m : Int) by have := HN.out; omega)
    have G := hid (show (a < 0 ∧ 0 ≤ b ∨ 0 ≤ a ∧ b < 0 → p = -(L : Int)) ∧ (¬ (a < 0 ∧ 0 ≤ b ∨ 0 ≤ a ∧ b < 0) → p = (L : Int)) by
      have h1 := HS.out; have h2 := T.out; have h3 := M.out
      obtain ⟨g1, g2, g3, g4⟩ := h1
      constructor <;> intro h <;> omega)
    have HL := hid (show (0 : Int) ≤ ((L : Nat) : Int) by omega)
    clear HN HS T
    obtain ⟨z, hz⟩ : ∃ z : Int, z = ((L : Nat) : Int) := ⟨_, rfl⟩
    rw [← hz] at HL G ⊢
    clear hz
    by_cases hb : (9223372036854775808 : Int) ≤ z
    · by_cases hm : a < 0 ∧ 0 ≤ b ∨ 0 ≤ a ∧ b < 0
      · have P := G.out.1 hm
        by_cases he : z = 9223372036854775808
        · obtain rfl : v = .tuple #[.int .i64 (-9223372036854775808), .bool true] := by rw [HV.out, P, he]; exact fitV_yes (by have := HL.out; omega) (by have := HL.out; omega)
          clear P HV G
          rcases hm with ⟨h1, h2⟩ | ⟨h1, h2⟩
          · have h2' : decide (b < 0) = false := by simp; omega
            go_wp2
            go_ret2
            exact ⟨rfl, rfl⟩
          · have h1' : decide (a < 0) = false := by simp; omega
            go_wp2
            go_ret2
            exact ⟨rfl, rfl⟩
        · obtain rfl : v = .tuple #[.int .i64 0, .bool false] := by rw [HV.out]; exact fitV_no (by omega)
          clear P HV G
          have he2 : (z == 9223372036854775808) = false := by simp; omega
          rcases hm with ⟨h1, h2⟩ | ⟨h1, h2⟩
          · have h2' : decide (b < 0) = false := by simp; omega
            go_wp2
            go_ret2
            exact ⟨rfl, rfl⟩
          · have h1' : decide (a < 0) = false := by simp; omega
            go_wp2
            go_ret2
            exact ⟨rfl, rfl⟩
      · have P := G.out.2 hm
        obtain rfl : v = .tuple #[.int .i64 0, .bool false] := by rw [HV.out]; exact fitV_no (by omega)
        have hm2 : (a < 0 ∧ b < 0) ∨ (¬ a < 0 ∧ ¬ b < 0) := by omega
        clear P HV G hm
        rcases hm2 with ⟨h1, h2⟩ | ⟨h1, h2⟩
        · go_wp2
          go_ret2
          exact ⟨rfl, rfl⟩
        · go_wp2
          go_ret2
          exact ⟨rfl, rfl⟩
    · have hc : wrap64 z = z := by have := HL.out; unfold wrap64; omega
      have HC := hid (show wrap64 (-z) = -z by have := HL.out; unfold wrap64; omega)
      have HD := hid hc
      clear hc
      have hge : decide (9223372036854775808 ≤ z) = false := by simp; omega
      by_cases hm : a < 0 ∧ 0 ≤ b ∨ 0 ≤ a ∧ b < 0
      · have P := G.out.1 hm
        obtain rfl : v = .tuple #[.int .i64 (-z), .bool true] := by rw [HV.out, P]; exact fitV_yes (by have := HL.out; omega) (by have := HL.out; omega)
        have he2 : (z == 9223372036854775808) = false := by simp; omega
        clear P HV G
        rcases hm with ⟨h1, h2⟩ | ⟨h1, h2⟩
        · have h2' : decide (b < 0) = false := by simp; omega
          go_wp2
          go_ret2
          refine ⟨?_, rfl⟩
          show Ending.returned (.tuple #[.int .i64 (wrap64 (-wrap64 z)), .bool true]) = _
          rw [HD.out, HC.out]
        · have h1' : decide (a < 0) = false := by simp; omega
          go_wp2
          go_ret2
          refine ⟨?_, rfl⟩
          show Ending.returned (.tuple #[.int .i64 (wrap64 (-wrap64 z)), .bool true]) = _
          rw [HD.out, HC.out]
      · have P := G.out.2 hm
        obtain rfl : v = .tuple #[.int .i64 z, .bool true] := by rw [HV.out, P]; exact fitV_yes (by have := HL.out; omega) (by have := HL.out; omega)
        have hm2 : (a < 0 ∧ b < 0) ∨ (¬ a < 0 ∧ ¬ b < 0) := by omega
        clear P HV G hm
        rcases hm2 with ⟨h1, h2⟩ | ⟨h1, h2⟩
        · go_wp2
          go_ret2
          refine ⟨?_, rfl⟩
          show Ending.returned (.tuple #[.int .i64 (wrap64 z), .bool true]) = _
          rw [HD.out]
        · go_wp2
          go_ret2
          refine ⟨?_, rfl⟩
          show Ending.returned (.tuple #[.int .i64 (wrap64 z), .bool true]) = _
          rw [HD.out]
  · obtain rfl : v = .tuple #[.int .i64 0, .bool false] := by
      have h2 := HN.out; have h3 := M.out
      rw [HV.out]; exact fitV_no (by omega)
    have hz2 : (((H : Nat) : Int) != 0) = true := by simp; omega
    clear HV HN HS M
    by_cases h1 : a < 0 <;> by_cases h2 : b < 0
    all_goals
      go_wp2
      go_ret2
      exact ⟨rfl, rfl⟩
end Go.Proofs.Ytjjmhmbmjpedkaa
