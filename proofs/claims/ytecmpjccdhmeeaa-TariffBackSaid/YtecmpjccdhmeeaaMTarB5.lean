import Derived.Test.YtecmpjccdhmeeaaMTarB4
import Derived.Lib.Mul64
import Derived.Laws.Bits64b
import Derived.Test.YtecmpjccdhmeeaaMTarB1
import Derived.Test.YtecmpjccdhmeeaaMTarB2
import Derived.Laws.Externs
import Derived.Test.YtecmpjccdhmeeaaMTarB3
set_option linter.unusedVariables false
section
/- 'Add', 'Sub', 'Mul' of the code, walked. -/
namespace Go.Proofs.Ytecmpjccdhmeeaa
open Go.RowKit
set_option maxHeartbeats 2000000 in
theorem asize_any (a : Int) (ha1 : -9223372036854775808 ≤ a) (ha2 : a ≤ 9223372036854775807) (w : World) :
    Calls Try.prog 91 #[.int .i64 a] w fun e w' => e = .returned (.int .u64 a.natAbs) ∧ w' = w := by
  by_cases hA : a < 0
  · have hw : IntKind.u64.wrap a = a + 18446744073709551616 := by rw [IntKind.wrap_u64]; omega
    have hw2 : IntKind.u64.wrap (-(a + 18446744073709551616)) = ((a.natAbs : Nat) : Int) := by rw [IntKind.wrap_u64]; omega
    go_enter Try.func91, Try.ntmps91
    go_wp2
    go_ret
    exact ⟨rfl, rfl⟩
  · have hw : IntKind.u64.wrap a = ((a.natAbs : Nat) : Int) := by rw [IntKind.wrap_u64]; omega
    go_enter Try.func91, Try.ntmps91
    go_wp2
    go_ret
    exact ⟨rfl, rfl⟩
theorem maskN (a : Nat) (ha : a < 18446744073709551616) : bits .and .u64 (a : Int) 4294967295 = ((a % 4294967296 : Nat) : Int) := u64_mask a ha
theorem divN (a : Nat) : (a : Int) / 4294967296 = ((a / 4294967296 : Nat) : Int) := by omega
theorem mulN (a b : Nat) : (a : Int) * (b : Int) = ((a * b : Nat) : Int) := (Int.natCast_mul a b).symm
theorem addN (a b : Nat) : (a : Int) + (b : Int) = ((a + b : Nat) : Int) := (Int.natCast_add a b).symm
theorem wrapN (a : Nat) (ha : a < 18446744073709551616) : IntKind.u64.wrap (a : Int) = (a : Int) := by rw [IntKind.wrap_u64]; omega
theorem wrapM (a : Nat) : IntKind.u64.wrap (a : Int) = ((a % 18446744073709551616 : Nat) : Int) := by rw [IntKind.wrap_u64]; omega
set_option maxHeartbeats 2000000 in
theorem Mul64_any (x y : Nat) (hx : x < 18446744073709551616) (hy : y < 18446744073709551616) (w : World) :
    Calls Try.prog 90 #[.int .u64 x, .int .u64 y] w fun e w' => e = .returned (.tuple #[.int .u64 ((x * y / 18446744073709551616 : Nat) : Int), .int .u64 ((x * y % 18446744073709551616 : Nat) : Int)]) ∧ w' = w := by
  obtain ⟨bd, bt, bw, hhi⟩ := Lib.mul64_hi x y hx hy
  have ba := Lib.half_mul_le (a := x / 4294967296) (b := y / 4294967296) (by omega) (by omega)
  have bb := Lib.half_mul_le (a := x / 4294967296) (b := y % 4294967296) (by omega) (by omega)
  have bc := Lib.half_mul_le (a := x % 4294967296) (b := y / 4294967296) (by omega) (by omega)
  have ba' : x / 4294967296 * (y / 4294967296) < 18446744073709551616 := by omega
  have bb' : x / 4294967296 * (y % 4294967296) < 18446744073709551616 := by omega
  have bc' : x % 4294967296 * (y / 4294967296) < 18446744073709551616 := by omega
  have bh1 : x / 4294967296 * (y / 4294967296) + (x / 4294967296 * (y % 4294967296) + x % 4294967296 * (y % 4294967296) / 4294967296) / 4294967296 < 18446744073709551616 := by omega
  have bh : x / 4294967296 * (y / 4294967296) + (x / 4294967296 * (y % 4294967296) + x % 4294967296 * (y % 4294967296) / 4294967296) / 4294967296 + ((x / 4294967296 * (y % 4294967296) + x % 4294967296 * (y % 4294967296) / 4294967296) % 4294967296 + x % 4294967296 * (y / 4294967296)) / 4294967296 < 18446744073709551616 := by omega
  go_enter Try.func90, Try.ntmps90
  go_wp2
  simp only [maskN x hx, maskN y hy, divN, mulN, addN, wrapN _ bd, wrapN _ bb', wrapN _ bt, maskN _ bt, wrapN _ bc', wrapN _ bw, wrapN _ ba', wrapN _ bh1, wrapN _ bh, wrapM (x * y)]
  rw [hhi]
  go_ret2
  exact ⟨rfl, rfl⟩
set_option maxRecDepth 100000 in
set_option maxHeartbeats 2000000 in
theorem aMul_any (a b : Int) (ha1 : -9223372036854775808 ≤ a) (ha2 : a ≤ 9223372036854775807) (hb1 : -9223372036854775808 ≤ b) (hb2 : b ≤ 9223372036854775807) (w : World) (v : Value) (hv : v = fitV (a * b)) :
    Calls Try.prog 71 #[.int .i64 a, .int .i64 b] w fun e w' => e = .returned v ∧ w' = w := by
  have HV := hid hv; clear hv
  have HA := hid (show a.natAbs < 18446744073709551616 by omega)
  have HB := hid (show b.natAbs < 18446744073709551616 by omega)
  have HN := hid (Int.natAbs_mul a b)
  have HS : Hid ((a < 0 ∧ 0 ≤ b → a * b ≤ 0) ∧ (0 ≤ a ∧ b < 0 → a * b ≤ 0) ∧ (a < 0 ∧ b < 0 → 0 ≤ a * b) ∧ (0 ≤ a ∧ 0 ≤ b → 0 ≤ a * b)) := by
    refine ⟨fun h => ?_, fun h => ?_, fun h => ?_, fun h => ?_⟩
    · exact Int.mul_nonpos_of_nonpos_of_nonneg (by omega) h.2
    · exact Int.mul_nonpos_of_nonneg_of_nonpos h.1 (by omega)
    · exact Int.mul_nonneg_of_nonpos_of_nonpos (by omega) (by omega)
    · exact Int.mul_nonneg h.1 h.2
  generalize a * b = p at *
  go_enter Try.func71, Try.ntmps71
  go_wp2_with fail
  refine (asize_any a ha1 ha2 w).mono ?_
  rintro e W ⟨rfl, rfl⟩
  go_wp2_with fail
  refine (asize_any b hb1 hb2 _).mono ?_
  rintro e W ⟨rfl, rfl⟩
  go_wp2_with fail
  refine (Mul64_any a.natAbs b.natAbs HA.out HB.out _).mono ?_
  rintro e W ⟨rfl, rfl⟩
  generalize a.natAbs * b.natAbs = m at *
  have mul0 : ((m / 18446744073709551616 : Nat) : Int) = 0 → IntKind.u64.wrap 0 = 0 := fun _ => rfl
  clear mul0
  obtain ⟨H, hH⟩ : ∃ H, H = m / 18446744073709551616 := ⟨_, rfl⟩
  obtain ⟨L, hL⟩ : ∃ L, L = m % 18446744073709551616 := ⟨_, rfl⟩
  rw [← hH, ← hL]
  have M := hid (show m = H * 18446744073709551616 + L ∧ L < 18446744073709551616 by omega)
  clear hH hL HA HB
  by_cases hz : H = 0
  · subst hz
    have T := hid (show p = (m : Int) ∨ p = -(m : Int) by have := HN.out; omega)
    have G := hid (show (a < 0 ∧ 0 ≤ b ∨ 0 ≤ a ∧ b < 0 → p = -(L : Int)) ∧ (¬ (a < 0 ∧ 0 ≤ b ∨ 0 ≤ a ∧ b < 0) → p = (L : Int)) by
      have h1 := HS.out; have h2 := T.out; have h3 := M.out
      obtain ⟨g1, g2, g3, g4⟩ := h1
      constructor <;> intro h <;> omega)
    have HL := hid (show (0 : Int) ≤ ((L : Nat) : Int) by omega)
    clear HN HS T
    obtain ⟨z, hz⟩ : ∃ z : Int, z = ((L : Nat) : Int) := ⟨_, rfl⟩
    rw [← hz] at HL G ⊢
    clear hz
    by_cases hb : (9223372036854775808 : Int) ≤ z
    · by_cases hm : a < 0 ∧ 0 ≤ b ∨ 0 ≤ a ∧ b < 0
      · have P := G.out.1 hm
        by_cases he : z = 9223372036854775808
        · obtain rfl : v = .tuple #[.int .i64 (-9223372036854775808), .bool true] := by rw [HV.out, P, he]; exact fitV_yes (by have := HL.out; omega) (by have := HL.out; omega)
          clear P HV G
          rcases hm with ⟨h1, h2⟩ | ⟨h1, h2⟩
          · have h2' : decide (b < 0) = false := by simp; omega
            go_wp2
            go_ret2
            exact ⟨rfl, rfl⟩
          · have h1' : decide (a < 0) = false := by simp; omega
            go_wp2
            go_ret2
            exact ⟨rfl, rfl⟩
        · obtain rfl : v = .tuple #[.int .i64 0, .bool false] := by rw [HV.out]; exact fitV_no (by omega)
          clear P HV G
          have he2 : (z == 9223372036854775808) = false := by simp; omega
          rcases hm with ⟨h1, h2⟩ | ⟨h1, h2⟩
          · have h2' : decide (b < 0) = false := by simp; omega
            go_wp2
            go_ret2
            exact ⟨rfl, rfl⟩
          · have h1' : decide (a < 0) = false := by simp; omega
            go_wp2
            go_ret2
            exact ⟨rfl, rfl⟩
      · have P := G.out.2 hm
        obtain rfl : v = .tuple #[.int .i64 0, .bool false] := by rw [HV.out]; exact fitV_no (by omega)
        have hm2 : (a < 0 ∧ b < 0) ∨ (¬ a < 0 ∧ ¬ b < 0) := by omega
        clear P HV G hm
        rcases hm2 with ⟨h1, h2⟩ | ⟨h1, h2⟩
        · go_wp2
          go_ret2
          exact ⟨rfl, rfl⟩
        · go_wp2
          go_ret2
          exact ⟨rfl, rfl⟩
    · have hc : wrap64 z = z := by have := HL.out; unfold wrap64; omega
      have HC := hid (show wrap64 (-z) = -z by have := HL.out; unfold wrap64; omega)
      have HD := hid hc
      clear hc
      have hge : decide (9223372036854775808 ≤ z) = false := by simp; omega
      by_cases hm : a < 0 ∧ 0 ≤ b ∨ 0 ≤ a ∧ b < 0
      · have P := G.out.1 hm
        obtain rfl : v = .tuple #[.int .i64 (-z), .bool true] := by rw [HV.out, P]; exact fitV_yes (by have := HL.out; omega) (by have := HL.out; omega)
        have he2 : (z == 9223372036854775808) = false := by simp; omega
        clear P HV G
        rcases hm with ⟨h1, h2⟩ | ⟨h1, h2⟩
        · have h2' : decide (b < 0) = false := by simp; omega
          go_wp2
          go_ret2
          refine ⟨?_, rfl⟩
          show Ending.returned (.tuple #[.int .i64 (wrap64 (-wrap64 z)), .bool true]) = _
          rw [HD.out, HC.out]
        · have h1' : decide (a < 0) = false := by simp; omega
          go_wp2
          go_ret2
          refine ⟨?_, rfl⟩
          show Ending.returned (.tuple #[.int .i64 (wrap64 (-wrap64 z)), .bool true]) = _
          rw [HD.out, HC.out]
      · have P := G.out.2 hm
        obtain rfl : v = .tuple #[.int .i64 z, .bool true] := by rw [HV.out, P]; exact fitV_yes (by have := HL.out; omega) (by have := HL.out; omega)
        have hm2 : (a < 0 ∧ b < 0) ∨ (¬ a < 0 ∧ ¬ b < 0) := by omega
        clear P HV G hm
        rcases hm2 with ⟨h1, h2⟩ | ⟨h1, h2⟩
        · go_wp2
          go_ret2
          refine ⟨?_, rfl⟩
          show Ending.returned (.tuple #[.int .i64 (wrap64 z), .bool true]) = _
          rw [HD.out]
        · go_wp2
          go_ret2
          refine ⟨?_, rfl⟩
          show Ending.returned (.tuple #[.int .i64 (wrap64 z), .bool true]) = _
          rw [HD.out]
  · obtain rfl : v = .tuple #[.int .i64 0, .bool false] := by
      have h2 := HN.out; have h3 := M.out
      rw [HV.out]; exact fitV_no (by omega)
    have hz2 : (((H : Nat) : Int) != 0) = true := by simp; omega
    clear HV HN HS M
    by_cases h1 : a < 0 <;> by_cases h2 : b < 0
    all_goals
      go_wp2
      go_ret2
      exact ⟨rfl, rfl⟩
end Go.Proofs.Ytecmpjccdhmeeaa
end
section
/- 'Times' of the reference, walked. -/
namespace Go.Proofs.Ytecmpjccdhmeeaa
open Go.RowKit
/-- A fact put by so that no search comes upon it. -/
structure Box (p : Prop) : Prop where
  out : p
theorem lim_mul {n m k : Nat} (hn : n < 2 ^ k) (hm : m < 2 ^ k) : n * m < 2 ^ (k + k) := by rw [Nat.pow_add]; exact Nat.mul_lt_mul'' hn hm
/-! One part set to another value. -/
theorem limb_div {n p j : Nat} (h : p ≤ j) : limb n j = limb (n / 2 ^ (32 * p)) (j - p) := by
  unfold limb
  rw [Nat.div_div_eq_div_mul, ← Nat.pow_add, ← Nat.mul_add, show p + (j - p) = j by omega]
theorem limb_mod {n p j : Nat} (h : j < p) : limb (n % 2 ^ (32 * p)) j = limb n j := by
  unfold limb
  rw [show 2 ^ (32 * p) = 2 ^ (32 * j) * (4294967296 * 2 ^ (32 * (p - j - 1))) by
    rw [← Nat.mul_assoc, ← pow_succ32, ← Nat.pow_add, ← Nat.mul_add, show j + 1 + (p - j - 1) = p by omega]]
  rw [Nat.mod_mul_right_div_self, Nat.mod_mul_right_mod]
/-- The number with another part. -/
def put (n p v : Nat) : Nat := (n / 2 ^ (32 * (p + 1)) * 4294967296 + v) * 2 ^ (32 * p) + n % 2 ^ (32 * p)
theorem put_div {n p v : Nat} : put n p v / 2 ^ (32 * p) = n / 2 ^ (32 * (p + 1)) * 4294967296 + v := by
  have hp : 0 < 2 ^ (32 * p) := Nat.pow_pos (by omega)
  unfold put
  rw [Nat.add_comm, Nat.add_mul_div_right _ _ hp, Nat.div_eq_of_lt (Nat.mod_lt _ hp), Nat.zero_add]
theorem put_mod {n p v : Nat} : put n p v % 2 ^ (32 * p) = n % 2 ^ (32 * p) := by
  unfold put
  rw [Nat.add_comm, Nat.add_mul_mod_self_right, Nat.mod_mod]
theorem limb_put {n p v : Nat} (hv : v < 4294967296) (j : Nat) : limb (put n p v) j = if j = p then v else limb n j := by
  by_cases h : j = p
  · subst h
    rw [if_pos rfl]
    unfold limb
    rw [put_div]
    omega
  · rw [if_neg h]
    by_cases hl : j < p
    · rw [← limb_mod hl, put_mod, limb_mod hl]
    · rw [limb_div (show p + 1 ≤ j by omega), limb_div (n := n) (show p + 1 ≤ j by omega)]
      congr 1
      rw [pow_succ32, ← Nat.div_div_eq_div_mul, put_div, ← Nat.div_div_eq_div_mul]
      have : (n / 2 ^ (32 * (p + 1)) * 4294967296 + v) / 4294967296 = n / 2 ^ (32 * (p + 1)) := by omega
      rw [this, pow_succ32, Nat.div_div_eq_div_mul]
theorem put_eq (n p v : Nat) : put n p v + limb n p * 2 ^ (32 * p) = n + v * 2 ^ (32 * p) := by
  have h1 := Nat.div_add_mod n (2 ^ (32 * p))
  have h2 := div_limb n p
  unfold put
  rw [Nat.add_mul]
  have h3 : n = (n / 2 ^ (32 * (p + 1)) * 4294967296) * 2 ^ (32 * p) + limb n p * 2 ^ (32 * p) + n % 2 ^ (32 * p) := by
    conv => lhs; rw [← h1, h2, Nat.mul_add, Nat.mul_comm, Nat.mul_comm 4294967296, Nat.mul_comm (2 ^ (32 * p)) (limb n p)]
  omega
/-- What is in the sum behind i rows and k parts of the next one. -/
def part (n m i k : Nat) : Nat := n % 2 ^ (32 * i) * m + limb n i * 2 ^ (32 * i) * (m % 2 ^ (32 * k))
theorem part_zero (n m i : Nat) : part n m i 0 = n % 2 ^ (32 * i) * m := by unfold part; simp [Nat.mod_one]
theorem part_next (n m i k : Nat) : part n m i (k + 1) = part n m i k + limb n i * limb m k * 2 ^ (32 * (i + k)) := by
  unfold part
  rw [mod_limb m k, Nat.mul_add, Nat.mul_add 32 i k, Nat.pow_add 2 (32 * i)]
  have : limb n i * 2 ^ (32 * i) * (2 ^ (32 * k) * limb m k) = limb n i * limb m k * (2 ^ (32 * i) * 2 ^ (32 * k)) := by
    generalize 2 ^ (32 * i) = a; generalize 2 ^ (32 * k) = b
    rw [Nat.mul_assoc, Nat.mul_assoc]
    congr 1
    rw [← Nat.mul_assoc a b, Nat.mul_comm (a * b)]
  omega
theorem part_row (n m i : Nat) (hm : m < 2 ^ (32 * 5)) : part n m i 5 = n % 2 ^ (32 * (i + 1)) * m := by
  unfold part
  rw [Nat.mod_eq_of_lt hm, mod_limb n i, Nat.add_mul, Nat.mul_comm (limb n i)]
theorem times_step {n m i k C over x : Nat} (hI : C + over * 2 ^ (32 * (i + k)) = part n m i k) (hx : x = limb C (i + k)) :
    put C (i + k) ((x + limb n i * limb m k + over) % 4294967296) + (x + limb n i * limb m k + over) / 4294967296 * 2 ^ (32 * (i + (k + 1))) = part n m i (k + 1) := by
  rw [part_next, ← hI]
  have h := put_eq C (i + k) ((x + limb n i * limb m k + over) % 4294967296)
  rw [← hx] at h
  rw [show i + (k + 1) = i + k + 1 by omega, pow_succ32]
  generalize 2 ^ (32 * (i + k)) = B at *
  generalize hq : limb n i * limb m k = q at *
  have e1 : (x + q + over) / 4294967296 * (B * 4294967296) + (x + q + over) % 4294967296 * B = (x + q + over) * B := by
    rw [Nat.mul_comm B, ← Nat.mul_assoc, ← Nat.add_mul]
    congr 1
    omega
  rw [Nat.add_mul, Nat.add_mul] at e1
  omega
theorem row_lt {n m i : Nat} (hm : m < 2 ^ (32 * 5)) (j : Nat) (hj : i + 5 ≤ j) : limb (n % 2 ^ (32 * i) * m) j = 0 := by
  refine limb_small ?_
  have h1 : n % 2 ^ (32 * i) < 2 ^ (32 * i) := Nat.mod_lt _ (Nat.pow_pos (by omega))
  have h2 : n % 2 ^ (32 * i) * m < 2 ^ (32 * i) * 2 ^ (32 * 5) := Nat.mul_lt_mul'' h1 hm
  rw [← Nat.pow_add, ← Nat.mul_add] at h2
  exact Nat.lt_of_lt_of_le h2 (Nat.pow_le_pow_right (by omega) (by omega))
set_option maxRecDepth 100000 in
set_option maxHeartbeats 4000000 in
theorem rTimes_nat (n m p : Nat) (hp : p = n * m) (na nb : Bool) (r : Bool) (hr : r = ((na != nb) && !(decide (p = 0)))) (hn : n < 2 ^ (32 * 5)) (hm : m < 2 ^ (32 * 5)) (w : World) :
    Calls Try.prog 73 #[bigM n na, bigM m nb] w fun e w' => e = .returned (bigM p r) ∧ Below w.heap.size w w' := by
  have HR := hid hr; have HN := hid hn; have HM := hid hm; have HPP := Box.mk hp; clear hr hn hm hp
  unfold bigM
  go_enter Try.func73, Try.ntmps73
  go_upto_region 2 with (fail)
  rw [← arr_zero]
  obtain ⟨h1, h2, h3, hb⟩ := al3 w (.cells (arr (limb n) na) 123) (.cells (arr (limb m) nb) 123) (.cells (arr (fun _ => 0) false) 123)
  have h4 := Blk.new (w := ((w.alloc (.cells (arr (limb n) na) 123)).alloc (.cells (arr (limb m) nb) 123)).alloc (.cells (arr (fun _ => 0) false) 123)) (cs := arr (fun _ => 0) false) (t := 123) (k := w.heap.size + 1 + 1 + 1) (by simp)
  replace h1 := Blk.alloc h1 (.cells (arr (fun _ => 0) false) 123)
  replace h2 := Blk.alloc h2 (.cells (arr (fun _ => 0) false) 123)
  replace h3 := Blk.alloc h3 (.cells (arr (fun _ => 0) false) 123)
  replace hb := hb.alloc (by simp; omega) (.cells (arr (fun _ => 0) false) 123)
  generalize (((w.alloc (.cells (arr (limb n) na) 123)).alloc (.cells (arr (limb m) nb) 123)).alloc (.cells (arr (fun _ => 0) false) 123)).alloc _ = W at *
  have H1 := hid h1; have H2 := hid h2; have H3 := hid h3; have H4 := hid h4; have HB := hid hb
  clear h1 h2 h3 h4 hb
  go_wp2
  go_loopw [6,7,8,9,10,11,12,13,14,15,16,17,18,19,20,21,22,23,24,25,26,27,28,29,30,31,32,33,34,35,36,37,38,39,40,41,42,43,44,45,46,47,48,49] (fun t6 _ _ _ _ _ _ _ _ _ _ _ _ _ _ _ _ _ _ _ _ _ _ _ _ _ _ _ _ _ _ _ _ _ _ _ _ _ _ _ _ _ _ _ wr => ∃ i : Nat, i ≤ 5 ∧ t6 = .int .i64 i ∧ Blk wr w.heap.size (arr (limb n) na) 123 ∧ Blk wr (w.heap.size + 1) (arr (limb m) nb) 123 ∧ Blk wr (w.heap.size + 1 + 1) (arr (fun _ => 0) false) 123 ∧ Blk wr (w.heap.size + 1 + 1 + 1) (arr (limb (n % 2 ^ (32 * i) * m)) false) 123 ∧ Below w.heap.size w wr) (fun t6 _ _ _ _ _ _ _ _ _ _ _ _ _ _ _ _ _ _ _ _ _ _ _ _ _ _ _ _ _ _ _ _ _ _ _ _ _ _ _ _ _ _ _ wr => 5 - (intOf t6).toNat)
  case atStart => exact ⟨0, by omega, rfl, H1.out, H2.out, H3.out, by rw [show n % 2 ^ (32 * 0) * m = 0 by simp [Nat.mod_one], arr_congr false (g := fun _ => 0) (fun i _ => limb_zero i)]; exact H4.out, HB.out⟩
  case round =>
    obtain ⟨i, hi, rfl, hA, hB, hC, hD, hW⟩ := hrel
    have HA := hid hA; have HBb := hid hB; have HC := hid hC; have HD := hid hD; have HW := hid hW
    clear hA hB hC hD hW
    by_cases hlt : i < 5
    · have ca : wr.cell? ⟨w.heap.size, i, none⟩ = some (.int .u64 (limb n i : Nat)) := by rw [HA.out.cell, arr_get _ _ i (by omega)]
      have CA := hid ca; clear ca
      go_wp2
      rw [show decide ((i : Int) < 5) = true by simp; omega]
      go_loopw [7,8,9,14,15,16,17,18,19,20,21,22,23,24,25,26,27,28,29,30,31,32,33,34,35,36,37,38,39,40,41,42,43,44] (fun t7 t8 _ _ _ _ _ _ _ _ _ _ _ _ _ _ _ _ _ _ _ _ _ _ _ _ _ _ _ _ _ _ _ _ wr => ∃ (k C over : Nat), k ≤ 5 ∧ t8 = .int .i64 k ∧ t7 = .int .u64 over ∧ over < 4294967296 ∧ C + over * 2 ^ (32 * (i + k)) = part n m i k ∧ (∀ j, i + 5 ≤ j → limb C j = 0) ∧ Blk wr w.heap.size (arr (limb n) na) 123 ∧ Blk wr (w.heap.size + 1) (arr (limb m) nb) 123 ∧ Blk wr (w.heap.size + 1 + 1) (arr (fun _ => 0) false) 123 ∧ Blk wr (w.heap.size + 1 + 1 + 1) (arr (limb C) false) 123 ∧ Below w.heap.size w wr) (fun _ t8 _ _ _ _ _ _ _ _ _ _ _ _ _ _ _ _ _ _ _ _ _ _ _ _ _ _ _ _ _ _ _ _ wr => 5 - (intOf t8).toNat)
      case atStart => exact ⟨0, n % 2 ^ (32 * i) * m, 0, by omega, rfl, rfl, by omega, by rw [part_zero]; omega, fun j hj => row_lt HM.out j hj, HA.out, HBb.out, HC.out, HD.out, HW.out⟩
      case round =>
        clear HA HBb HC HD HW CA
        obtain ⟨k, C, over, hk, rfl, rfl, ho, hI, hZ, hA, hB, hC, hD, hW⟩ := hrel
        have HA := hid hA; have HBb := hid hB; have HC := hid hC; have HD := hid hD; have HW := hid hW; have HI := Box.mk hI; have HZ := Box.mk hZ
        clear hA hB hC hD hW hI hZ
        by_cases hlk : k < 5
        · obtain ⟨q, hq⟩ : ∃ q, q = i + k := ⟨_, rfl⟩
          have q10 : (q : Int) < 10 := by omega
          have hqi : (i : Int) + (k : Int) = (q : Int) := by omega
          have e6 : wrap64 (q : Int) = (q : Int) := by unfold wrap64; omega
          have e7 : IntKind.i64.wrap (q : Int) = (q : Int) := by rw [IntKind.wrap_i64]; omega
          have i0 : (0 : Int) ≤ (i : Int) := by omega
          have i1 : (i : Int) < 10 := by omega
          have k0 : (0 : Int) ≤ (k : Int) := by omega
          have k1 : (k : Int) < 10 := by omega
          have q0 : (0 : Int) ≤ (q : Int) := by omega
          have c1 : wr.cell? ⟨w.heap.size, i, none⟩ = some (.int .u64 (limb n i : Nat)) := by rw [HA.out.cell, arr_get _ _ i (by omega)]
          have c2 : wr.cell? ⟨w.heap.size + 1, k, none⟩ = some (.int .u64 (limb m k : Nat)) := by rw [HBb.out.cell, arr_get _ _ k (by omega)]
          have c3 : wr.cell? ⟨w.heap.size + 1 + 1 + 1, q, none⟩ = some (.int .u64 (limb C q : Nat)) := by rw [HD.out.cell, arr_get _ _ q (by omega)]
          have HS := Box.mk (times_step HI.out (show limb C q = limb C (i + k) by rw [hq]))
          have l1 := limb_lt n i
          have l2 := limb_lt m k
          have l3 := limb_lt C q
          have l4 : limb n i * limb m k ≤ 4294967295 * 4294967295 := Nat.mul_le_mul (by omega) (by omega)
          obtain ⟨z, hz⟩ : ∃ z, z = limb n i * limb m k := ⟨_, rfl⟩
          have e1 : ((limb n i : Nat) : Int) * ((limb m k : Nat) : Int) = (z : Int) := by rw [hz]; exact (Int.natCast_mul _ _).symm
          rw [← hz] at HS l4
          rw [← hq] at HS
          have HZ2 := hid hz; have HQ := hid hq
          clear hz hq
          generalize limb n i = x at *
          generalize limb m k = y at *
          generalize limb C q = v at *
          have e2 : IntKind.u64.wrap ((x : Int) * (y : Int)) = (z : Int) := by rw [e1, IntKind.wrap_u64]; omega
          clear e1
          have e3 : IntKind.u64.wrap ((v : Int) + (z : Int)) = (v : Int) + (z : Int) := by rw [IntKind.wrap_u64]; omega
          have e4 : IntKind.u64.wrap ((v : Int) + (z : Int) + (over : Int)) = (v : Int) + (z : Int) + (over : Int) := by rw [IntKind.wrap_u64]; omega
          have e5 : bits BinOp.and IntKind.u64 ((v : Int) + (z : Int) + (over : Int)) 4294967295 = (((v + z + over) % 4294967296 : Nat) : Int) := by rw [← u64_mask (v + z + over) (by omega)]; simp
          have L3 := hid l3; have L4 := hid l4; have LO := hid ho
          have E2 := hid e2; have E3 := hid e3; have E4 := hid e4; have E5 := hid e5
          clear l1 l2 l3 l4 ho e2 e3 e4 e5
          go_wp2
          refine wp_region_early [0, 1, 2, 3, 4, 5, 6, 7, 8, 9, 10, 11, 12, 13, 14, 15, 16, 17, 18] [] [] (fun wx => wx.cell? ⟨w.heap.size, i, none⟩ = some (.int .u64 (x : Int)) ∧ wx.cell? ⟨w.heap.size + 1, k, none⟩ = some (.int .u64 (y : Int)) ∧ wx.cell? ⟨w.heap.size + 1 + 1 + 1, q, none⟩ = some (.int .u64 (v : Int))) (by kernel_rfl) (by kernel_rfl) (by kernel_rfl) (by rfl) ⟨c1, c2, c3⟩ ?_
          apply Exists.intro
          refine ⟨fun wx hx => ?_, ?_⟩
          · obtain ⟨x1, x2, x3⟩ := hx
            have e2 := E2.out; have e3 := E3.out; have e4 := E4.out
            repeat (refine seI_step rfl (fun K hK => ?_); go_simp; refine hK _ ?_; clear hK K)
            exact seI_nil rfl
          refine wpTA_nil .nil ?_
          go_wp2
          refine NoPanic.normal ?_
          have e5 := E5.out
          have f1 : wr.frozen? ⟨w.heap.size + 1 + 1 + 1, q, none⟩ = false := HD.out.frozen q
          go_wp2
          go_roundw
          case rel =>
            refine ⟨k + 1, put C q ((v + z + over) % 4294967296), (v + z + over) / 4294967296, by omega, by go_num, by simp, ?_, HS.out, ?_, HA.out.other (by omega), HBb.out.other (by omega), HC.out.other (by omega), ?_, (HW.out.setCell (p := ⟨w.heap.size + 1 + 1 + 1, q, none⟩) (by simp; omega) _).drew⟩
            · have h3 := L3.out; have h4 := L4.out; have h5 := LO.out; omega
            · intro j hj
              rw [limb_put (Nat.mod_lt _ (by omega)), if_neg (by omega)]
              exact HZ.out j hj
            · have h1 := HD.out.setCell q (.int .u64 (((v + z + over) % 4294967296 : Nat) : Int))
              rw [arr_set _ _ _ q (by omega)] at h1
              rw [arr_congr (g := fun k => if k = q then (v + z + over) % 4294967296 else limb C k) false (fun k _ => limb_put (Nat.mod_lt _ (by omega)) k)]
              have q4 : ((v : Int) + (z : Int) + (over : Int)) % 4294967296 = (((v + z + over) % 4294967296 : Nat) : Int) := by omega
              rw [q4]
              exact h1
          case measure => simp [intOf]; omega
        · obtain rfl : k = 5 := by omega
          have hD2 : limb C (i + 5) = 0 := HZ.out _ (by omega)
          have HP := Box.mk (show put C (i + 5) over = n % 2 ^ (32 * (i + 1)) * m by
            have h1 := put_eq C (i + 5) over
            rw [hD2] at h1
            rw [← part_row n m i HM.out, ← HI.out]
            omega)
          have LO := Box.mk ho
          clear hD2 ho
          obtain ⟨q, hq⟩ : ∃ q, q = i + 5 := ⟨_, rfl⟩
          rw [← hq] at HP
          have q10 : (q : Int) < 10 := by omega
          have e7 : IntKind.i64.wrap ((i : Int) + 5) = (q : Int) := by rw [IntKind.wrap_i64]; omega
          have q0 : (0 : Int) ≤ (q : Int) := by omega
          have HQ := Box.mk hq
          clear hq
          have f1 : wr.frozen? ⟨w.heap.size + 1 + 1 + 1, q, none⟩ = false := HD.out.frozen q
          have c3 : wr.cell? ⟨w.heap.size + 1 + 1 + 1, q, none⟩ = some (.int .u64 (limb C q : Nat)) := by rw [HD.out.cell, arr_get _ _ q (by omega)]
          generalize limb C q = v at *
          go_wp2
          have hq := HQ.out
          go_roundw
          case rel =>
            refine ⟨i + 1, by omega, by go_num, HA.out.other (by omega), HBb.out.other (by omega), HC.out.other (by omega), ?_, HW.out.setCell (p := ⟨w.heap.size + 1 + 1 + 1, q, none⟩) (by simp; omega) _⟩
            have h1 := HD.out.setCell q (.int .u64 ((over : Nat) : Int))
            rw [arr_set _ _ _ q (by omega)] at h1
            rw [← HP.out, arr_congr (g := fun k => if k = q then over else limb C k) false (fun k _ => limb_put LO.out k)]
            exact h1
          case measure => simp [intOf]; omega
    · obtain rfl : i = 5 := by omega
      rw [Nat.mod_eq_of_lt HN.out] at HD
      have hL := lim_mul HN.out HM.out
      rw [show 32 * 5 + 32 * 5 = 32 * 10 from rfl, ← lim_eq, ← HPP.out] at hL
      rw [← HPP.out] at HD
      have HL := Box.mk hL
      clear hL
      have cna : wr.cell? ⟨w.heap.size, 10, none⟩ = some (.bool na) := by rw [HA.out.cell, arr_neg]
      have cnb : wr.cell? ⟨w.heap.size + 1, 10, none⟩ = some (.bool nb) := by rw [HBb.out.cell, arr_neg]
      clear HA HBb HN HM H1 H2 H3 H4 HB
      by_cases hnn : na = nb
      case neg =>
        obtain rfl : na = !nb := by cases na <;> cases nb <;> simp_all
        have hnn : ((!nb) != nb) = true := by cases nb <;> rfl
        have HRR : Box (decide (p = 0) = !r) := ⟨by rw [HR.out, hnn]; simp⟩
        clear HR hnn
        go_wp2_with (refine loadBigG rfl (.tmp 5) rfl (w.heap.size + 1 + 1 + 1) rfl (limb p) false HD.out ?_)
        refine (rzero_any p false HL.out _).mono ?_
        rintro e W1 ⟨rfl, hb1⟩
        have G1 := hid (HD.out.below hb1 (Nat.le_refl _))
        have G2 := hid (HC.out.below hb1 (Nat.le_refl _))
        have GB := hid (HW.out.trans (hb1.mono HW.out.size))
        clear hb1 cna cnb
        have K1 := hid (G1.out.setCell 10 (.bool r))
        have K2 := hid (G2.out.other (k := w.heap.size + 1 + 1 + 1) (i := 10) (v := .bool r) (by omega))
        have KB := hid (GB.out.setCell (p := ⟨w.heap.size + 1 + 1 + 1, 10, none⟩) (by simp; omega) (.bool r))
        rw [arr_setNeg] at K1
        have hf := G1.out.frozen 10
        have hc : W1.cell? ⟨w.heap.size + 1 + 1 + 1, 10, none⟩ = some (.bool false) := G1.out.cell 10
        rw [HRR.out]
        go_wp2_with (first
          | (refine loadBig rfl (.tmp 5) rfl (w.heap.size + 1 + 1 + 1) rfl (limb p) r K1.out ?_)
          | (refine storeBig rfl (.tmp 4) (.tmp 61) rfl (w.heap.size + 1 + 1) (limb p) r rfl rfl _ K2.out rfl ?_))
        refine bodyPost_ret (retBig rfl _ _ (w.heap.size + 1 + 1) (limb p) r rfl (K2.out.setRow _)) rfl ⟨rfl, ?_⟩
        exact KB.out.trans (Below_setRow (Below.refl _ _) (by omega) _)
      case pos =>
        subst hnn
        obtain rfl : r = false := by rw [HR.out]; simp
        have K1 := hid (HD.out.setCell 10 (.bool false))
        have K2 := hid (HC.out.other (k := w.heap.size + 1 + 1 + 1) (i := 10) (v := .bool false) (by omega))
        have KB := hid (HW.out.setCell (p := ⟨w.heap.size + 1 + 1 + 1, 10, none⟩) (by simp; omega) (.bool false))
        rw [arr_setNeg] at K1
        have hf := HD.out.frozen 10
        have hc : wr.cell? ⟨w.heap.size + 1 + 1 + 1, 10, none⟩ = some (.bool false) := HD.out.cell 10
        go_wp2_with (first
          | (refine loadBig rfl (.tmp 5) rfl (w.heap.size + 1 + 1 + 1) rfl (limb p) false K1.out ?_)
          | (refine storeBig rfl (.tmp 4) (.tmp 61) rfl (w.heap.size + 1 + 1) (limb p) false rfl rfl _ K2.out rfl ?_))
        refine bodyPost_ret (retBig rfl _ _ (w.heap.size + 1 + 1) (limb p) false rfl (K2.out.setRow _)) rfl ⟨rfl, ?_⟩
        exact KB.out.trans (Below_setRow (Below.refl _ _) (by omega) _)
end Go.Proofs.Ytecmpjccdhmeeaa
end
section
/- Lists of ints: 'Sum' of the code and of the reference, 'Same'. -/
namespace Go.Proofs.Ytecmpjccdhmeeaa
open Go.RowKit
theorem seI_load_row {P : Program} {ops : Array Oper} {wx : World} {Q : Act → Prop} {i : Nat} {r : List Nat} {a : Act} {o : Oper} (ho : ops[i]? = some o) (hgd : o.guard = none) (ty : TypeId) (x : Operand) (hop : o.op = .load ty x)
    (g : Nat) (hx : a.eval x = .pointer (some ⟨g, 0, none⟩)) (t : TypeId) (cs : Array Value) (fr : Nat × Nat) (d : TypeDesc) (hg : wx.heap[g]? = some (.cells cs t fr))
    (hu : P.underlying ty = some d) (hd : (match d with | .struct _ | .array _ _ => true | _ => false) = true) (hi : (P.info? ty).map (·.size) = some cs.size)
    (h : seI P ops wx Q r (a.put o.dst (.agg cs))) : seI P ops wx Q (i :: r) a := by
  refine seI_step ho fun K hK => ?_
  rw [if_pos (by simp [Region.wanted, hgd])]
  unfold Oper.still execOp
  simp only [hop, hx, Instr.loadAt, Instr.sureAddr, Sem.run_bind, Sem.run_pure, Result.andThen_ok, run_loadVar_row wx g t ty cs fr d hg hu hd hi]
  rw [Oper.stillUpon_value]
  exact hK _ h
theorem seI_loadBig {ops : Array Oper} {wx : World} {Q : Act → Prop} {i : Nat} {r : List Nat} {a : Act} {o : Oper} (ho : ops[i]? = some o) (hgd : o.guard = none) (x : Operand) (hop : o.op = .load 123 x) (g : Nat) (hx : a.eval x = .pointer (some ⟨g, 0, none⟩))
    (f : Nat → Nat) (neg : Bool) (hg : Blk wx g (arr f neg) 123) (h : seI Try.prog ops wx Q r (a.put o.dst (.agg (arr f neg)))) : seI Try.prog ops wx Q (i :: r) a :=
  seI_load_row ho hgd 123 x hop g hx 123 (arr f neg) (0, 0) _ hg Try.underlying123 rfl (by kernel_rfl) h
def total (zs : List Int) : Int := zs.foldl (· + ·) 0
theorem total_take_succ {zs : List Int} {k : Nat} (h : k < zs.length) : total (zs.take (k + 1)) = total (zs.take k) + zs[k] := by
  unfold total
  rw [List.take_succ_eq_append_getElem h, List.foldl_append]
  rfl
theorem total_bound {zs : List Int} (h : ints zs) : ∀ k, k ≤ zs.length → -9223372036854775808 * (k : Int) ≤ total (zs.take k) ∧ total (zs.take k) ≤ 9223372036854775808 * (k : Int) := by
  intro k
  induction k with
  | zero => intro _; simp [total]
  | succ k ih =>
    intro hk
    have := ih (by omega)
    have hz := h zs[k] (List.getElem_mem _)
    rw [total_take_succ (by omega)]
    omega
theorem add64 (x y : Int) (hx : 0 ≤ x) (hy : 0 ≤ y) (w : World) : (callFunc 88 #[.int .u64 x, .int .u64 y, .int .u64 0]).run Try.prog w =
    .ok (.value (.tuple #[.int .u64 ((x + y) % 18446744073709551616), .int .u64 ((x + y) / 18446744073709551616)])) w := by
  rw [run_callFunc_extern Try.func88 (by kernel_rfl) (by kernel_rfl) (by kernel_rfl) (e := add64Entry) (by kernel_rfl), run_add64 x y 0 hx hy (by omega) (by omega)]
  simp [Result.andThen]
def sLo (z : Int) : Int := z % 18446744073709551616
def sHi (z : Int) : Int := z / 18446744073709551616 % 18446744073709551616
theorem lo_step (s n : Int) : (sLo s + IntKind.u64.wrap n) % 18446744073709551616 = sLo (s + n) := by rw [IntKind.wrap_u64]; unfold sLo; omega
theorem hi_step (s n : Int) (h1 : -9223372036854775808 ≤ n) (h2 : n ≤ 9223372036854775807) :
    IntKind.u64.wrap (sHi s + IntKind.u64.wrap (IntKind.u64.wrap (n / 9223372036854775808) + (sLo s + IntKind.u64.wrap n) / 18446744073709551616)) = sHi (s + n) := by
  simp only [IntKind.wrap_u64]
  have e1 : n = n % 18446744073709551616 + 18446744073709551616 * (n / 9223372036854775808) := by omega
  have e2 : s = sLo s + 18446744073709551616 * (s / 18446744073709551616) := by unfold sLo; omega
  have e3 : (s + n) / 18446744073709551616 = s / 18446744073709551616 + n / 9223372036854775808 + (sLo s + n % 18446744073709551616) / 18446744073709551616 := by
    have e4 : s + n = (sLo s + n % 18446744073709551616) + 18446744073709551616 * (s / 18446744073709551616 + n / 9223372036854775808) := by omega
    generalize sLo s + n % 18446744073709551616 = z at *
    generalize s / 18446744073709551616 = q at *
    generalize n / 9223372036854775808 = r at *
    omega
  unfold sHi
  rw [e3]
  generalize (sLo s + n % 18446744073709551616) / 18446744073709551616 = z
  generalize s / 18446744073709551616 = q
  generalize n / 9223372036854775808 = r
  omega
set_option maxRecDepth 100000 in
set_option maxHeartbeats 2000000 in
theorem aSum_any (a : Option Addr) (cap : Nat) (zs : List Int) (w : World) (v : Value) (hv : v = fitV (total zs)) (hi : ints zs) (hl : zs.length ≤ 1000000) (hr : RowAt w a (zs.map iV)) :
    Calls Try.prog 66 #[.slice a zs.length cap] w fun e w' => e = .returned v ∧ w' = w := by
  have HR := hid hr; have HI := hid hi; have HV := hid hv; have HL := hid hl
  clear hr hi hv
  go_enter Try.func66, Try.ntmps66
  go_wp2
  go_loop [4,5,7,8,11,12,13,14,15,16,17,18,19,20,21,22,23,24,25,26,27,28,29] (fun t4 t5 _ _ t11 _ _ _ _ _ _ _ _ _ _ _ _ _ _ _ _ _ _ => ∃ k : Nat, k ≤ zs.length ∧ t11 = .int .i64 k ∧ t4 = .int .u64 (sHi (total (zs.take k))) ∧ t5 = .int .u64 (sLo (total (zs.take k)))) (fun _ _ _ _ t11 _ _ _ _ _ _ _ _ _ _ _ _ _ _ _ _ _ _ => zs.length - (intOf t11).toNat)
  case atStart => exact ⟨0, by omega, rfl, rfl, rfl⟩
  case round =>
    obtain ⟨k, hk, rfl, rfl, rfl⟩ := hrel
    by_cases hlt : k < zs.length
    · obtain ⟨b, off, rfl, hc⟩ := HR.out.int hlt
      have hz := HI.out zs[k] (List.getElem_mem _)
      have HT := hid (total_take_succ hlt)
      have hB := hid (total_bound HI.out k (by omega))
      have hB2 := hid (total_bound HI.out (k + 1) (by omega))
      generalize zs[k] = n at *
      obtain ⟨s, hs⟩ : ∃ s, s = total (zs.take k) := ⟨_, rfl⟩
      rw [← hs] at HT hB ⊢
      clear hs
      obtain ⟨x, hx⟩ : ∃ x, x = sLo s := ⟨_, rfl⟩
      obtain ⟨y, hy⟩ : ∃ y, y = sHi s := ⟨_, rfl⟩
      rw [← hx, ← hy]
      have x1 : 0 ≤ x := by rw [hx]; unfold sLo; omega
      obtain ⟨u, hu⟩ : ∃ u, u = IntKind.u64.wrap n := ⟨_, rfl⟩
      have hn := hu.symm
      have u1 : 0 ≤ u := by rw [hu, IntKind.wrap_u64]; omega
      have HX := hid hx; have HY := hid hy; have HU := hid hu; have HZ := hid hz
      clear hx hy hu hz
      have hadd := fun w => add64 x u x1 u1 w
      go_wp2_with (simp only [hadd])
      go_round
      case rel =>
        refine ⟨k + 1, by omega, by go_num, ?_, ?_⟩
        · rw [HT.out, ← hi_step s n HZ.out.1 HZ.out.2, HX.out, HY.out, HU.out]
        · rw [HT.out, ← lo_step, HX.out, HU.out]
      case measure => simp [intOf]; omega
    · obtain rfl : k = zs.length := by omega
      have hB := hid (total_bound HI.out zs.length (by omega))
      rw [List.take_length] at hB ⊢
      generalize total zs = s at *
      obtain ⟨x, hx⟩ : ∃ x, x = sLo s := ⟨_, rfl⟩
      obtain ⟨y, hy⟩ : ∃ y, y = sHi s := ⟨_, rfl⟩
      rw [← hx, ← hy]
      by_cases hf : fitB s = true
      · have hf2 : -9223372036854775808 ≤ s ∧ s ≤ 9223372036854775807 := by simpa [fitB] using hf
        obtain rfl : v = .tuple #[.int .i64 s, .bool true] := by rw [HV.out]; exact fitV_yes hf2.1 hf2.2
        have hw : wrap64 x = s := by rw [hx]; unfold sLo wrap64; omega
        have hy2 : (y != IntKind.u64.wrap (s / 9223372036854775808)) = false := by rw [hy, IntKind.wrap_u64]; unfold sHi; simp; omega
        clear HV hf hf2 hx hy hB
        have HW := hid hw
        go_wp2
        go_ret2
        exact ⟨rfl, rfl⟩
      · have hf2 : s < -9223372036854775808 ∨ 9223372036854775807 < s := by simp [fitB] at hf; omega
        obtain rfl : v = .tuple #[.int .i64 0, .bool false] := by rw [HV.out]; exact fitV_no hf2
        have hy2 : (y != IntKind.u64.wrap (wrap64 x / 9223372036854775808)) = true := by
          have := hB.out; rw [hy, hx, IntKind.wrap_u64]; unfold sHi sLo wrap64; simp; omega
        clear HV hf hf2 hx hy hB
        go_wp2
        go_ret2
        exact ⟨rfl, rfl⟩
end Go.Proofs.Ytecmpjccdhmeeaa
end
section
/- The law of sums, walked. -/
namespace Go.Proofs.Ytecmpjccdhmeeaa
open Go.RowKit
theorem Try.infoInt : (Try.prog.info? 3).map (fun i => (i.zero, i.size, i.bytes)) = some (some (.int .i64 0), 1, 8) := by kernel_rfl
end Go.Proofs.Ytecmpjccdhmeeaa
end
section
/- The law of pairs, walked. -/
namespace Go.Proofs.Ytecmpjccdhmeeaa
open Go.RowKit
theorem sign_mul (x y : Int) : decide (x * y < 0) = ((decide (x < 0) != decide (y < 0)) && !(decide ((x * y).natAbs = 0))) := by
  rcases Int.lt_trichotomy x 0 with hx | hx | hx <;> rcases Int.lt_trichotomy y 0 with hy | hy | hy
  · have := Int.mul_pos_of_neg_of_neg hx hy
    rw [decide_eq_true hx, decide_eq_true hy, decide_eq_false (by omega)]; rfl
  · subst hy; simp
  · have := Int.mul_neg_of_neg_of_pos hx hy
    rw [decide_eq_true hx, decide_eq_false (show ¬ y < 0 by omega), decide_eq_true this, decide_eq_false (show ¬ (x * y).natAbs = 0 by omega)]; rfl
  · subst hx; simp
  · subst hx; simp
  · subst hx; simp
  · have := Int.mul_neg_of_pos_of_neg hx hy
    rw [decide_eq_false (show ¬ x < 0 by omega), decide_eq_true hy, decide_eq_true this, decide_eq_false (show ¬ (x * y).natAbs = 0 by omega)]; rfl
  · subst hy; simp
  · have := Int.mul_pos hx hy
    rw [decide_eq_false (show ¬ x < 0 by omega), decide_eq_false (show ¬ y < 0 by omega), decide_eq_false (show ¬ x * y < 0 by omega)]; rfl
theorem rTimes_any (x y : Int) (hx : x.natAbs < 2 ^ (32 * 5)) (hy : y.natAbs < 2 ^ (32 * 5)) (w : World) :
    Calls Try.prog 73 #[bigOf x, bigOf y] w fun e w' => e = .returned (bigOf (x * y)) ∧ Below w.heap.size w w' :=
  rTimes_nat x.natAbs y.natAbs (x * y).natAbs (Int.natAbs_mul x y) (decide (x < 0)) (decide (y < 0)) (decide (x * y < 0)) (sign_mul x y) hx hy w
theorem fitV_out (z : Int) : ∃ x o, fitV z = .tuple #[.int .i64 x, .bool o] := ⟨_, _, rfl⟩
end Go.Proofs.Ytecmpjccdhmeeaa
end
section
/- 'Blocks' of both, walked. -/
namespace Go.Proofs.Ytecmpjccdhmeeaa
open Go.RowKit
/-- How many blocks, and whether there are any to be told. -/
def blkB (u b : Int) : Bool := decide (0 ≤ u ∧ 1 ≤ b)
def blkV (u b : Int) : Int := if blkB u b = true then (u + b - 1) / b else 0
def blkT (u b : Int) : Value := .tuple #[.int .i64 (blkV u b), .bool (blkB u b)]
theorem blkT_no {u b : Int} (h : u < 0 ∨ b < 1) : blkT u b = .tuple #[.int .i64 0, .bool false] := by
  have : blkB u b = false := by unfold blkB; simp; omega
  unfold blkT blkV; rw [this]; rfl
theorem blkT_yes {u b : Int} (h1 : 0 ≤ u) (h2 : 1 ≤ b) : blkT u b = .tuple #[.int .i64 ((u + b - 1) / b), .bool true] := by
  have : blkB u b = true := by unfold blkB; simp; omega
  unfold blkT blkV; rw [this]; rfl
theorem blk_one {u b : Int} (h1 : 1 ≤ u) (h2 : 1 ≤ b) : (u - 1).tdiv b + 1 = (u + b - 1) / b ∧ 0 ≤ (u - 1) / b ∧ (u - 1) / b < u := by
  rw [Int.tdiv_eq_ediv_of_nonneg (by omega), show u + b - 1 = (u - 1) + 1 * b by omega, Int.add_mul_ediv_right _ _ (by omega)]
  refine ⟨rfl, Int.ediv_nonneg (by omega) (by omega), ?_⟩
  have := Int.ediv_le_self b (show 0 ≤ u - 1 by omega)
  omega
set_option maxRecDepth 100000 in
set_option maxHeartbeats 2000000 in
theorem aBlocks_any (u b : Int) (hu : u ≤ 9223372036854775807) (hb : b ≤ 9223372036854775807) (hu0 : -9223372036854775808 ≤ u) (hb0 : -9223372036854775808 ≤ b) (w : World) (v : Value) (hv : v = blkT u b) :
    Calls Try.prog 62 #[.int .i64 u, .int .i64 b] w fun e w' => e = .returned v ∧ w' = w := by
  by_cases h1 : u < 0
  · obtain rfl : v = .tuple #[.int .i64 0, .bool false] := by rw [hv]; exact blkT_no (.inl h1)
    clear hv
    go_enter Try.func62, Try.ntmps62
    go_wp2
    go_ret2
    exact ⟨rfl, rfl⟩
  · by_cases h2 : b < 1
    · obtain rfl : v = .tuple #[.int .i64 0, .bool false] := by rw [hv]; exact blkT_no (.inr h2)
      clear hv
      go_enter Try.func62, Try.ntmps62
      go_wp2
      go_ret2
      exact ⟨rfl, rfl⟩
    · by_cases h3 : u = 0
      · subst h3
        obtain rfl : v = .tuple #[.int .i64 0, .bool true] := by
          rw [hv, blkT_yes (by omega) (by omega), show 0 + b - 1 = b - 1 by omega, Int.ediv_eq_zero_of_lt (by omega) (by omega)]
        clear hv
        go_enter Try.func62, Try.ntmps62
        go_wp2
        go_ret2
        exact ⟨rfl, rfl⟩
      · have hk := blk_one (u := u) (b := b) (by omega) (by omega)
        obtain ⟨k1, k2, k3⟩ := hk
        rw [Int.tdiv_eq_ediv_of_nonneg (by omega)] at k1
        obtain ⟨q, hq⟩ : ∃ q, q = (u - 1) / b := ⟨_, rfl⟩
        rw [← hq] at k1 k2 k3
        obtain rfl : v = .tuple #[.int .i64 (q + 1), .bool true] := by rw [hv, blkT_yes (by omega) (by omega), k1]
        have ht : (u - 1).tdiv b = q := by rw [hq]; exact Int.tdiv_eq_ediv_of_nonneg (by omega)
        have h3' : (u == 0) = false := by simp; omega
        have hb0 : (b == 0) = false := by simp; omega
        have HQ := Box.mk hq
        clear hv k1 hq h3
        go_enter Try.func62, Try.ntmps62
        go_wp2
        go_ret2
        exact ⟨rfl, rfl⟩
theorem blk_two {u b : Int} (h1 : 0 ≤ u) (h2 : 1 ≤ b) : (u % b = 0 → (u + b - 1) / b = u / b) ∧ (u % b ≠ 0 → (u + b - 1) / b = u / b + 1) ∧ 0 ≤ u / b ∧ u / b ≤ u ∧ (u % b ≠ 0 → u / b < u) := by
  have hd := Int.mul_ediv_add_emod u b
  have m0 := Int.emod_nonneg u (show b ≠ 0 by omega)
  have m1 := Int.emod_lt_of_pos u (show 0 < b by omega)
  have q0 : 0 ≤ u / b := Int.ediv_nonneg h1 (by omega)
  have q1 := Int.ediv_le_self b h1
  have e : u + b - 1 = (u % b + b - 1) + (u / b) * b := by rw [Int.mul_comm]; omega
  refine ⟨fun h => ?_, fun h => ?_, q0, q1, fun h => ?_⟩
  · rw [e, Int.add_mul_ediv_right _ _ (by omega), h, Int.ediv_eq_zero_of_lt (by omega) (by omega)]; omega
  · rw [e, Int.add_mul_ediv_right _ _ (by omega), show u % b + b - 1 = (u % b - 1) + 1 * b by omega, Int.add_mul_ediv_right _ _ (by omega), Int.ediv_eq_zero_of_lt (by omega) (by omega)]; omega
  · refine Classical.byContradiction fun h3 => ?_
    · have h4 : u / b = u := by omega
      rw [h4] at hd
      have : u ≤ b * u := by
        have := Int.mul_le_mul_of_nonneg_right h2 h1
        omega
      omega
set_option maxRecDepth 100000 in
set_option maxHeartbeats 2000000 in
theorem rBlocks_any (u b : Int) (hu : u ≤ 9223372036854775807) (hb : b ≤ 9223372036854775807) (hu0 : -9223372036854775808 ≤ u) (hb0 : -9223372036854775808 ≤ b) (w : World) (v : Value) (hv : v = blkT u b) :
    Calls Try.prog 68 #[.int .i64 u, .int .i64 b] w fun e w' => e = .returned v ∧ w' = w := by
  by_cases h1 : u < 0
  · obtain rfl : v = .tuple #[.int .i64 0, .bool false] := by rw [hv]; exact blkT_no (.inl h1)
    clear hv
    go_enter Try.func68, Try.ntmps68
    go_wp2
    go_ret2
    exact ⟨rfl, rfl⟩
  · by_cases h2 : b < 1
    · obtain rfl : v = .tuple #[.int .i64 0, .bool false] := by rw [hv]; exact blkT_no (.inr h2)
      clear hv
      go_enter Try.func68, Try.ntmps68
      go_wp2
      go_ret2
      exact ⟨rfl, rfl⟩
    · have hk := blk_two (u := u) (b := b) (by omega) (by omega)
      obtain ⟨k1, k2, k3, k4, k5⟩ := hk
      have hy := blkT_yes (u := u) (b := b) (by omega) (by omega)
      rw [hy] at hv
      have ht : u.tdiv b = u / b := Int.tdiv_eq_ediv_of_nonneg (by omega)
      have hr : u.tmod b = u % b := Int.tmod_eq_emod_of_nonneg (by omega)
      generalize u / b = q at *
      generalize (u + b - 1) / b = n at *
      generalize u % b = r at *
      by_cases h3 : r = 0
      · obtain rfl : v = .tuple #[.int .i64 q, .bool true] := by rw [hv, k1 h3]
        subst h3
        have hb1 : (b == 0) = false := by simp; omega
        clear hv k1 k2 k5 hy
        go_enter Try.func68, Try.ntmps68
        go_wp2
        go_ret2
        exact ⟨rfl, rfl⟩
      · obtain rfl : v = .tuple #[.int .i64 (q + 1), .bool true] := by rw [hv, k2 h3]
        have k6 := k5 h3
        have hb1 : (b == 0) = false := by simp; omega
        have hr1 : (r != 0) = true := by simp; omega
        clear hv k1 k2 k5 hy h3
        go_enter Try.func68, Try.ntmps68
        go_wp2
        go_ret2
        exact ⟨rfl, rfl⟩
end Go.Proofs.Ytecmpjccdhmeeaa
end
section
/- Usage spread over tiers, and what it costs: tier and rate; walked. -/
namespace Go.Proofs.Ytecmpjccdhmeeaa
open Go.RowKit
def lnCells (l : Ln) : List Value := [.int .i64 l.tier, .int .i64 l.blocks, .int .i64 l.price]
theorem ln_len (l : Ln) : (lnCells l).length = 3 := rfl
theorem ln_one (l : Ln) : ∀ v ∈ lnCells l, v.oneCell' = true := by
  intro v hv
  simp [lnCells] at hv
  rcases hv with rfl | rfl | rfl <;> rfl
abbrev LsAt (n0 : Nat) (w : World) (a : Option Addr) (ls : List Ln) : Prop := Rws lnCells 3 n0 w a ls
theorem line_ret (t : Tar) (a : Option Addr) (c i : Nat) (n : Int) (w : World) (h : TsAt 0 w a t.ts) (hi : i < t.ts.length) (hl : t.ts.length ≤ 1000) :
    Calls Try.prog 86 #[tarV t a c, .int .i64 i, .int .i64 n] w (Ret (.agg #[.int .i64 i, .int .i64 n, .int .i64 t.ts[i].price]) w) := by
  refine ret_in (GTar.line_calls t.grp t.mode t.block a t.ts.length c i n w (fun u w' => u = .agg #[.int .i64 i, .int .i64 n, .int .i64 t.ts[i].price] ∧ Below w.heap.size w w') ?_)
  unfold GTar.line_vc
  refine newB (Bs.refl w) fun g w2 g0 sg n2 z2 b2 B2 => newB B2 fun g' w3 g0' sg' n3 z3 b3 B3 => ?_
  obtain ⟨b, off, rfl, hc⟩ := (h.below B3).get hi
  exact ⟨by omega, by omega, t.ts[i].price, by rw [Int.toNat_natCast, Nat.add_assoc]; exact cellsAt_get hc 1 _ rfl, boxB B3 g0' fun w4 h4 B4 z4 => ⟨rfl, B4⟩⟩
theorem index1_ret (t : Tr) (g : Nat) (x : Int) (w : World) (hc : w.cell? ⟨g, 0, none⟩ = some (.int .i64 x)) :
    Calls Try.prog 100 #[.agg #[.int .i64 t.upto, .int .i64 t.price], .pointer (some ⟨g, 0, none⟩)] w (Ret (.bool (decide (t.upto = 0 ∨ x ≤ t.upto))) w) := by
  refine ret_in (GTar.index1_calls t.upto t.price (some ⟨g, 0, none⟩) w (fun u w' => u = .bool (decide (t.upto = 0 ∨ x ≤ t.upto)) ∧ Below w.heap.size w w') ?_)
  unfold GTar.index1_vc
  refine newB (Bs.refl w) fun g' w2 g0 sg n2 z2 b2 B2 => br_dec (fun h => ⟨by rw [decide_eq_true (.inl h)], B2⟩) fun h => ⟨x, ?_, ?_, B2⟩
  · rw [cell_keep (b2.block g (block_lt_of_cell hc))]; exact hc
  · congr 1; exact decide_eq_decide.2 (by omega)
theorem indexf_ret (a : Option Addr) (c g : Nat) (ts : List Tr) (x : Int) (w : World) (h : TsAt 0 w a ts) (hl : ts.length ≤ 1000) (hG : Good 0 ts) (hc : w.cell? ⟨g, 0, none⟩ = some (.int .i64 x)) :
    Calls Try.prog 99 #[.slice a ts.length c, .func (.func 100) #[] #[.pointer (some ⟨g, 0, none⟩)]] w (Ret (.int .i64 (idx x ts : Nat)) w) := by
  refine ret_in (GTar.indexf_calls a ts.length c (some ⟨g, 0, none⟩) w (fun u w' => u = .int .i64 (idx x ts : Nat) ∧ Below w.heap.size w w') ?_)
  unfold GTar.indexf_vc
  have hlt0 := idx_lt x ts 0 hG
  refine ⟨fun y wx => ∃ i : Nat, y = i ∧ i ≤ ts.length ∧ idx x ts = i + idx x (ts.drop i) ∧ Bs w wx, fun y _ => ts.length - y.toNat, ⟨0, rfl, by omega, by simp, Bs.refl _⟩, ?_⟩
  rintro y wx ⟨i, rfl, hi, he, B⟩
  refine br_dec (fun hlt => ?_) fun hge => ?_
  · have hil : i < ts.length := by omega
    obtain ⟨b, off, rfl, hcc⟩ := (h.below B).get hil
    rw [List.drop_eq_getElem_cons hil] at he
    refine ⟨by omega, by omega, ts[i].upto, ts[i].price, by rw [Int.toNat_natCast]; exact hcc, callB B (index1_ret ts[i] g x wx ((cell_keep (B.block g (block_lt_of_cell hc)) 0).trans hc)) fun w3 b3 B3 => ⟨_, rfl, br_dec (fun hy => ⟨?_, B3⟩) fun hy => ?_⟩⟩
    · rw [he]; unfold idx; rw [if_pos hy]; simp
    · rw [wr64 (by omega) (by omega)]
      have he2 : idx x ts = i + (idx x (ts.drop (i + 1)) + 1) := by rw [he]; conv => lhs; unfold idx; rw [if_neg hy]
      exact ⟨⟨i + 1, by omega, by omega, by omega, B3⟩, by dsimp only; omega⟩
  · obtain rfl : i = ts.length := by omega
    omega
theorem index_ret (t : Tar) (a : Option Addr) (c : Nat) (x : Int) (w : World) (h : TsAt 0 w a t.ts) (hl : t.ts.length ≤ 1000) (hk : chkE t = 0) (hx : 1 ≤ x) :
    Calls Try.prog 87 #[tarV t a c, .int .i64 x] w (Ret (.int .i64 (idx x t.ts : Nat)) w) := by
  refine ret_in (GTar.index_calls t.grp t.mode t.block a t.ts.length c x w (fun u w' => u = .int .i64 (idx x t.ts : Nat) ∧ Below w.heap.size w w') ?_)
  unfold GTar.index_vc
  refine newB (Bs.refl w) fun g w2 g0 sg n2 z2 b2 B2 => newB B2 fun g' w3 g0' sg' n3 z3 b3 B3 => ?_
  have hc3 : w3.cell? ⟨g', 0, none⟩ = some (.int .i64 x) := by rw [cell_of_row _ _ _ _ _ _ n3]; rfl
  refine ⟨x, hc3, br_n (by omega) (callB B3 (check_ret t a c w3 (h.below B3) hl) fun w4 b4 B4 => ⟨_, rfl, br_n (by omega) (callB B4 (indexf_ret a c g' t.ts x w4 (h.below B4) hl (chk_ok hk).2.2.2 ?_) fun w5 b5 B5 => ⟨_, rfl, rfl, B5⟩)⟩)⟩
  rw [cell_keep (b4.block g' (by omega))]; exact hc3
set_option maxRecDepth 10000 in
theorem split_new (t : Tar) (a : Option Addr) (c : Nat) (pos n : Int) (w : World) (h : TsAt 0 w a t.ts) (hk : chkE t = 0) (hn : 0 ≤ n ∧ n ≤ 1073741824) :
    Calls Try.prog 63 #[tarV t a c, .int .i64 pos, .int .i64 n] w fun e w' => (∃ a' c', e = .returned (.tuple #[.slice a' (splitO t pos n).length c', .int .i64 (if posOk pos then 0 else 1)]) ∧ LsAt w.heap.size w' a' (splitO t pos n)) ∧ Below w.heap.size w w' := by
  refine (GTar.split_calls t.grp t.mode t.block a t.ts.length c pos n w (fun u w' => (∃ a' c', u = .tuple #[.slice a' (splitO t pos n).length c', .int .i64 (if posOk pos then 0 else 1)] ∧ LsAt w.heap.size w' a' (splitO t pos n)) ∧ Below w.heap.size w w') ?_).mono (by rintro e w' ⟨v, rfl, ⟨a', c', rfl, h⟩, h2⟩; exact ⟨⟨a', c', rfl, h⟩, h2⟩)
  unfold GTar.split_vc splitO
  obtain ⟨_, hmode, hlen, hG⟩ := chk_ok hk
  refine newB (Bs.refl w) fun g w2 g0 sg n2 z2 b2 B2 => callB B2 (check_ret t a c w2 (h.below B2) (by omega)) fun w3 b3 B3 => ⟨_, rfl, br_n (by omega) ?_⟩
  have bad : ¬ posOk pos → (∃ a' c', (Value.tuple #[.slice none 0 0, .int .i64 1]) = .tuple #[.slice a' (if posOk pos then splitL t pos n else []).length c', .int .i64 (if posOk pos then 0 else 1)] ∧ LsAt w.heap.size w3 a' (if posOk pos then splitL t pos n else [])) ∧ Below w.heap.size w w3 := fun hb => by
    rw [if_neg hb, if_neg hb]
    exact ⟨⟨none, 0, rfl, Rws.nil⟩, B3⟩
  refine br_dec (fun h1 => bad fun k => by have := k.1; omega) fun h1 => br_dec (fun h1 => bad fun k => by have := k.2; omega) fun h2 => br_n (by omega) (br_n (by omega) ?_)
  have hpos : posOk pos := ⟨by omega, by omega⟩
  rw [if_pos hpos, if_pos hpos]
  refine ⟨fun b wx => b = decide (t.mode = 2 ∧ 0 < n) ∧ w3 = wx, br_dec (fun hm => ⟨decide_eq_decide.2 (by omega), rfl⟩) fun hm => ⟨(decide_eq_false (by omega)).symm, rfl⟩, ?_⟩
  rintro b wx ⟨rfl, rfl⟩
  unfold splitL
  refine br_dec (fun hm => ?_) fun hm => ?_
  · rw [if_pos hm]
    refine drewB B3 fun w5 b5 B5 _ => ?_
    rw [wr64 (by omega) (by omega)]
    have hi := idx_lt (pos + n) t.ts 0 hG
    refine callB B5 (index_ret t a c (pos + n) w5 (h.below B5) (by omega) hk (by omega)) fun w6 b6 B6 => ⟨_, rfl, callB B6 (line_ret t a c (idx (pos + n) t.ts) n w6 (h.below B6) hi (by omega)) fun w7 b7 B7 => ⟨_, _, _, rfl, newB B7 fun g' w8 g0' sg' n8 z8 b8 B8 => ⟨⟨_, _, rfl, ?_⟩, B8⟩⟩⟩
    have he : priceAt t.ts (idx (pos + n) t.ts) = (t.ts[idx (pos + n) t.ts]'hi).price := by unfold priceAt; rw [List.getElem?_eq_getElem hi]
    rw [he]
    exact Rws.one n8 g0'
  · rw [if_neg hm]
    have B3s := B3.size
    have b3s := b3.size
    refine ⟨fun x1 x2 a8 n8 c8 wx => ∃ out : List Ln, n8 = out.length ∧ pos ≤ x1 ∧ 0 ≤ x2 ∧ x1 + x2 = pos + n ∧ (out.length : Int) ≤ x1 - pos ∧ out ++ splitG 0 0 t.ts x1 (pos + n) = splitG 0 0 t.ts pos (pos + n) ∧ Own wx w3.heap.size 116 3 (.slice a8 n8 c8) n8 (out.flatMap lnCells) ∧ Bs w wx ∧ w3.heap.size ≤ wx.heap.size, fun _ x2 _ _ _ _ => x2.toNat,
      ⟨[], rfl, by omega, by omega, by omega, by simp, by simp, Own.nil _ _ _ _, B3, by omega⟩, ?_⟩
    rintro x1 x2 a8 n8 c8 wx ⟨out, rfl, hx1, hx2, hxe, hol, hsp, hO, B, hsz⟩
    refine br_dec (fun hgt => ?_) fun hle => ?_
    · rw [wr64 (show -9223372036854775808 ≤ x1 + 1 by omega) (by omega)]
      have hi := idx_lt (x1 + 1) t.ts 0 hG
      have hx := List.getElem?_eq_getElem hi
      obtain ⟨hst, ht1, ht2⟩ := splitG_step t.ts 0 0 x1 (pos + n) hG (by omega) (by omega) (by omega) _ hx
      have hup := (good0_price hG _ (List.getElem_mem hi)).2
      have hup2 : (t.ts[idx (x1 + 1) t.ts]'hi).upto ≤ 1099511627776 ∨ (t.ts[idx (x1 + 1) t.ts]'hi).upto = 0 := good_far t.ts 0 hG _ (List.getElem_mem hi)
      have hk1 : ∀ k, (Value.slice a8 out.length c8).ownBlock = some k → w3.heap.size ≤ k ∧ k < wx.heap.size := fun k hk => hO.lt k hk
      refine callB B (index_ret t a c (x1 + 1) wx (h.below B) (by omega) hk (by omega)) fun w10 b10 B10 => ⟨_, rfl, ?_⟩
      obtain ⟨b, off, ha, hc⟩ := (h.below B10).get hi
      have fin : ∀ m : Int, m = takeN (t.ts[idx (x1 + 1) t.ts]'hi) x1 (pos + n) → Calls Try.prog 86 #[tarV t a c, .int .i64 (idx (x1 + 1) t.ts : Nat), .int .i64 m] w10 fun e_5 w_11 => KeepG [g] w10 w_11 ∧
          ∃ (x71_0 : Int) (x71_1 : Int) (x71_2 : Int), e_5 = .returned (.agg #[.int .i64 x71_0, .int .i64 x71_1, .int .i64 x71_2]) ∧
          newO w_11 (.cells #[.int .i64 x71_0, .int .i64 x71_1, .int .i64 x71_2] 116) fun g_3 w_12 =>
          appO Try.prog [g] w_12 116 3 24 51 a8 out.length c8 (.slice (some ⟨g_3, 0, none⟩) 1 1) fun m73 a73 c73 w_13 =>
          (∃ out' : List Ln, out.length + m73 = out'.length ∧ pos ≤ IntKind.i64.wrap (x1 + m) ∧ 0 ≤ IntKind.i64.wrap (x2 - m) ∧ IntKind.i64.wrap (x1 + m) + IntKind.i64.wrap (x2 - m) = pos + n ∧ (out'.length : Int) ≤ IntKind.i64.wrap (x1 + m) - pos ∧ out' ++ splitG 0 0 t.ts (IntKind.i64.wrap (x1 + m)) (pos + n) = splitG 0 0 t.ts pos (pos + n) ∧ Own w_13 w3.heap.size 116 3 (.slice a73 (out.length + m73) c73) (out.length + m73) (out'.flatMap lnCells) ∧ Bs w w_13 ∧ w3.heap.size ≤ w_13.heap.size) ∧ (IntKind.i64.wrap (x2 - m)).toNat < x2.toNat := by
        rintro m rfl
        rw [wr64 (show -9223372036854775808 ≤ x1 + takeN (t.ts[idx (x1 + 1) t.ts]'hi) x1 (pos + n) by omega) (by omega), wr64 (show -9223372036854775808 ≤ x2 - takeN (t.ts[idx (x1 + 1) t.ts]'hi) x1 (pos + n) by omega) (by omega)]
        refine callB B10 (line_ret t a c _ _ w10 (h.below B10) hi (by omega)) fun w11 b11 B11 => ⟨_, _, _, rfl, newB B11 fun g' w12 g0' sg' n12 z12 b12 B12 => ?_⟩
        have b10s := b10.size
        have b11s := b11.size
        refine appB B12 (((hO.below b10 (Nat.le_refl _)).below b11 (Nat.le_refl _)).below b12 (Nat.le_refl _)) B3s (by omega) (src_block (n := 1) (size := 3) Try.underlying51 n12 rfl rfl) (by unfold maxLen; omega) (by omega) (fun x hx e => ?_) fun a' c' w13 o13 g13 B13 z13 => ?_
        · rw [List.mem_singleton] at hx; subst hx
          have := (hk1 _ e).1
          omega
        refine ⟨⟨out ++ [⟨(idx (x1 + 1) t.ts : Nat), takeN (t.ts[idx (x1 + 1) t.ts]'hi) x1 (pos + n), (t.ts[idx (x1 + 1) t.ts]'hi).price⟩], by simp, by omega, by omega, by omega, by simp; omega, ?_, ?_, B13, by omega⟩, by omega⟩
        · rw [← hsp, hst, List.append_assoc, Int.zero_add]; rfl
        · rw [List.flatMap_append]; exact o13
      subst ha
      refine ⟨by omega, by omega, (t.ts[idx (x1 + 1) t.ts]'hi).upto, by rw [Int.toNat_natCast]; exact cellsAt_get hc 0 _ rfl, br_dec (fun hu => ?_) fun hu => ?_⟩
      · rw [wr64 (show -9223372036854775808 ≤ (t.ts[idx (x1 + 1) t.ts]'hi).upto - x1 by omega) (by omega)]
        exact fin _ (by unfold takeN; rw [if_pos hu]; omega)
      · exact fin _ (by unfold takeN; rw [if_neg hu]; omega)
    · obtain rfl : x2 = 0 := by omega
      rw [splitG_none _ _ _ _ _ hG (by omega), List.append_nil] at hsp
      subst hsp
      exact ⟨⟨a8, c8, rfl, (Rws.ofOwn (by decide) ln_len hO).low (by omega)⟩, B⟩
end Go.Proofs.Ytecmpjccdhmeeaa
end
section
/- What lines cost; what units come to, at most, and how many fit: tier.Cost, rate; walked. -/
namespace Go.Proofs.Ytecmpjccdhmeeaa
open Go.RowKit
def prodsL (ls : List Ln) : List Int := ls.map fun l => l.blocks * l.price
def blksL (ls : List Ln) : List Int := ls.map (·.blocks)
theorem total_cons (z : Int) (zs : List Int) : total (z :: zs) = z + total zs := by
  unfold total
  have key : ∀ (l : List Int) (a b : Int), l.foldl (· + ·) (a + b) = a + l.foldl (· + ·) b := by
    intro l
    induction l with
    | nil => intro a b; rfl
    | cons x r ih => intro a b; simp only [List.foldl_cons]; rw [Int.add_assoc, ih]
  rw [List.foldl_cons, Int.zero_add]
  have := key zs z 0
  rwa [Int.add_zero] at this
theorem total_prods : ∀ ls : List Ln, total (prodsL ls) = costOf ls
  | [] => rfl
  | l :: r => by rw [prodsL, List.map_cons, total_cons]; show _ + total (prodsL r) = _; rw [total_prods r]; rfl
theorem total_blks : ∀ ls : List Ln, total (blksL ls) = blocksOf ls
  | [] => rfl
  | l :: r => by rw [blksL, List.map_cons, total_cons]; show _ + total (blksL r) = _; rw [total_blks r]; rfl
theorem prod_fits {l : Ln} (h : (0 ≤ l.blocks ∧ l.blocks ≤ 1073741824) ∧ 0 ≤ l.price ∧ l.price ≤ 1048576) : 0 ≤ l.blocks * l.price ∧ l.blocks * l.price ≤ 1125899906842624 := ⟨Int.mul_nonneg h.1.1 h.2.1, mul_le_mul_i h.1.2 h.2.2 h.2.1 (by omega)⟩
/-- Lines that are small enough. -/
def LsOk (ls : List Ln) : Prop := (∀ l ∈ ls, (0 ≤ l.blocks ∧ l.blocks ≤ 1073741824) ∧ 0 ≤ l.price ∧ l.price ≤ 1048576) ∧ ls.length ≤ 1000
theorem cost_fits {ls : List Ln} (h : LsOk ls) : 0 ≤ costOf ls ∧ costOf ls ≤ 1125899906842624 * ls.length := by
  obtain ⟨h1, h2⟩ := h
  clear h2
  induction ls with
  | nil => simp [costOf]
  | cons l r ih =>
    have h3 := prod_fits (h1 l (by simp))
    have h4 := ih fun x hx => h1 x (by simp [hx])
    simp only [costOf, List.length_cons]
    push_cast
    omega
theorem cost_ret (a : Option Addr) (c : Nat) (ls : List Ln) (w : World) (h : LsAt 0 w a ls) (ho : LsOk ls) : Calls Try.prog 64 #[.slice a ls.length c] w (Ret (.tuple #[.int .i64 (costOf ls), .bool true]) w) := by
  refine ret_in (GTar.cost_calls a ls.length c w (fun u w' => u = .tuple #[.int .i64 (costOf ls), .bool true] ∧ Below w.heap.size w w') ?_)
  unfold GTar.cost_vc
  have hl := ho.2
  refine ⟨fun a4 n4 c4 x wx => ∃ i : Nat, x = i ∧ i ≤ ls.length ∧ n4 = i ∧ Own wx w.heap.size 3 1 (.slice a4 i c4) i ((prodsL (ls.take i)).map iV) ∧ Bs w wx, fun _ _ _ x _ => ls.length - x.toNat, ⟨0, rfl, by omega, rfl, Own.nil _ _ _ _, Bs.refl _⟩, ?_⟩
  rintro a4 n4 c4 x wx ⟨i, rfl, hi, rfl, hO, B⟩
  have Bs' := B.size
  refine br_dec (fun hlt => ?_) fun hge => ?_
  · have hil : n4 < ls.length := by omega
    obtain ⟨b, off, rfl, hc⟩ := (h.below B).get hil
    have hp := ho.1 _ (List.getElem_mem hil)
    have hf := prod_fits hp
    have hk := fun k hk => hO.lt k hk
    refine ⟨by omega, by omega, ls[n4].tier, ls[n4].blocks, ls[n4].price, by rw [Int.toNat_natCast]; exact hc, newB B fun g w3 g0 sg n3 z3 b3 B3 => boxB B3 g0 fun w4 h4 B4 z4 => ?_⟩
    have o4 := hO.newbox b3 sg h4
    refine callB B4 (ret_same (aMul_any ls[n4].blocks ls[n4].price (by omega) (by omega) (by omega) (by omega) w4 (.tuple #[.int .i64 (ls[n4].blocks * ls[n4].price), .bool true]) (fitV_yes (by omega) (by omega)).symm)) fun w5 b5 B5 => ⟨_, _, rfl, br_f rfl (newB B5 fun g' w6 g0' sg' n6 z6 b6 B6 => ?_)⟩
    have b5s := b5.size
    refine appB B6 ((o4.below b5 (Nat.le_refl _)).below b6 (Nat.le_refl _)) (Nat.le_refl _) B6.size (src_block (n := 1) (size := 1) Try.underlying45 n6 rfl rfl) (by unfold maxLen; omega) (by omega) (fun x hx e => ?_) fun a' c' w7 o7 g7 B7 z7 => ?_
    · rw [List.mem_singleton] at hx; subst hx
      have := (hk _ e).2
      omega
    rw [wr64 (by omega) (by omega)]
    refine ⟨⟨n4 + 1, by omega, by omega, rfl, ?_, B7⟩, by dsimp only; omega⟩
    unfold prodsL at o7 ⊢
    rw [List.take_add_one, List.getElem?_eq_getElem hil, List.map_append, List.map_append]
    exact o7
  · obtain rfl : n4 = ls.length := by omega
    rw [List.take_length] at hO
    have hcf := cost_fits ho
    have hpl : (prodsL ls).length = ls.length := List.length_map _
    have hs := aSum_any a4 c4 (prodsL ls) wx (.tuple #[.int .i64 (costOf ls), .bool true]) (by rw [total_prods]; exact (fitV_yes (by omega) (by omega)).symm) (fun z hz => by
      obtain ⟨l, hl, rfl⟩ := List.mem_map.1 hz
      have := prod_fits (ho.1 l hl)
      omega) (by omega) hO.row
    rw [hpl] at hs
    exact callB B (ret_same hs) fun w8 b8 B8 => ⟨_, _, rfl, rfl, B8⟩
theorem tblocks_ret (a : Option Addr) (c : Nat) (ls : List Ln) (w : World) (h : LsAt 0 w a ls) (ho : LsOk ls) : Calls Try.prog 25 #[.slice a ls.length c] w (Ret (.tuple #[.int .i64 (blocksOf ls), .bool true]) w) := by
  refine ret_in (GTar.tblocks_calls a ls.length c w (fun u w' => u = .tuple #[.int .i64 (blocksOf ls), .bool true] ∧ Below w.heap.size w w') ?_)
  unfold GTar.tblocks_vc
  have hl := ho.2
  refine ⟨fun a4 n4 c4 x wx => ∃ i : Nat, x = i ∧ i ≤ ls.length ∧ n4 = i ∧ Own wx w.heap.size 3 1 (.slice a4 i c4) i ((blksL (ls.take i)).map iV) ∧ Bs w wx, fun _ _ _ x _ => ls.length - x.toNat, ⟨0, rfl, by omega, rfl, Own.nil _ _ _ _, Bs.refl _⟩, ?_⟩
  rintro a4 n4 c4 x wx ⟨i, rfl, hi, rfl, hO, B⟩
  have Bs' := B.size
  refine br_dec (fun hlt => ?_) fun hge => ?_
  · have hil : n4 < ls.length := by omega
    obtain ⟨b, off, rfl, hc⟩ := (h.below B).get hil
    have hk := fun k hk => hO.lt k hk
    refine ⟨by omega, by omega, ls[n4].tier, ls[n4].blocks, ls[n4].price, by rw [Int.toNat_natCast]; exact hc, newB B fun g w3 g0 sg n3 z3 b3 B3 => boxB B3 g0 fun w4 h4 B4 z4 => newB B4 fun g' w6 g0' sg' n6 z6 b6 B6 => ?_⟩
    have o4 := hO.newbox b3 sg h4
    refine appB B6 (o4.below b6 (Nat.le_refl _)) (Nat.le_refl _) B6.size (src_block (n := 1) (size := 1) Try.underlying45 n6 rfl rfl) (by unfold maxLen; omega) (by omega) (fun x hx e => ?_) fun a' c' w7 o7 g7 B7 z7 => ?_
    · rw [List.mem_singleton] at hx; subst hx
      have := (hk _ e).2
      omega
    rw [wr64 (by omega) (by omega)]
    refine ⟨⟨n4 + 1, by omega, by omega, rfl, ?_, B7⟩, by dsimp only; omega⟩
    unfold blksL at o7 ⊢
    rw [List.take_add_one, List.getElem?_eq_getElem hil, List.map_append, List.map_append]
    exact o7
  · obtain rfl : n4 = ls.length := by omega
    rw [List.take_length] at hO
    have hbf : 0 ≤ blocksOf ls ∧ blocksOf ls ≤ 1073741824 * ls.length := by
      have h1 := ho.1
      clear hO hge hl hi ho h
      induction ls with
      | nil => simp [blocksOf]
      | cons l r ih =>
        have h3 := (h1 l (by simp)).1
        have h4 := ih fun x hx => h1 x (by simp [hx])
        simp only [blocksOf, List.length_cons]
        push_cast
        omega
    have hpl : (blksL ls).length = ls.length := List.length_map _
    have hs := aSum_any a4 c4 (blksL ls) wx (.tuple #[.int .i64 (blocksOf ls), .bool true]) (by rw [total_blks]; exact (fitV_yes (by omega) (by omega)).symm) (fun z hz => by
      obtain ⟨l, hl, rfl⟩ := List.mem_map.1 hz
      have := (ho.1 l hl).1
      omega) (by omega) hO.row
    rw [hpl] at hs
    exact callB B (ret_same hs) fun w8 b8 B8 => ⟨_, _, rfl, rfl, B8⟩
theorem units_ret (x : Int) (w : World) : Calls Try.prog 61 #[.int .i64 x] w (Ret (.bool (decide (0 ≤ x ∧ x ≤ 1073741824))) w) := by
  refine ret_in (GTar.units_calls x w (fun u w' => u = .bool (decide (0 ≤ x ∧ x ≤ 1073741824)) ∧ Below w.heap.size w w') ?_)
  unfold GTar.units_vc
  refine br_dec (fun h => ⟨?_, Bs.refl _⟩) fun h => ⟨?_, Bs.refl _⟩
  · congr 1; exact decide_eq_decide.2 (by omega)
  · congr 1; exact (decide_eq_false (by omega)).symm
theorem rdearest_ret (p : Pl) (a a2 : Option Addr) (c c2 : Nat) (w : World) (h : PlAt w p a a2) : Calls Try.prog 65 #[planV p a c a2 c2] w (Ret (.int .i64 (dear p)) w) := by
  refine ret_in (GTar.rdearest_calls p.day p.frm p.til p.base.grp p.base.mode p.base.block a p.base.ts.length c p.other.grp p.other.mode p.other.block a2 p.other.ts.length c2 w (fun u w' => u = .int .i64 (dear p) ∧ Below w.heap.size w w') ?_)
  unfold GTar.rdearest_vc
  exact newB (Bs.refl w) fun g w2 g0 sg n2 z2 b2 B2 => drewB B2 fun w3 b3 B3 _ => callB B3 (dearest_ret p.base a c w3 (h.base.below B3) h.lb) fun w4 b4 B4 => ⟨_, rfl, callB B4 (dearest_ret p.other a2 c2 w4 (h.other.below B4) h.lo) fun w5 b5 B5 => ⟨_, rfl, rfl, B5⟩⟩
theorem blocks_ret (n b : Int) (w : World) (hn : 0 ≤ n ∧ n ≤ 1073741824) (hb : 1 ≤ b ∧ b ≤ 1073741824) : Calls Try.prog 62 #[.int .i64 n, .int .i64 b] w (Ret (.tuple #[.int .i64 (blk n b), .bool true]) w) :=
  ret_same (aBlocks_any n b (by omega) (by omega) (by omega) (by omega) w _ (blkT_yes hn.1 hb.1).symm)
theorem worst_ret (p : Pl) (a a2 : Option Addr) (c c2 : Nat) (n : Int) (w : World) (h : PlAt w p a a2) (hd : -9223372036854775808 ≤ p.day ∧ p.day ≤ 9223372036854775807) :
    Calls Try.prog 24 #[planV p a c a2 c2, .int .i64 n] w (Ret (.tuple #[.int .i64 (worstN p n), .int .i64 (worstE p n)]) w) := by
  refine ret_in (GTar.worst_calls p.day p.frm p.til p.base.grp p.base.mode p.base.block a p.base.ts.length c p.other.grp p.other.mode p.other.block a2 p.other.ts.length c2 n w (fun u w' => u = .tuple #[.int .i64 (worstN p n), .int .i64 (worstE p n)] ∧ Below w.heap.size w w') ?_)
  unfold GTar.worst_vc
  have bad : ∀ w', Below w.heap.size w w' → worstE p n = 1 → Value.tuple #[.int .i64 0, .int .i64 1] = .tuple #[.int .i64 (worstN p n), .int .i64 (worstE p n)] ∧ Below w.heap.size w w' := fun w' B hE => by
    unfold worstN
    rw [hE]
    exact ⟨rfl, B⟩
  refine newB (Bs.refl w) fun g w2 g0 sg n2 z2 b2 B2 => callB B2 (cplan_ret p a a2 c c2 w2 (h.to B2) hd.1 hd.2) fun w3 b3 B3 => ⟨_, rfl, br_dec (fun h1 => bad _ B3 (by unfold worstE; rw [if_pos (.inl h1)])) fun h1 => callB B3 (units_ret n w3) fun w4 b4 B4 => ⟨_, rfl, br_not (br_dec (fun h2 => ?_) fun h2 => bad _ B4 (by unfold worstE; rw [if_pos (.inr h2)]))⟩⟩
  have hp : planE p = 0 := Decidable.not_not.1 h1
  have hb := (chk_ok (plan_ok hp).1).1.2
  refine callB B4 (blocks_ret n p.base.block w4 h2 hb) fun w5 b5 B5 => ⟨_, _, rfl, br_f rfl (callB B5 (rdearest_ret p a a2 c c2 w5 (h.to B5)) fun w6 b6 B6 => ⟨_, rfl, ?_, B6⟩)⟩
  have hs := worst_small hp h2
  have hE : worstE p n = 0 := by unfold worstE; rw [if_neg (by omega)]
  unfold worstN
  rw [wr64 (by omega) (by omega), hE, if_pos rfl]
theorem fit_ret (p : Pl) (a a2 : Option Addr) (c c2 : Nat) (cr want : Int) (w : World) (h : PlAt w p a a2) (hd : -9223372036854775808 ≤ p.day ∧ p.day ≤ 9223372036854775807) (hc : cr ≤ 9223372036854775807) :
    Calls Try.prog 33 #[planV p a c a2 c2, .int .i64 cr, .int .i64 want] w (Ret (.tuple #[.int .i64 (fitU p cr want), .int .i64 (fitC p cr want), .int .i64 (fitE p cr want)]) w) := by
  refine ret_in (GTar.fit_calls p.day p.frm p.til p.base.grp p.base.mode p.base.block a p.base.ts.length c p.other.grp p.other.mode p.other.block a2 p.other.ts.length c2 cr want w (fun u w' => u = .tuple #[.int .i64 (fitU p cr want), .int .i64 (fitC p cr want), .int .i64 (fitE p cr want)] ∧ Below w.heap.size w w') ?_)
  unfold GTar.fit_vc
  have bad : ∀ w', Below w.heap.size w w' → fitE p cr want = 1 → Value.tuple #[.int .i64 0, .int .i64 0, .int .i64 1] = .tuple #[.int .i64 (fitU p cr want), .int .i64 (fitC p cr want), .int .i64 (fitE p cr want)] ∧ Below w.heap.size w w' := fun w' B hE => by
    unfold fitU fitC
    rw [hE]
    exact ⟨rfl, B⟩
  refine newB (Bs.refl w) fun g w2 g0 sg n2 z2 b2 B2 => callB B2 (cplan_ret p a a2 c c2 w2 (h.to B2) hd.1 hd.2) fun w3 b3 B3 => ⟨_, rfl, br_dec (fun h1 => bad _ B3 (by unfold fitE; rw [if_pos (.inl h1)])) fun h1 => callB B3 (units_ret want w3) fun w4 b4 B4 => ⟨_, rfl, br_not (br_dec (fun h2 => ?_) fun h2 => bad _ B4 (by unfold fitE; rw [if_pos (.inr (.inl h2))]))⟩⟩
  refine br_dec (fun h3 => bad _ B4 (by unfold fitE; rw [if_pos (.inr (.inr h3))])) fun h3 => callB B4 (rdearest_ret p a a2 c c2 w4 (h.to B4)) fun w5 b5 B5 => ⟨_, rfl, ?_⟩
  have hp : planE p = 0 := Decidable.not_not.1 h1
  have hb := (chk_ok (plan_ok hp).1).1.2
  have hE : fitE p cr want = 0 := by unfold fitE; rw [if_neg (by omega)]
  have hU : fitU p cr want = fitN p.base.block (dear p) cr want := by unfold fitU; rw [if_pos hE]
  have hC : fitC p cr want = blk (fitU p cr want) p.base.block * dear p := by unfold fitC; rw [if_pos hE]
  have hnn := fitN_nn p.base.block (dear p) cr want (by omega) (by omega) h2.1
  refine ⟨fun x wx => x = fitU p cr want ∧ Bs w wx, ?_, ?_⟩
  · refine br_dec (fun hpr => drewB B5 fun w6 b6 B6 _ => ⟨by omega, ?_⟩) fun hpr => ⟨by rw [hU]; unfold fitN; rw [if_neg hpr], B5⟩
    have q0 : 0 ≤ cr / dear p := Int.ediv_nonneg (by omega) (by omega)
    have q1 : cr / dear p ≤ cr := Int.ediv_le_self _ (by omega)
    rw [Int.tdiv_eq_ediv_of_nonneg (show 0 ≤ cr by omega), wr64 (by omega) (by omega)]
    refine callB B6 (ret_same (aMul_any (cr / dear p) p.base.block (by omega) (by omega) (by omega) (by omega) w6 _ rfl)) fun w7 b7 B7 => ?_
    have m0 := Int.mul_nonneg q0 (show 0 ≤ p.base.block by omega)
    by_cases hfit : cr / dear p * p.base.block ≤ 9223372036854775807
    · refine ⟨_, _, by rw [fitV_yes (by omega) hfit], br_t rfl ⟨?_, B7⟩⟩
      rw [hU]; unfold fitN; rw [if_pos hpr]
    · refine ⟨_, _, by rw [fitV_no (by omega)], br_f rfl ⟨?_, B7⟩⟩
      rw [hU]; unfold fitN; rw [if_pos hpr]; omega
  · rintro x wx ⟨rfl, B8⟩
    refine callB B8 (worst_ret p a a2 c c2 _ wx (h.to B8) hd) fun w9 b9 B9 => ⟨_, _, rfl, ?_, B9⟩
    have hw : worstE p (fitU p cr want) = 0 := by unfold worstE; rw [if_neg (by rw [hU]; omega)]
    unfold worstN
    rw [hw, hE, if_pos rfl, hC]
def rtdV (r : Rtd) (a : Option Addr) (c : Nat) : Value := .agg #[.slice a r.ls.length c, .int .i64 r.blocks, .int .i64 r.cost, .int .i64 r.pos]
theorem splitO_ok {t : Tar} (h : chkE t = 0) (pos : Int) {n : Int} (hn : 0 ≤ n ∧ n ≤ 1073741824) : LsOk (splitO t pos n) := by
  unfold splitO
  split
  · rename_i hp
    obtain ⟨h1, _, h3⟩ := splitL_ok h hp.1 hn.1
    exact ⟨fun l hl => by have := h1 l hl; omega, by omega⟩
  · exact ⟨(fun l hl => by cases hl), by simp⟩
set_option maxRecDepth 10000 in
theorem rate_new (p : Pl) (a a2 : Option Addr) (c c2 : Nat) (now pos n : Int) (w : World) (h : PlAt w p a a2) (hd : -9223372036854775808 ≤ p.day ∧ p.day ≤ 9223372036854775807) :
    Calls Try.prog 23 #[planV p a c a2 c2, .int .i64 now, .int .i64 pos, .int .i64 n] w fun e w' => (∃ a' c', e = .returned (.tuple #[rtdV (rateR p now pos n) a' c', .int .i64 (rateE p now pos n)]) ∧ LsAt w.heap.size w' a' (rateR p now pos n).ls) ∧ Below w.heap.size w w' := by
  refine (GTar.rate_calls p.day p.frm p.til p.base.grp p.base.mode p.base.block a p.base.ts.length c p.other.grp p.other.mode p.other.block a2 p.other.ts.length c2 now pos n w (fun u w' => (∃ a' c', u = .tuple #[rtdV (rateR p now pos n) a' c', .int .i64 (rateE p now pos n)] ∧ LsAt w.heap.size w' a' (rateR p now pos n).ls) ∧ Below w.heap.size w w') ?_).mono (by rintro e w' ⟨v, rfl, ⟨a', c', rfl, h⟩, h2⟩; exact ⟨⟨a', c', rfl, h⟩, h2⟩)
  unfold GTar.rate_vc
  have bad : ∀ w', Below w.heap.size w w' → rateE p now pos n = 1 → (∃ a' c', Value.tuple #[.agg #[.slice none 0 0, .int .i64 0, .int .i64 0, .int .i64 0], .int .i64 1] = .tuple #[rtdV (rateR p now pos n) a' c', .int .i64 (rateE p now pos n)] ∧ LsAt w.heap.size w' a' (rateR p now pos n).ls) ∧ Below w.heap.size w w' := fun w' B hE => by
    have hR : rateR p now pos n = ⟨[], 0, 0, 0⟩ := by unfold rateR; rw [if_neg (by rw [hE]; decide)]
    rw [hR, hE]
    exact ⟨⟨none, 0, rfl, Rws.nil⟩, B⟩
  refine newB (Bs.refl w) fun g w2 g0 sg n2 z2 b2 B2 => newB B2 fun g' w3 g0' sg' n3 z3 b3 B3 => callB B3 (cplan_ret p a a2 c c2 w3 (h.to B3) hd.1 hd.2) fun w4 b4 B4 => ⟨_, rfl, br_dec (fun h1 => boxB B4 g0' fun w5 h5 B5 _ => bad _ B5 (by unfold rateE; rw [if_pos (.inl h1)])) fun h1 => ?_⟩
  refine br_dec (fun h2 => boxB B4 g0' fun w5 h5 B5 _ => bad _ B5 (by unfold rateE; rw [if_pos (.inr (.inl h2))])) fun h2 => callB B4 (units_ret n w4) fun w7 b7 B7 => ⟨_, rfl, br_not (br_dec (fun h3 => ?_) fun h3 => boxB B7 g0' fun w5 h5 B5 _ => bad _ B5 (by unfold rateE; rw [if_pos (.inr (.inr (.inl h3)))]))⟩
  have hp : planE p = 0 := Decidable.not_not.1 h1
  obtain ⟨hat, hbl, _⟩ := at_ok hp now
  have hb := (chk_ok (plan_ok hp).1).1.2
  refine callQ B7 (at_new p a a2 c c2 now w7 (h.to B7) hd.1 hd.2 (by omega) hp) ?_
  rintro e w9 ⟨a9, c9, rfl, h9⟩ b9 B9
  have hRR : rateE p now pos n = 0 → rateR p now pos n = ⟨splitL (atT p now) pos (blk n p.base.block), blk n p.base.block, costOf (splitL (atT p now) pos (blk n p.base.block)), pos + blk n p.base.block⟩ := fun hE => by unfold rateR; rw [if_pos hE]
  generalize rateR p now pos n = RR at *
  generalize decide (isOther p now) = oo
  generalize atT p now = tt at *
  refine ⟨_, _, _, _, _, _, _, rfl, newB B9 fun g3 w10 g0'' sg'' n10 z10 b10 B10 => boxB B10 g0'' fun w11 h11 B11 z11 => ?_⟩
  have b9s := b9.size
  have b7s := b7.size
  have b4s := b4.size
  have h11' : TsAt w7.heap.size w11 a9 tt.ts := h9.keep fun b hb1 hb2 => (h11.1.block b (by omega) (by rw [List.mem_singleton]; omega)).trans (b10.block b hb2)
  have hbn := blk_nn n p.base.block (by omega) h3.1
  have hbs := blk_self n p.base.block (by omega) h3.1
  have hbb : 0 ≤ blk n p.base.block ∧ blk n p.base.block ≤ 1073741824 := ⟨hbn, Int.le_trans hbs h3.2⟩
  have hbk := blocks_ret n p.base.block w11 h3 hb
  generalize blk n p.base.block = m at *
  rw [← hbl] at hbk
  refine callB B11 hbk fun w12 b12 B12 => ⟨_, _, rfl, br_f rfl (callQ B12 (split_new tt a9 c9 pos m w12 (Rws.low (h11'.below b12) (Nat.zero_le _)) hat hbb) ?_)⟩
  rintro e w14 ⟨a14, c14, rfl, h14⟩ b14 B14
  have b12s := b12.size
  refine ⟨_, _, _, _, rfl, br_dec (fun h5 => boxB B14 g0' fun w15 h15 B15 _ => bad _ B15 ?_) fun h5 => ?_⟩
  · have : ¬ posOk pos := fun k => h5 (by rw [if_pos k])
    unfold rateE; rw [if_pos (.inr (.inr (.inr this)))]
  have hpos : posOk pos := Decidable.byContradiction fun k => h5 (by rw [if_neg k]; decide)
  have hE : rateE p now pos n = 0 := by
    have hno : ¬ (planE p ≠ 0 ∨ now < 0 ∨ ¬ (0 ≤ n ∧ n ≤ 1073741824) ∨ ¬ posOk pos) := fun k => k.elim (fun k => k hp) fun k => k.elim h2 fun k => k.elim (fun k => k h3) fun k => k hpos
    unfold rateE
    rw [if_neg hno]
  have hso : splitO tt pos m = splitL tt pos m := by unfold splitO; rw [if_pos hpos]
  have hls := splitO_ok hat pos (n := m) hbb
  obtain rfl := hRR hE
  rw [hE]
  rw [hso] at h14 hls ⊢
  refine callB B14 (cost_ret a14 c14 _ w14 (h14.low (Nat.zero_le _)) hls) fun w16 b16 B16 => ⟨_, _, rfl, br_f rfl (boxB B16 g0' fun w18 h18 B18 z18 => ⟨⟨a14, c14, ?_, ?_⟩, B18⟩)⟩
  · rw [wr64 (by have := hpos.1; omega) (by have := hpos.2; omega)]
    rfl
  · exact ((h14.below b16).box h18 (by omega)).low (by omega)
end Go.Proofs.Ytecmpjccdhmeeaa
end
section
/- The document's tariffs, lines and what they cost: references 9, 10, 11; walked. -/
namespace Go.Proofs.Ytecmpjccdhmeeaa
open Go.RowKit
theorem r9check_ret (t : Tar) (a : Option Addr) (c : Nat) (w : World) (h : TsAt 0 w a t.ts) (hl : t.ts.length ≤ 1000) : Calls Try.prog 43 #[tarV t a c] w (Ret (.int .i64 (chkE t)) w) := by
  refine ret_in (GTar.rcheck_calls t.grp t.mode t.block a t.ts.length c w (fun u w' => u = .int .i64 (chkE t) ∧ Below w.heap.size w w') ?_)
  unfold GTar.rcheck_vc chkE
  refine newB (Bs.refl w) fun g w2 g0 sg n2 z2 b2 B2 => br_dec (fun h1 => ⟨by rw [if_pos (by omega)], B2⟩) fun h1 => br_dec (fun h2 => ⟨by rw [if_pos (by omega)], B2⟩) fun h2 => br_dec (fun h3 => ⟨by rw [if_pos (by omega)], B2⟩) fun h3 => br_dec (fun h4 => ⟨by rw [if_pos (by omega)], B2⟩) fun h4 => ?_
  rw [if_neg (by omega)]
  refine ⟨fun b wx => b = decide (t.mode ≠ 1 ∧ t.mode ≠ 2) ∧ w2 = wx, br_dec (fun hm => ⟨decide_eq_decide.2 (by omega), rfl⟩) fun hm => ⟨(decide_eq_false (by omega)).symm, rfl⟩, ?_⟩
  rintro b wx ⟨rfl, rfl⟩
  refine br_dec (fun hm => ⟨by rw [if_pos hm], B2⟩) fun hm => br_dec (fun h5 => ⟨by rw [if_neg hm, if_pos (by omega)], B2⟩) fun h5 => br_dec (fun h6 => ⟨by rw [if_neg hm, if_pos (by omega)], B2⟩) fun h6 => ?_
  rw [if_neg hm, if_neg (by omega)]
  generalize t.ts = ts at *
  refine ⟨fun x y wx => ∃ i : Nat, y = i ∧ i ≤ ts.length ∧ tiersE 0 ts = tiersE x (ts.drop i) ∧ 0 ≤ x ∧ x ≤ 1099511627776 ∧ Bs w wx, fun _ y _ => ts.length - y.toNat, ⟨0, rfl, by omega, by simp, by omega, by omega, B2⟩, ?_⟩
  rintro x y wx ⟨i, rfl, hi, he, hx0, hx1, B⟩
  refine br_dec (fun hlt => ?_) fun hge => ?_
  · have hil : i < ts.length := by omega
    obtain ⟨b, off, rfl, hc⟩ := (h.below B).get hil
    have hlast : (ts.drop (i + 1) = []) ↔ i = ts.length - 1 := by rw [List.drop_eq_nil_iff]; omega
    rw [List.drop_eq_getElem_cons hil, tiersE_cons] at he
    refine ⟨by omega, by omega, ts[i].upto, ts[i].price, by rw [Int.toNat_natCast]; exact hc, newB B fun g w3 g0 sg n3 z3 b3 B3 => boxB B3 g0 fun w4 h4 B4 z4 => ?_⟩
    refine br_dec (fun hp => ⟨by rw [he, if_pos (by omega)], B4⟩) fun hp1 => br_dec (fun hp => ⟨by rw [he, if_pos (by omega)], B4⟩) fun hp2 => ?_
    rw [if_neg (by omega)] at he
    rw [wr64 (show -9223372036854775808 ≤ ((ts.length : Nat) : Int) - 1 by omega) (by omega), wr64 (show -9223372036854775808 ≤ ((i : Nat) : Int) + 1 by omega) (by omega)]
    have next : ∀ wy, Bs w wy → 0 ≤ ts[i].upto → ts[i].upto ≤ 1099511627776 → tiersE 0 ts = tiersE ts[i].upto (ts.drop (i + 1)) → (∃ j : Nat, ((i : Nat) : Int) + 1 = j ∧ j ≤ ts.length ∧ tiersE 0 ts = tiersE ts[i].upto (ts.drop j) ∧ 0 ≤ ts[i].upto ∧ ts[i].upto ≤ 1099511627776 ∧ Bs w wy) ∧ ts.length - (((i : Nat) : Int) + 1).toNat < ts.length - ((i : Nat) : Int).toNat :=
      fun wy By h0 h1 h2 => ⟨⟨i + 1, by omega, by omega, h2, h0, h1, By⟩, by omega⟩
    by_cases hla : i = ts.length - 1
    · rw [if_pos (hlast.2 hla)] at he
      refine br_y (by omega) (br_dec (fun hu => ⟨by rw [he, if_pos hu], B4⟩) fun hu => ?_)
      have hu := Decidable.not_not.1 hu
      exact next w4 B4 (by omega) (by omega) (by rw [he, if_neg (not_not_intro hu), hlast.2 hla]; rfl)
    · rw [if_neg (fun h => hla (hlast.1 h))] at he
      refine br_n (by omega) (br_dec (fun hu => ⟨by rw [he, if_pos (by omega)], B4⟩) fun hu => br_dec (fun hu2 => ⟨by rw [he, if_pos (by omega)], B4⟩) fun hu2 => ?_)
      exact next w4 B4 (by omega) (by omega) (by rw [he, if_neg (by omega)])
  · obtain rfl : i = ts.length := by omega
    refine ⟨?_, B⟩
    rw [he, List.drop_length]; rfl
theorem r9cplan_ret (p : Pl) (a a2 : Option Addr) (c c2 : Nat) (w : World) (h : PlAt w p a a2) : Calls Try.prog 14 #[planV p a c a2 c2] w (Ret (.int .i64 (planE p)) w) := by
  refine ret_in (GTar.rcplan_calls p.day p.frm p.til p.base.grp p.base.mode p.base.block a p.base.ts.length c p.other.grp p.other.mode p.other.block a2 p.other.ts.length c2 w (fun u w' => u = .int .i64 (planE p) ∧ Below w.heap.size w w') ?_)
  unfold GTar.rcplan_vc planE
  refine newB (Bs.refl w) fun g w2 g0 sg n2 z2 b2 B2 => callB B2 (r9check_ret p.base a c w2 (h.base.below B2) h.lb) fun w3 b3 B3 => ⟨_, rfl, br_dec (fun h1 => ⟨by rw [if_pos h1], B3⟩) fun h1 => ?_⟩
  rw [if_neg h1]
  refine br_dec (fun h0 => newB B3 fun g' w4 g0' sg' n4 z4 b4 B4 => boxB B4 g0' fun w5 h5 B5 z5 => ?_) fun h0 => ?_
  · rw [if_pos h0]
    have bad : ¬ (p.frm = 0 ∧ p.til = 0 ∧ nothingT p.other) → Value.int .i64 2 = .int .i64 (if p.frm = 0 ∧ p.til = 0 ∧ nothingT p.other then 0 else 2) ∧ Below w.heap.size w w5 := fun k => ⟨by rw [if_neg k], B5⟩
    refine br_dec (fun k => bad fun q => k q.1) fun k1 => br_dec (fun k => bad fun q => k q.2.1) fun k2 => br_dec (fun k => bad fun q => k q.2.2.1) fun k3 => br_dec (fun k => bad fun q => k q.2.2.2.1) fun k4 => br_dec (fun k => bad fun q => k q.2.2.2.2.1) fun k5 => br_dec (fun k => bad fun q => k (by rw [q.2.2.2.2.2]; rfl)) fun k6 => ⟨?_, B5⟩
    rw [if_pos ⟨Decidable.not_not.1 k1, Decidable.not_not.1 k2, Decidable.not_not.1 k3, Decidable.not_not.1 k4, Decidable.not_not.1 k5, List.length_eq_zero_iff.1 (by omega)⟩]
  · rw [if_neg h0]
    have bad : ¬ dayOk p → ∀ z : Int, Value.int .i64 1 = .int .i64 (if ¬ dayOk p then 1 else z) ∧ Below w.heap.size w w3 := fun k z => ⟨by rw [if_pos k], B3⟩
    refine br_dec (fun k => bad (fun q => by have := q.1; omega) _) fun k1 => br_dec (fun k => bad (fun q => by have := q.1; omega) _) fun k2 => br_dec (fun k => bad (fun q => by have := q.2.1; omega) _) fun k3 => br_dec (fun k => bad (fun q => by have := q.2.1; omega) _) fun k4 => br_dec (fun k => bad (fun q => by have := q.2.2.1; omega) _) fun k5 => br_dec (fun k => bad (fun q => by have := q.2.2.1; omega) _) fun k6 => br_dec (fun k => bad (fun q => q.2.2.2 k) _) fun k7 => ?_
    rw [if_neg (not_not_intro (show dayOk p from ⟨by omega, by omega, by omega, k7⟩))]
    refine callB B3 (r9check_ret p.other a2 c2 w3 (h.other.below B3) h.lo) fun w7 b7 B7 => ⟨_, rfl, br_dec (fun h6 => ⟨by rw [if_pos h6], B7⟩) fun h6 => ?_⟩
    rw [if_neg h6]
    exact br_dec (fun h7 => ⟨by rw [if_pos (.inl h7)], B7⟩) fun h7 => br_dec (fun h8 => ⟨by rw [if_pos (.inr h8)], B7⟩) fun h8 => ⟨by rw [if_neg (by omega)], B7⟩
theorem ris_ret (p : Pl) (a a2 : Option Addr) (c c2 : Nat) (now : Int) (w : World) : Calls Try.prog 38 #[planV p a c a2 c2, .int .i64 now] w (Ret (.bool (decide (isOther p now))) w) := by
  refine ret_in (GTar.ris_calls p.day p.frm p.til p.base.grp p.base.mode p.base.block a p.base.ts.length c p.other.grp p.other.mode p.other.block a2 p.other.ts.length c2 now w (fun u w' => u = .bool (decide (isOther p now)) ∧ Below w.heap.size w w') ?_)
  unfold GTar.ris_vc
  refine newB (Bs.refl w) fun g w2 g0 sg n2 z2 b2 B2 => br_dec (fun h0 => ⟨by rw [decide_eq_false fun k => k.1 h0], B2⟩) fun h0 => ⟨h0, ?_⟩
  refine br_dec (fun h1 => br_dec (fun h2 => ⟨?_, B2⟩) fun h2 => ⟨?_, B2⟩) fun h1 => br_dec (fun h2 => ⟨?_, B2⟩) fun h2 => ⟨?_, B2⟩
  · congr 1; exact decide_eq_decide.2 (by rw [isOther_day h0, if_pos h1]; omega)
  · congr 1; exact (decide_eq_false (by rw [isOther_day h0, if_pos h1]; omega)).symm
  · congr 1; exact (decide_eq_true (by rw [isOther_day h0, if_neg h1]; omega)).symm
  · congr 1; exact decide_eq_decide.2 (by rw [isOther_day h0, if_neg h1]; omega)
theorem r10index_ret (t : Tar) (a : Option Addr) (c : Nat) (x : Int) (w : World) (h : TsAt 0 w a t.ts) (hl : t.ts.length ≤ 1000) (hk : chkE t = 0) (hx : 1 ≤ x) :
    Calls Try.prog 89 #[tarV t a c, .int .i64 x] w (Ret (.int .i64 (idx x t.ts : Nat)) w) := by
  refine ret_in (GTar.rindex_calls t.grp t.mode t.block a t.ts.length c x w (fun u w' => u = .int .i64 (idx x t.ts : Nat) ∧ Below w.heap.size w w') ?_)
  unfold GTar.rindex_vc
  have hlt0 := idx_lt x t.ts 0 (chk_ok hk).2.2.2
  refine newB (Bs.refl w) fun g w2 g0 sg n2 z2 b2 B2 => callB B2 (r9check_ret t a c w2 (h.below B2) hl) fun w3 b3 B3 => ⟨_, rfl, br_n (by omega) (br_n (by omega) ?_)⟩
  refine ⟨fun y wx => ∃ i : Nat, y = i ∧ i ≤ t.ts.length ∧ idx x t.ts = i + idx x (t.ts.drop i) ∧ Bs w wx, fun y _ => t.ts.length - y.toNat, ⟨0, rfl, by omega, by simp, B3⟩, ?_⟩
  rintro y wx ⟨i, rfl, hi, he, B⟩
  refine br_dec (fun hlt => ?_) fun hge => ?_
  · have hil : i < t.ts.length := by omega
    obtain ⟨b, off, rfl, hcc⟩ := (h.below B).get hil
    rw [List.drop_eq_getElem_cons hil] at he
    have hc0 : wx.cell? ⟨b, off + ((i : Nat) : Int).toNat * 2, none⟩ = some (.int .i64 t.ts[i].upto) := by rw [Int.toNat_natCast]; exact cellsAt_get hcc 0 _ rfl
    refine ⟨by omega, by omega, t.ts[i].upto, hc0, br_dec (fun h1 => ⟨?_, B⟩) fun h1 => ⟨by omega, by omega, t.ts[i].upto, hc0, br_dec (fun h2 => ⟨?_, B⟩) fun h2 => ?_⟩⟩
    · rw [he]; unfold idx; rw [if_pos (.inl h1)]; simp
    · rw [he]; unfold idx; rw [if_pos (.inr h2)]; simp
    · rw [wr64 (by omega) (by omega)]
      have he2 : idx x t.ts = i + (idx x (t.ts.drop (i + 1)) + 1) := by rw [he]; conv => lhs; unfold idx; rw [if_neg (by omega)]
      exact ⟨⟨i + 1, by omega, by omega, by omega, B⟩, by dsimp only; omega⟩
  · obtain rfl : i = t.ts.length := by omega
    omega
def prevOf (ts : List Tr) : Nat → Int
  | 0 => 0
  | i + 1 => match ts[i]? with | some t => t.upto | none => 0
set_option maxRecDepth 10000 in
theorem r10split_new (t : Tar) (a : Option Addr) (c : Nat) (pos n : Int) (w : World) (h : TsAt 0 w a t.ts) (hk : chkE t = 0) (hn : 0 ≤ n ∧ n ≤ 1073741824) :
    Calls Try.prog 69 #[tarV t a c, .int .i64 pos, .int .i64 n] w fun e w' => (∃ a' c', e = .returned (.tuple #[.slice a' (splitO t pos n).length c', .int .i64 (if posOk pos then 0 else 1)]) ∧ LsAt w.heap.size w' a' (splitO t pos n)) ∧ Below w.heap.size w w' := by
  refine (GTar.rsplit_calls t.grp t.mode t.block a t.ts.length c pos n w (fun u w' => (∃ a' c', u = .tuple #[.slice a' (splitO t pos n).length c', .int .i64 (if posOk pos then 0 else 1)] ∧ LsAt w.heap.size w' a' (splitO t pos n)) ∧ Below w.heap.size w w') ?_).mono (by rintro e w' ⟨v, rfl, ⟨a', c', rfl, h⟩, h2⟩; exact ⟨⟨a', c', rfl, h⟩, h2⟩)
  unfold GTar.rsplit_vc splitO
  obtain ⟨_, hmode, hlen, hG⟩ := chk_ok hk
  refine newB (Bs.refl w) fun g w2 g0 sg n2 z2 b2 B2 => callB B2 (r9check_ret t a c w2 (h.below B2) (by omega)) fun w3 b3 B3 => ⟨_, rfl, br_n (by omega) ?_⟩
  have bad : ¬ posOk pos → (∃ a' c', (Value.tuple #[.slice none 0 0, .int .i64 1]) = .tuple #[.slice a' (if posOk pos then splitL t pos n else []).length c', .int .i64 (if posOk pos then 0 else 1)] ∧ LsAt w.heap.size w3 a' (if posOk pos then splitL t pos n else [])) ∧ Below w.heap.size w w3 := fun hb => by
    rw [if_neg hb, if_neg hb]
    exact ⟨⟨none, 0, rfl, Rws.nil⟩, B3⟩
  refine br_dec (fun h1 => bad fun k => by have := k.1; omega) fun h1 => br_dec (fun h1 => bad fun k => by have := k.2; omega) fun h2 => br_n (by omega) (br_n (by omega) ?_)
  have hpos : posOk pos := ⟨by omega, by omega⟩
  rw [if_pos hpos, if_pos hpos]
  refine br_dec (fun h0 => ?_) fun h0 => ?_
  · have : splitL t pos n = [] := by
      unfold splitL
      rw [if_neg (by omega), splitG_none _ _ _ _ _ hG (by omega)]
    rw [this]
    exact ⟨⟨none, 0, rfl, Rws.nil⟩, B3⟩
  unfold splitL
  rw [wr64 (show -9223372036854775808 ≤ pos + n by omega) (by omega)]
  refine br_dec (fun hm => ?_) fun hm => ?_
  · rw [if_pos ⟨hm, by omega⟩]
    have hi := idx_lt (pos + n) t.ts 0 hG
    refine callB B3 (r10index_ret t a c (pos + n) w3 (h.below B3) (by omega) hk (by omega)) fun w6 b6 B6 => ⟨_, rfl, ?_⟩
    obtain ⟨b, off, rfl, hc⟩ := (h.below B6).get hi
    refine ⟨by omega, by omega, (t.ts[idx (pos + n) t.ts]'hi).price, by rw [Int.toNat_natCast, Nat.add_assoc]; exact cellsAt_get hc 1 _ rfl, newB B6 fun g' w8 g0' sg' n8 z8 b8 B8 => ⟨⟨_, _, rfl, ?_⟩, B8⟩⟩
    have he : priceAt t.ts (idx (pos + n) t.ts) = (t.ts[idx (pos + n) t.ts]'hi).price := by unfold priceAt; rw [List.getElem?_eq_getElem hi]
    rw [he]
    exact Rws.one n8 g0'
  · rw [if_neg (fun k => hm k.1)]
    have B3s := B3.size
    have b3s := b3.size
    refine ⟨fun a8 n8 c8 x wx => ∃ (i : Nat) (out : List Ln), x = i ∧ i ≤ t.ts.length ∧ n8 = out.length ∧ out.length ≤ i ∧ out ++ splitG i (prevOf t.ts i) (t.ts.drop i) pos (pos + n) = splitG 0 0 t.ts pos (pos + n) ∧ Own wx w3.heap.size 116 3 (.slice a8 n8 c8) n8 (out.flatMap lnCells) ∧ Bs w wx ∧ w3.heap.size ≤ wx.heap.size, fun _ _ _ x _ => t.ts.length - x.toNat,
      ⟨0, [], rfl, by omega, rfl, by simp, by simp [prevOf], Own.nil _ _ _ _, B3, by omega⟩, ?_⟩
    rintro a8 n8 c8 x wx ⟨i, out, rfl, hi, rfl, hol, hsp, hO, B, hsz⟩
    refine br_dec (fun hlt => ?_) fun hge => ?_
    · have hil : i < t.ts.length := by omega
      obtain ⟨b, off, rfl, hc⟩ := (h.below B).get hil
      have hmem := List.getElem_mem hil
      have hup := (good0_price hG _ hmem).2
      have hup2 := good_far t.ts 0 hG _ hmem
      rw [wr64 (show -9223372036854775808 ≤ ((i : Nat) : Int) + 1 by omega) (by omega)]
      have low0 : ¬ ((i : Nat) : Int) > 0 → pos = max pos (prevOf t.ts i) := fun k => by
        obtain rfl : i = 0 := by omega
        have := hpos.1
        simp only [prevOf]; omega
      refine ⟨fun y wy => y = max pos (prevOf t.ts i) ∧ wx = wy, br_dec (fun hi0 => ?_) fun hi0 => ⟨low0 hi0, rfl⟩, ?_⟩
      · have hj : i - 1 < t.ts.length := by omega
        obtain ⟨b', off', e', hc'⟩ := (h.below B).get hj
        injection e' with e'
        injection e' with e1 e2
        subst e1; subst e2
        rw [wr64 (show -9223372036854775808 ≤ ((i : Nat) : Int) - 1 by omega) (by omega)]
        refine ⟨by omega, by omega, t.ts[i - 1].upto, by rw [show (((i : Nat) : Int) - 1).toNat = i - 1 by omega]; exact cellsAt_get hc' 0 _ rfl, ?_, rfl⟩
        obtain ⟨k, rfl⟩ : ∃ k, i = k + 1 := ⟨i - 1, by omega⟩
        simp only [prevOf, Nat.add_sub_cancel]
        rw [List.getElem?_eq_getElem (by omega)]
      rintro x11 wy ⟨rfl, rfl⟩
      have hc0 : wx.cell? ⟨b, off + ((i : Nat) : Int).toNat * 2, none⟩ = some (.int .i64 t.ts[i].upto) := by rw [Int.toNat_natCast]; exact cellsAt_get hc 0 _ rfl
      refine ⟨by omega, by omega, t.ts[i].upto, hc0, fun y wy => y = (if 0 < t.ts[i].upto then min (pos + n) t.ts[i].upto else pos + n) ∧ wx = wy, br_dec (fun hu => ⟨by omega, by omega, t.ts[i].upto, hc0, by rw [if_pos hu], rfl⟩) fun hu => ⟨by rw [if_neg hu], rfl⟩, ?_⟩
      rintro x12 wy ⟨hx12, rfl⟩
      have hst : splitG i (prevOf t.ts i) (t.ts.drop i) pos (pos + n) = (if max pos (prevOf t.ts i) < x12 then [⟨i, x12 - max pos (prevOf t.ts i), t.ts[i].price⟩] else []) ++ splitG ((i + 1 : Nat) : Int) (prevOf t.ts (i + 1)) (t.ts.drop (i + 1)) pos (pos + n) := by
        rw [List.drop_eq_getElem_cons hil, hx12]
        conv => lhs; unfold splitG
        simp only [prevOf, List.getElem?_eq_getElem hil]
        rfl
      rw [hst] at hsp
      have hb12 : 0 ≤ x12 ∧ x12 ≤ pos + n := by rw [hx12]; split <;> omega
      refine br_dec (fun hgt => ?_) fun hle => ?_
      · rw [if_pos hgt] at hsp
        have hmx : 0 ≤ max pos (prevOf t.ts i) := by omega
        generalize max pos (prevOf t.ts i) = m at *
        rw [wr64 (show -9223372036854775808 ≤ x12 - m by omega) (by omega)]
        have hk1 : ∀ k, (Value.slice a8 out.length c8).ownBlock = some k → w3.heap.size ≤ k ∧ k < wx.heap.size := fun k hk => hO.lt k hk
        refine ⟨by omega, by omega, t.ts[i].price, by rw [Int.toNat_natCast, Nat.add_assoc]; exact cellsAt_get hc 1 _ rfl, newB B fun g' w12 g0' sg' n12 z12 b12 B12 => ?_⟩
        refine appB B12 (hO.below b12 (Nat.le_refl _)) B3s (by omega) (src_block (n := 1) (size := 3) Try.underlying51 n12 rfl rfl) (by unfold maxLen; omega) (by omega) (fun x hx e => ?_) fun a' c' w13 o13 g13 B13 z13 => ?_
        · rw [List.mem_singleton] at hx; subst hx
          have := (hk1 _ e).1
          omega
        refine ⟨⟨i + 1, out ++ [⟨i, x12 - m, t.ts[i].price⟩], by omega, by omega, by simp, by simp; omega, by rw [← hsp, List.append_assoc], ?_, B13, by omega⟩, by dsimp only; omega⟩
        rw [List.flatMap_append]; exact o13
      · rw [if_neg hle, List.nil_append] at hsp
        exact ⟨⟨i + 1, out, by omega, by omega, rfl, by omega, hsp, hO, B, hsz⟩, by dsimp only; omega⟩
    · obtain rfl : i = t.ts.length := by omega
      rw [List.drop_length] at hsp
      have hsp : out = splitG 0 0 t.ts pos (pos + n) := by simpa [splitG] using hsp
      subst hsp
      exact ⟨⟨a8, c8, rfl, (Rws.ofOwn (by decide) ln_len hO).low (by omega)⟩, B⟩
end Go.Proofs.Ytecmpjccdhmeeaa
end
section
/- A plan is written, by both; walked. -/
namespace Go.Proofs.Ytecmpjccdhmeeaa
open Go.RowKit
theorem num10 {z : Int} (h : NumOk z) : (uintB z).length ≤ 10 := uint_len10 (by have := h.2; omega)
theorem trsB_len {ts : List Tr} (h : ∀ x ∈ ts, NumOk x.upto ∧ NumOk x.price) : (ts.flatMap tirB).length ≤ 20 * ts.length := by
  induction ts with
  | nil => simp
  | cons t r ih =>
    have h1 := h t (by simp)
    have h2 := ih fun x hx => h x (by simp [hx])
    have a := num10 h1.1
    have b := num10 h1.2
    simp only [List.flatMap_cons, List.length_append, List.length_cons, tirB]
    omega
theorem tarHd_len {t : Tar} (h : TarIo t) : (tarHd t).length ≤ 40 := by
  have a := num10 h.g
  have b := num10 h.m
  have c := num10 h.b
  have d := uint_len10 (n := (t.ts.length : Int)) (by have := h.l; omega)
  simp only [tarHd, List.length_append]
  omega
theorem tarB_len {t : Tar} (h : TarIo t) : (tarB t).length ≤ 160 := by
  have a := tarHd_len h
  have b := trsB_len h.ts
  have c := h.l
  simp only [tarB, List.length_append]
  omega
def tarNs (t : Tar) : List Int := [t.grp, t.mode, t.block, (t.ts.length : Int)]
theorem tarNs_hd (t : Tar) : (tarNs t).flatMap uintB = tarHd t := by simp [tarNs, tarHd]
theorem tarNs_ok {t : Tar} (h : TarIo t) : ∀ z ∈ tarNs t, 0 ≤ z ∧ z ≤ 1099511627776 := by
  intro z hz
  simp [tarNs] at hz
  have := h.l
  rcases hz with rfl | rfl | rfl | rfl
  · exact h.g
  · exact h.m
  · exact h.b
  · omega
theorem put_any {wb w : World} (t : Tar) (a : Option Addr) (c gw : Nat) (K : List Nat) (bs : List UInt8) (bad : Bool) (B : Bs wb w) (h : TsAt 0 wb a t.ts) (ht : TarIo t) (hW : WAt w K gw bs bad) (hK : From wb.heap.size K) (hl : bs.length ≤ 1000000) :
    Calls Try.prog 41 #[.pointer (some ⟨gw, 0, none⟩), tarV t a c] w (W1 w K gw (bs ++ tarB t) bad) := by
  refine (GTarB.put_calls (some ⟨gw, 0, none⟩) t.grp t.mode t.block a t.ts.length c w (fun u w' => u = .tuple #[] ∧ W1 w K gw (bs ++ tarB t) bad (.returned (.tuple #[])) w') ?_).mono (by rintro e w' ⟨v, rfl, rfl, h⟩; exact h)
  unfold GTarB.put_vc
  have hu := hW.under
  have hW0 := hW
  have hhl := tarHd_len ht
  have hns := tarNs_ok ht
  have hns4 : (tarNs t).length = 4 := rfl
  refine newB (Bs.refl w) fun g w2 g0 sg n2 z2 b2 B2 => newB B2 fun g' w3 g0' sg' n3 z3 b3 B3 => ?_
  have W3 : WP w3 K w3 gw bs bad := WP.start (hW.keep (fun k hk => B3.block k (hu k hk)) B3.size)
  have far : ∀ x ∈ [g], x < w3.heap.size ∧ x ∉ K := fun x hx => by
    rw [List.mem_singleton] at hx; subst hx
    exact ⟨by omega, fun hm => by have := hu _ hm; omega⟩
  have farA : g' ∉ K := fun hm => by have := hu _ hm; omega
  have hBw : ∀ {wx : World}, Fr K w3 wx → Bs wb wx := fun f => (B.to B3).trans (f.below hK (B.to B3).size)
  refine ⟨fun x wx => ∃ i : Nat, x = i ∧ i ≤ 4 ∧ WP w3 K wx gw (bs ++ ((tarNs t).take i).flatMap uintB) bad, fun x _ => 4 - x.toNat, ⟨0, rfl, by omega, by simpa using W3⟩, ?_⟩
  rintro x wx ⟨i, rfl, hi, hW⟩
  refine br_dec (fun hlt => ?_) fun hge => ?_
  · have hi4 : i < (tarNs t).length := by omega
    have hmem := List.getElem_mem hi4
    have hz := hns _ hmem
    refine ⟨by omega, by omega, (tarNs t)[i], ?_, hW.uint _ hz.1 (by omega) ?_ far fun w5 h5 z5 => ⟨rfl, ?_⟩⟩
    · rw [cell_keep (hW.keep (b := g') (by omega) farA), cell_of_row _ _ _ _ _ _ n3, Int.toNat_natCast, Nat.zero_add, Nat.mul_one]
      have : #[Value.int .i64 t.grp, .int .i64 t.mode, .int .i64 t.block, .int .i64 (t.ts.length : Int)] = ((tarNs t).map (Value.int .i64)).toArray := rfl
      rw [this, List.getElem?_toArray, List.getElem?_map, List.getElem?_eq_getElem hi4]
      rfl
    · have : (((tarNs t).take i).flatMap uintB).length ≤ (tarHd t).length := by
        rw [← tarNs_hd]
        conv => rhs; rw [← List.take_append_drop i (tarNs t), List.flatMap_append, List.length_append]
        omega
      rw [List.length_append]; omega
    · rw [wr64 (by omega) (by omega)]
      refine ⟨⟨i + 1, by omega, by omega, ?_⟩, by dsimp only; omega⟩
      rw [List.take_add_one, List.getElem?_eq_getElem hi4, List.flatMap_append, ← List.append_assoc]
      simpa using h5
  · obtain rfl : i = 4 := by omega
    rw [show (tarNs t).take 4 = tarNs t from rfl, tarNs_hd] at hW
    refine ⟨fun x wx => ∃ i : Nat, x = i ∧ i ≤ t.ts.length ∧ WP w3 K wx gw (bs ++ tarHd t ++ (t.ts.take i).flatMap tirB) bad, fun x _ => t.ts.length - x.toNat, ⟨0, rfl, by omega, by simpa using hW⟩, ?_⟩
    rintro y wy ⟨i, rfl, hi, hW⟩
    refine br_dec (fun hlt => ?_) fun hge => ?_
    · have hil : i < t.ts.length := by omega
      have hl6 := ht.l
      obtain ⟨b, off, ha, hc⟩ := (h.below (hBw hW.fr)).get hil
      have hx := ht.ts _ (List.getElem_mem hil)
      have hlen : (bs ++ tarHd t ++ (t.ts.take i).flatMap tirB).length ≤ 1000200 := by
        have := trsB_len (ts := t.ts.take i) fun x hx => ht.ts x (List.mem_of_mem_take hx)
        rw [List.length_take] at this
        simp only [List.length_append]
        omega
      have h1 := num10 hx.1
      obtain ⟨q1, q1'⟩ := hx.1
      obtain ⟨q2, q2'⟩ := hx.2
      subst ha
      refine ⟨by omega, by omega, t.ts[i].upto, t.ts[i].price, by rw [Int.toNat_natCast]; exact hc, newO_in fun w7 n7 b7 s7 w8 h8 => ?_⟩
      have hW8 := hW.newbox b7 rfl h8
      obtain ⟨K8, hW8', hG8, hx8, hs8⟩ := hW.rebox b7 rfl s7 h8
      have zy := hW.fr.size
      have z8 := h8.2
      have far8 : ∀ x ∈ [wy.heap.size, g], x < w8.heap.size ∧ x ∉ K8 := fun x hx => by
        simp only [List.mem_cons, List.not_mem_nil, or_false] at hx
        rcases hx with rfl | rfl
        · exact ⟨hs8, hx8⟩
        · refine ⟨by omega, fun hm => ?_⟩
          have f := far x (by simp)
          rcases hG8 x hm with q | q
          · exact f.2 q
          · omega
      refine hW8'.uint _ q1 (by omega) (by omega) far8 fun w9 h9 z9 => ⟨rfl, h9.uint _ q2 (by omega) (by rw [List.length_append]; omega) far8 fun w10 h10 z10 => ⟨rfl, ?_⟩⟩
      rw [wr64 (by omega) (by omega)]
      refine ⟨⟨i + 1, by omega, by omega, ?_⟩, by dsimp only; omega⟩
      have := hW8.join h10 hG8
      rw [List.take_add_one, List.getElem?_eq_getElem hil, List.flatMap_append]
      simpa [tirB] using this
    · obtain rfl : i = t.ts.length := by omega
      rw [List.take_length, List.append_assoc] at hW
      exact ⟨rfl, (((WP.start hW0).below B3).join hW (Gr.refl _ _)).out⟩
end Go.Proofs.Ytecmpjccdhmeeaa
end
section
/- A plan is written, whole, by both; the plans of the law; walked. -/
namespace Go.Proofs.Ytecmpjccdhmeeaa
open Go.RowKit
theorem planHd_len {p : Pl} (h : NumOk p.day ∧ NumOk p.frm ∧ NumOk p.til) : (planHd p).length ≤ 30 := by
  have a := num10 h.1
  have b := num10 h.2.1
  have c := num10 h.2.2
  simp only [planHd, List.length_append]
  omega
theorem planB_len {p : Pl} (h : planE p = 0) : (planB p).length ≤ 400 := by
  obtain ⟨h1, h2, h3, h4, h5, h6⟩ := plan_io h
  have a := planHd_len ⟨h1, h2, h3⟩
  have b := tarB_len h4
  simp only [planB, List.length_append]
  split
  · rename_i hd
    have c := tarB_len (h5 hd)
    omega
  · simp only [List.length_nil]; omega
def WrE (p : Pl) (w : World) (v : Value) (w' : World) : Prop :=
  (planE p = 0 → ∃ a c, v = .tuple #[.slice a (planB p).length c, .int .i64 0] ∧ Own w' w.heap.size 5 1 (.slice a (planB p).length c) (planB p).length ((planB p).map bV)) ∧ (planE p ≠ 0 → v = .tuple #[.slice none 0 0, .int .i64 (planE p)])
set_option maxRecDepth 10000 in
theorem write_new (p : Pl) (a a2 : Option Addr) (c c2 : Nat) (w : World) (h : PlAt w p a a2) (hd : -9223372036854775808 ≤ p.day ∧ p.day ≤ 9223372036854775807) :
    Calls Try.prog 12 #[planV p a c a2 c2] w fun e w' => (∃ v, e = .returned v ∧ WrE p w v w') ∧ Below w.heap.size w w' := by
  refine (GTarB.write_calls p.day p.frm p.til p.base.grp p.base.mode p.base.block a p.base.ts.length c p.other.grp p.other.mode p.other.block a2 p.other.ts.length c2 w (fun u w' => WrE p w u w' ∧ Below w.heap.size w w') ?_).mono (by rintro e w' ⟨v, rfl, h, h2⟩; exact ⟨⟨v, rfl, h⟩, h2⟩)
  unfold GTarB.write_vc
  refine newB (Bs.refl w) fun g w2 g0 sg n2 z2 b2 B2 => callB B2 (cplan_ret p a a2 c c2 w2 (h.to B2) hd.1 hd.2) fun w3 b3 B3 => ⟨_, rfl, br_dec (fun h1 => ⟨⟨fun k => absurd k h1, fun _ => rfl⟩, B3⟩) fun h1 => ?_⟩
  have hp := Decidable.not_not.1 h1
  obtain ⟨i1, i2, i3, i4, i5, i6⟩ := plan_io hp
  have b3s := b3.size
  refine newB B3 fun gw w4 g0' sg' n4 z4 b4 B4 => ?_
  have hW4 : WP w4 [gw] w4 gw [] false := WP.make n4 rfl
  have far : ∀ x ∈ [g], x < w4.heap.size ∧ x ∉ [gw] := fun x hx => by
    rw [List.mem_singleton] at hx; subst hx
    exact ⟨by omega, by rw [List.mem_singleton]; omega⟩
  have l1 := num10 i1
  have l2 := num10 i2
  have l3 := num10 i3
  have l4 := tarB_len i4
  obtain ⟨q1, q1'⟩ := i1
  obtain ⟨q2, q2'⟩ := i2
  obtain ⟨q3, q3'⟩ := i3
  have hFrom : ∀ {K : List Nat}, Gr [gw] K w4.heap.size → From w.heap.size K := fun hG k hk => by
    have := B3.size
    rcases hG k hk with q | q
    · rw [List.mem_singleton] at q; omega
    · omega
  have fin : ∀ (bs : List UInt8) (wy : World), WP w4 [gw] wy gw bs false → bs = planB p → Calls Try.prog 42 #[.pointer (some ⟨gw, 0, none⟩)] wy fun e w10 => KeepG [g] wy w10 ∧ ∃ (a37_0 : Option Addr) (n37_0 : Nat) (c37_0 : Nat) (x37_1 : Int), e = .returned (.tuple #[.slice a37_0 n37_0 c37_0, .int .i64 x37_1]) ∧ (WrE p w (.tuple #[.slice a37_0 n37_0 c37_0, .int .i64 x37_1]) w10 ∧ Below w.heap.size w w10) := by
    rintro bs wy hW rfl
    have hBy : Bs w wy := hW.old B4 (hFrom (Gr.refl _ _))
    obtain ⟨⟨K, hK, hG⟩, _, _⟩ := hW
    refine (wBytes_any gw (planB p) false K wy hK (by have := planB_len hp; omega)).mono ?_
    rintro e w10 ⟨v, rfl, ho, hb⟩
    obtain ⟨a', c', rfl⟩ := ho.isSlice
    exact ⟨keepG_below hb, _, _, _, _, rfl, ⟨⟨fun _ => ⟨a', c', rfl, ho.base_le fun k hk => Nat.le_trans hBy.size (ho.lt k hk).1⟩, fun k => absurd hp k⟩, hBy.to hb⟩⟩
  refine hW4.uint p.day q1 (by omega) (by simp) far fun w5 W5 z5 => ⟨rfl, W5.uint p.frm q2 (by omega) (by simp; omega) far fun w6 W6 z6 => ⟨rfl, W6.uint p.til q3 (by omega) (by simp; omega) far fun w7 W7 z7 => ⟨rfl, W7.call (fun K hK hG => put_any (wb := w) p.base a c gw K _ false (W7.old B4 (hFrom (Gr.refl _ _))) h.base i4 hK (hFrom hG) (by simp; omega)) far fun w8 W8 z8 => ⟨rfl, ?_⟩⟩⟩⟩
  refine br_dec (fun hd0 => ?_) fun hd0 => ?_
  · have l5 := tarB_len (i5 hd0)
    refine W8.call (fun K hK hG => put_any (wb := w) p.other a2 c2 gw K _ false (W8.old B4 (hFrom (Gr.refl _ _))) h.other (i5 hd0) hK (hFrom hG) (by simp; omega)) far fun w9 W9 z9 => ⟨rfl, fin _ w9 W9 ?_⟩
    simp [planB, planHd, hd0]
  · refine fin _ w8 W8 ?_
    simp [planB, planHd, hd0]
theorem strOf_sz (xs : List UInt8) : (strOf xs).size = xs.length := by simp [strOf, ByteArray.size]
theorem fu_ret (z : Int) (h : z ≤ 9223372036854775807) (w : World) : Calls Try.prog 51 #[.int .i64 z] w (Ret (.string (strOf (uintB z))) w) := fUint_any z h w
theorem rtariff_ret (t : Tar) (a : Option Addr) (c : Nat) (w : World) (h : TsAt 0 w a t.ts) (ht : TarIo t) : Calls Try.prog 52 #[tarV t a c] w (Ret (.string (strOf (tarB t))) w) := by
  refine ret_in (GTarB.rtariff_calls t.grp t.mode t.block a t.ts.length c w (fun u w' => u = .string (strOf (tarB t)) ∧ Below w.heap.size w w') ?_)
  unfold GTarB.rtariff_vc
  have l1 := num10 ht.g
  have l2 := num10 ht.m
  have l3 := num10 ht.b
  have hl := ht.l
  have l4 := uint_len10 (n := (t.ts.length : Int)) (by omega)
  obtain ⟨q1, q1'⟩ := ht.g
  obtain ⟨q2, q2'⟩ := ht.m
  obtain ⟨q3, q3'⟩ := ht.b
  refine newB (Bs.refl w) fun g w2 g0 sg n2 z2 b2 B2 => drewB B2 fun w3 b3 B3 _ => callB B3 (fu_ret t.grp (by omega) w3) fun w4 b4 B4 => ⟨_, rfl, callB B4 (fu_ret t.mode (by omega) w4) fun w5 b5 B5 => ⟨_, rfl, by rw [strOf_sz, strOf_sz]; omega, callB B5 (fu_ret t.block (by omega) w5) fun w6 b6 B6 => ⟨_, rfl, ?_, callB B6 (fu_ret (t.ts.length : Int) (by omega) w6) fun w7 b7 B7 => ⟨_, rfl, ?_, ?_⟩⟩⟩⟩
  · rw [strOf_app, strOf_sz, strOf_sz, List.length_append]; omega
  · rw [strOf_app, strOf_app, strOf_sz, strOf_sz, List.length_append, List.length_append]; omega
  rw [strOf_app, strOf_app, strOf_app]
  have hhl := tarHd_len ht
  refine ⟨fun s x wx => ∃ i : Nat, x = i ∧ i ≤ t.ts.length ∧ s = strOf (tarHd t ++ (t.ts.take i).flatMap tirB) ∧ Bs w wx, fun _ x _ => t.ts.length - x.toNat, ⟨0, rfl, by omega, by simp [tarHd], B7⟩, ?_⟩
  rintro s x wx ⟨i, rfl, hi, rfl, B⟩
  refine br_dec (fun hlt => drewB B fun w9 b9 B9 _ => ?_) fun hge => ?_
  · have hil : i < t.ts.length := by omega
    obtain ⟨b, off, rfl, hc⟩ := (h.below B9).get hil
    have hx := ht.ts _ (List.getElem_mem hil)
    have x1 := num10 hx.1
    have x2 := num10 hx.2
    have hlen := trsB_len (ts := t.ts.take i) fun x hx => ht.ts x (List.mem_of_mem_take hx)
    rw [List.length_take] at hlen
    have hc1 : w9.cell? ⟨b, off + ((i : Nat) : Int).toNat * 2 + 1, none⟩ = some (.int .i64 t.ts[i].price) := by rw [Int.toNat_natCast, Nat.add_assoc]; exact cellsAt_get hc 1 _ rfl
    refine ⟨by omega, by omega, t.ts[i].upto, by rw [Int.toNat_natCast]; exact cellsAt_get hc 0 _ rfl, by omega, by omega, t.ts[i].price, hc1, callB B9 (fu_ret t.ts[i].upto (by have := hx.1.2; omega) w9) fun w10 b10 B10 => ⟨_, rfl, (cell_keep (b10.block b (block_lt_of_cell hc1)) _).trans hc1, ?_, callB B10 (fu_ret t.ts[i].price (by have := hx.2.2; omega) w10) fun w11 b11 B11 => ⟨_, rfl, ?_, ?_⟩⟩⟩
    · rw [strOf_sz, strOf_sz, List.length_append]; omega
    · rw [strOf_app, strOf_sz, strOf_sz, List.length_append, List.length_append]; omega
    rw [wr64 (by omega) (by omega), strOf_app, strOf_app]
    refine ⟨⟨i + 1, by omega, by omega, ?_, B11⟩, by dsimp only; omega⟩
    rw [List.take_add_one, List.getElem?_eq_getElem hil, List.flatMap_append]
    simp [tirB]
  · obtain rfl : i = t.ts.length := by omega
    exact ⟨by rw [List.take_length]; rfl, B⟩
theorem rwrite_ret (p : Pl) (a a2 : Option Addr) (c c2 : Nat) (w : World) (h : PlAt w p a a2) (hp : planE p = 0) : Calls Try.prog 17 #[planV p a c a2 c2] w (Ret (.string (strOf (planB p))) w) := by
  refine ret_in (GTarB.rwrite_calls p.day p.frm p.til p.base.grp p.base.mode p.base.block a p.base.ts.length c p.other.grp p.other.mode p.other.block a2 p.other.ts.length c2 w (fun u w' => u = .string (strOf (planB p)) ∧ Below w.heap.size w w') ?_)
  unfold GTarB.rwrite_vc
  obtain ⟨i1, i2, i3, i4, i5, i6⟩ := plan_io hp
  have l1 := num10 i1
  have l2 := num10 i2
  have l3 := num10 i3
  have l4 := tarB_len i4
  refine newB (Bs.refl w) fun g w2 g0 sg n2 z2 b2 B2 => drewB B2 fun w3 b3 B3 _ => callB B3 (fu_ret p.day (by have := i1.2; omega) w3) fun w4 b4 B4 => ⟨_, rfl, callB B4 (fu_ret p.frm (by have := i2.2; omega) w4) fun w5 b5 B5 => ⟨_, rfl, by rw [strOf_sz, strOf_sz]; omega, callB B5 (fu_ret p.til (by have := i3.2; omega) w5) fun w6 b6 B6 => ⟨_, rfl, ?_, callB B6 (rtariff_ret p.base a c w6 (h.base.below B6) i4) fun w7 b7 B7 => ⟨_, rfl, ?_, ?_⟩⟩⟩⟩
  · rw [strOf_app, strOf_sz, strOf_sz, List.length_append]; omega
  · rw [strOf_app, strOf_app, strOf_sz, strOf_sz, List.length_append, List.length_append]; omega
  rw [strOf_app, strOf_app, strOf_app]
  refine br_dec (fun hd => ?_) fun hd => ⟨?_, B7⟩
  · have l5 := tarB_len (i5 hd)
    refine callB B7 (rtariff_ret p.other a2 c2 w7 (h.other.below B7) (i5 hd)) fun w8 b8 B8 => ⟨_, rfl, ?_, ?_, B8⟩
    · rw [strOf_sz, strOf_sz, List.length_append, List.length_append, List.length_append]; omega
    · rw [strOf_app]; simp [planB, planHd, hd]
  · simp [planB, planHd, hd]
theorem r9same_ret (t : Tar) (a a2 : Option Addr) (c c2 : Nat) (w : World) (h : TsAt 0 w a t.ts) (h2 : TsAt 0 w a2 t.ts) (hl : t.ts.length ≤ 1000) : Calls Try.prog 53 #[tarV t a c, tarV t a2 c2] w (Ret (.bool true) w) := by
  refine ret_in (GTar.rsame_calls t.grp t.mode t.block a t.ts.length c t.grp t.mode t.block a2 t.ts.length c2 w (fun u w' => u = .bool true ∧ Below w.heap.size w w') ?_)
  unfold GTar.rsame_vc
  refine newB (Bs.refl w) fun g w2 g0 sg n2 z2 b2 B2 => newB B2 fun g' w3 g0' sg' n3 z3 b3 B3 => br_n (by simp) (br_n (by simp) (br_n (by simp) (br_n (by simp) ?_)))
  refine ⟨fun x wx => ∃ i : Nat, x = i ∧ i ≤ t.ts.length ∧ Bs w wx, fun x _ => t.ts.length - x.toNat, ⟨0, rfl, by omega, B3⟩, ?_⟩
  rintro x wx ⟨i, rfl, hi, B⟩
  refine br_dec (fun hlt => drewB B fun w5 b5 B5 _ => ?_) fun hge => ⟨rfl, B⟩
  have hil : i < t.ts.length := by omega
  obtain ⟨b, off, rfl, hc⟩ := (h.below B5).get hil
  obtain ⟨b', off', rfl, hc'⟩ := (h2.below B5).get hil
  refine ⟨by omega, by omega, t.ts[i].upto, t.ts[i].price, by rw [Int.toNat_natCast]; exact hc, by omega, by omega, t.ts[i].upto, t.ts[i].price, by rw [Int.toNat_natCast]; exact hc', br_f (by simp) ?_⟩
  rw [wr64 (by omega) (by omega)]
  exact ⟨⟨i + 1, by omega, by omega, B5⟩, by dsimp only; omega⟩
theorem samep_ret (p : Pl) (a a2 b b2 : Option Addr) (c c2 d d2 : Nat) (w : World) (h : PlAt w p a a2) (h2 : PlAt w p b b2) : Calls Try.prog 18 #[planV p a c a2 c2, planV p b d b2 d2] w (Ret (.bool true) w) := by
  refine ret_in (GTarB.rsamep_calls p.day p.frm p.til p.base.grp p.base.mode p.base.block a p.base.ts.length c p.other.grp p.other.mode p.other.block a2 p.other.ts.length c2 p.day p.frm p.til p.base.grp p.base.mode p.base.block b p.base.ts.length d p.other.grp p.other.mode p.other.block b2 p.other.ts.length d2 w (fun u w' => u = .bool true ∧ Below w.heap.size w w') ?_)
  unfold GTarB.rsamep_vc
  exact newB (Bs.refl w) fun g w2 g0 sg n2 z2 b2 B2 => newB B2 fun g' w3 g0' sg' n3 z3 b3 B3 => br_y rfl (br_y rfl (br_y rfl (callB B3 (r9same_ret p.base a b c d w3 (h.base.below B3) (h2.base.below B3) h.lb) fun w4 b4 B4 => ⟨_, rfl, br_t rfl (callB B4 (r9same_ret p.other _ _ _ _ w4 (h.other.below B4) (h2.other.below B4) h.lo) fun w5 b5 B5 => ⟨_, rfl, rfl, B5⟩)⟩)))
theorem to9_ret (p : Pl) (a a2 : Option Addr) (c c2 : Nat) (w : World) : Calls Try.prog 13 #[planV p a c a2 c2] w (Ret (planV p a c a2 c2) w) := by
  refine ret_in (GTarB.to9_calls p.day p.frm p.til p.base.grp p.base.mode p.base.block a p.base.ts.length c p.other.grp p.other.mode p.other.block a2 p.other.ts.length c2 w (fun u w' => u = planV p a c a2 c2 ∧ Below w.heap.size w w') ?_)
  unfold GTarB.to9_vc
  exact newB (Bs.refl w) fun g w2 g0 sg n2 z2 b2 B2 => newB B2 fun g' w3 g0' sg' n3 z3 b3 B3 => boxB B3 g0' fun w4 h4 B4 z4 => ⟨rfl, B4⟩
theorem from9_ret (p : Pl) (a a2 : Option Addr) (c c2 : Nat) (w : World) : Calls Try.prog 19 #[planV p a c a2 c2] w (Ret (planV p a c a2 c2) w) := by
  refine ret_in (GTarB.from9_calls p.day p.frm p.til p.base.grp p.base.mode p.base.block a p.base.ts.length c p.other.grp p.other.mode p.other.block a2 p.other.ts.length c2 w (fun u w' => u = planV p a c a2 c2 ∧ Below w.heap.size w w') ?_)
  unfold GTarB.from9_vc
  exact newB (Bs.refl w) fun g w2 g0 sg n2 z2 b2 B2 => newB B2 fun g' w3 g0' sg' n3 z3 b3 B3 => boxB B3 g0' fun w4 h4 B4 z4 => ⟨rfl, B4⟩
def plainT (x : Int) : Tar := ⟨1, 1, 1, [⟨0, x⟩]⟩
theorem plain_new (x : Int) (w : World) : Calls Try.prog 44 #[.int .i64 x] w fun e w' => (∃ a c, e = .returned (tarV (plainT x) a c) ∧ TsAt w.heap.size w' a (plainT x).ts) ∧ Below w.heap.size w w' := by
  refine (GTarB.plain_calls x w (fun u w' => (∃ a c, u = tarV (plainT x) a c ∧ TsAt w.heap.size w' a (plainT x).ts) ∧ Below w.heap.size w w') ?_).mono (by rintro e w' ⟨v, rfl, ⟨a, c, rfl, h⟩, h2⟩; exact ⟨⟨a, c, rfl, h⟩, h2⟩)
  unfold GTarB.plain_vc
  refine newB (Bs.refl w) fun g w2 g0 sg n2 z2 b2 B2 => newB B2 fun g' w3 g0' sg' n3 z3 b3 B3 => boxB B3 g0 fun w4 h4 B4 z4 => ⟨⟨_, _, rfl, ?_⟩, B4⟩
  have := (Rws.one (enc := trCells) (k := 2) (n0 := g') (x := (⟨0, x⟩ : Tr)) n3 (Nat.le_refl _)).box h4 (by omega)
  exact this.low g0'
def plan9 : Pl := ⟨24, 20, 6, plainT 1, plainT 2⟩
theorem plan9_facts : planE plan9 = 0 ∧ isOther plan9 23 ∧ ¬ isOther plan9 30 ∧ dearT (atT plan9 23).ts = 2 ∧ dearT (atT plan9 30).ts = 1 ∧ (atT plan9 23).ts.length = 1 ∧ (atT plan9 30).ts.length = 1 := by decide +kernel
set_option maxRecDepth 10000 in
theorem tariffs_ret (w : World) : Calls Try.prog 15 #[] w (Ret (.bool true) w) := by
  refine ret_in (GTarB.tariffs_calls w (fun u w' => u = .bool true ∧ Below w.heap.size w w') ?_)
  unfold GTarB.tariffs_vc
  obtain ⟨f1, f2, f3, f4, f5, f6, f7⟩ := plan9_facts
  refine callQ (Bs.refl w) (plain_new 1 w) ?_
  rintro e w2 ⟨a2, c2, rfl, t2⟩ b2 B2
  refine ⟨_, _, _, _, _, _, rfl, callQ B2 (plain_new 2 w2) ?_⟩
  rintro e w3 ⟨a3, c3, rfl, t3⟩ b3 B3
  have hP : PlAt w3 plan9 a2 a3 := ⟨(t2.below b3).low (Nat.zero_le _), t3.low (Nat.zero_le _), by decide, by decide⟩
  refine ⟨_, _, _, _, _, _, rfl, newB (Bs.refl w3) fun g w4 g0 sg n4 z4 b4 C4 => boxB C4 g0 fun w5 h5 C5 z5 => callQ C5 (at_new plan9 a2 a3 c2 c3 23 w5 (hP.to C5) (by decide) (by decide) (by decide) f1) ?_⟩
  rintro e w6 ⟨a6, c6, rfl, t6⟩ b6 C6
  refine ⟨_, _, _, _, _, _, _, rfl, newB (Bs.refl w6) fun g7 w7 g07 sg7 n7 z7 b7 D7 => boxB D7 g07 fun w8 h8 D8 z8 => callQ D8 (at_new plan9 a2 a3 c2 c3 30 w8 (hP.to (C6.to D8)) (by decide) (by decide) (by decide) f1) ?_⟩
  rintro e w9 ⟨a9, c9, rfl, t9⟩ b9 D9
  refine ⟨_, _, _, _, _, _, _, rfl, newB (Bs.refl w9) fun g10 w10 g010 sg10 n10 z10 b10 E10 => boxB E10 g010 fun w11 h11 E11 z11 => callB E11 (cplan_ret plan9 a2 a3 c2 c3 w11 (hP.to ((C6.to D9).to E11)) (by decide) (by decide)) fun w12 b12 E12 => ⟨_, rfl, br_y f1 (br_t (decide_eq_true f2) (br_t (by rw [decide_eq_false f3]; rfl) ?_))⟩⟩
  refine callB E12 (dearest_ret (atT plan9 23) a6 c6 w12 ((t6.below (D9.to E12)).low (Nat.zero_le _)) (by rw [f6]; decide)) fun w13 b13 E13 => ⟨_, rfl, br_y f4 (callB E13 (dearest_ret (atT plan9 30) a9 c9 w13 ((t9.below E13).low (Nat.zero_le _)) (by rw [f7]; decide)) fun w14 b14 E14 => ⟨_, rfl, ?_, B3.to (C6.to (D9.to E14))⟩)⟩
  rw [f5]; rfl
end Go.Proofs.Ytecmpjccdhmeeaa
end
section
/- A plan is read; walked. -/
namespace Go.Proofs.Ytecmpjccdhmeeaa
open Go.RowKit
/-- Cells of a block that are written over. -/
theorem stO_bks {w : World} {g off : Nat} {t : TypeId} {cs : Array Value} {vs : List Value} {gs : List Nat} {K : World → Prop} (h : Bk w g cs t) (hl : off + vs.length ≤ cs.size) (hg : ∀ x ∈ gs, x ≠ g)
    (k : ∀ w1, Bk w1 g (setL cs.toList off vs).toArray t → Fr [g] w w1 → w1.heap.size = w.heap.size → K w1) : stO gs w g off vs K := by
  have key : ∀ (vs : List Value) (w : World) (cs : Array Value) (off : Nat), Bk w g cs t → off + vs.length ≤ cs.size → Bk (w.setCells g off vs) g (setL cs.toList off vs).toArray t ∧ Fr [g] w (w.setCells g off vs) ∧ (w.setCells g off vs).heap.size = w.heap.size := by
    intro vs
    induction vs with
    | nil => intro w cs off h _; exact ⟨by simpa [World.setCells, setL] using h, Fr.refl _ _, rfl⟩
    | cons v r ih =>
      intro w cs off h hl
      rw [List.length_cons] at hl
      obtain ⟨k1, k2, k3⟩ := ih (w.setCell ⟨g, off, none⟩ v) (cs.setIfInBounds off v) (off + 1) (h.setCell off v) (by simp; omega)
      refine ⟨?_, ((Fr.refl [g] w).setCell (p := ⟨g, off, none⟩) (.inl (by simp)) v).trans k2 (Gr.refl _ _), by rw [show w.setCells g off (v :: r) = (w.setCell ⟨g, off, none⟩ v).setCells g (off + 1) r from rfl, k3]; simp [World.setCell]⟩
      rw [Array.toList_setIfInBounds] at k1
      exact k1
  obtain ⟨k1, k2, k3⟩ := key vs w cs off h hl
  exact ⟨hg, h.there hl, fun w1 e => by subst e; exact k _ k1 k2 k3⟩
/-- Three numbers, one behind the other. -/
def rd3 (bs : List UInt8) (e : Int) : Nat → List UInt8 × Int
  | 0 => (bs, e)
  | i + 1 => (rdUint 1099511627776 (rd3 bs e i).1 (rd3 bs e i).2).2
def rd3v (bs : List UInt8) (e : Int) (i : Nat) : Int := (rdUint 1099511627776 (rd3 bs e i).1 (rd3 bs e i).2).1
theorem rd3_len (bs : List UInt8) (e : Int) : ∀ i, (rd3 bs e i).1.length ≤ bs.length
  | 0 => Nat.le_refl _
  | i + 1 => Nat.le_trans (rdLenU _ _ _) (rd3_len bs e i)
def up3 (bs : List UInt8) (e : Int) (i j : Nat) : Value := .int .i64 (if j < i then rd3v bs e j else 0)
theorem rdTar_eq (bs : List UInt8) (e : Int) : rdTar bs e = (⟨rd3v bs e 0, rd3v bs e 1, rd3v bs e 2, (rdTs ⟨[], (rdUint 6 (rd3 bs e 3).1 (rd3 bs e 3).2).2.1, (rdUint 6 (rd3 bs e 3).1 (rd3 bs e 3).2).2.2⟩ (rdUint 6 (rd3 bs e 3).1 (rd3 bs e 3).2).1.toNat).ts⟩, (rdTs ⟨[], (rdUint 6 (rd3 bs e 3).1 (rd3 bs e 3).2).2.1, (rdUint 6 (rd3 bs e 3).1 (rd3 bs e 3).2).2.2⟩ (rdUint 6 (rd3 bs e 3).1 (rd3 bs e 3).2).1.toNat).bs, (rdTs ⟨[], (rdUint 6 (rd3 bs e 3).1 (rd3 bs e 3).2).2.1, (rdUint 6 (rd3 bs e 3).1 (rd3 bs e 3).2).2.2⟩ (rdUint 6 (rd3 bs e 3).1 (rd3 bs e 3).2).1.toNat).e) := rfl
theorem lt3 {i : Nat} (h : i < 3) : i = 0 ∨ i = 1 ∨ i = 2 := by omega
theorem own_fr {w w1 : World} {n1 size n : Nat} {e : TypeId} {v : Value} {xs : List Value} {L : List Nat} (h : Own w n1 e size v n xs) (f : Fr L w w1) (hn : ∀ k ∈ L, k < n1) : Own w1 n1 e size v n xs := h.keep fun k hk => f.block k (h.lt k hk).2 fun hm => by have := (h.lt k hk).1; have := hn k hm; omega
def TakeR (w : World) (L : List Nat) (gr : Nat) (bs : List UInt8) (e : Int) (v : Value) (w' : World) : Prop :=
  ∃ a c, v = tarV (rdTar bs e).1 a c ∧ TsAt w.heap.size w' a (rdTar bs e).1.ts ∧ RdAt w' L gr (rdTar bs e).2.1 (rdTar bs e).2.2 ∧ Fr L w w' ∧ (rdTar bs e).1.ts.length ≤ 6
set_option maxRecDepth 10000 in
theorem take_new (gr : Nat) (L : List Nat) (bs : List UInt8) (e : Int) (w : World) (h : RdAt w L gr bs e) (hl : bs.length ≤ 100000000) :
    Calls Try.prog 49 #[.pointer (some ⟨gr, 0, none⟩)] w fun r w' => ∃ v, r = .returned v ∧ TakeR w L gr bs e v w' := by
  refine GTarB.take_calls (some ⟨gr, 0, none⟩) w (TakeR w L gr bs e) ?_
  unfold GTarB.take_vc
  have hu := h.under
  have hT : TakeR w L gr bs e = fun v w' => TakeR w L gr bs e v w' := rfl
  refine newB (Bs.refl w) fun g w2 g0 sg n2 z2 b2 B2 => newB B2 fun g2 w3 g02 sg2 n3 z3 b3 B3 => newB B3 fun g3 w4 g03 sg3 n4 z4 b4 B4 => ?_
  have nL : ∀ x, w.heap.size ≤ x → x ∉ L := fun x hx hm => by have := hu x hm; omega
  have R4 : RP w L w4 gr bs e := (RP.start h).below B4
  have B24 : Bk w4 g2 #[up3 bs e 0 0, up3 bs e 0 1, up3 bs e 0 2, .slice none 0 0] 24 := by
    have : Bk w3 g2 #[.int .i64 0, .int .i64 0, .int .i64 0, .slice none 0 0] 24 := n3
    exact this.keep (b4.block g2 (by omega))
  refine ⟨fun x wx => ∃ i : Nat, x = i ∧ i ≤ 3 ∧ RP w L wx gr (rd3 bs e i).1 (rd3 bs e i).2 ∧ Bk wx g2 #[up3 bs e i 0, up3 bs e i 1, up3 bs e i 2, .slice none 0 0] 24 ∧ wx.heap[g3]? = w4.heap[g3]? ∧ w4.heap.size ≤ wx.heap.size, fun x _ => 3 - x.toNat, ⟨0, rfl, by omega, R4, B24, rfl, by omega⟩, ?_⟩
  rintro x wx ⟨i, rfl, hi, hR, hB, h3, hsz⟩
  have hlen := rd3_len bs e i
  refine br_dec (fun hlt => ?_) fun hge => ?_
  · have hi3 : i < 3 := by omega
    refine ⟨by omega, by omega, some ⟨g2, i, none⟩, ?_, hR.uint 1099511627776 (by decide) (by decide) (by omega) (fun x hx => by rw [List.mem_singleton] at hx; subst hx; exact nL _ (by omega)) fun w6 R6 f6 z6 => ⟨_, rfl, ?_⟩⟩
    · rw [Int.toNat_natCast, Nat.zero_add, Nat.mul_one, cell_of_row _ _ _ _ _ _ (h3.trans n4)]
      rcases lt3 hi3 with rfl | rfl | rfl <;> rfl
    have hB6 := hB.keep (f6.block g2 (by omega) (nL g2 (by omega)))
    refine stO_bk hB6 (by simp; omega) (fun x hx => by rw [List.mem_singleton] at hx; omega) fun w7 B7 f7 z7 => ?_
    rw [wr64 (by omega) (by omega)]
    refine ⟨⟨i + 1, by omega, by omega, ⟨R6.at'.fr f7 (fun k h1 h2 => by rw [List.mem_singleton] at h2; subst h2; exact nL _ (by omega) h1), R6.fr.trans f7 (fun k hk => by rw [List.mem_singleton] at hk; exact .inr (by omega)), R6.un⟩, ?_, ?_, by omega⟩, by dsimp only; omega⟩
    · have : (#[up3 bs e i 0, up3 bs e i 1, up3 bs e i 2, .slice none 0 0] : Array Value).setIfInBounds i (.int .i64 (rdUint 1099511627776 (rd3 bs e i).1 (rd3 bs e i).2).1) = #[up3 bs e (i + 1) 0, up3 bs e (i + 1) 1, up3 bs e (i + 1) 2, .slice none 0 0] := by
        rcases lt3 hi3 with rfl | rfl | rfl <;> rfl
      rw [← this]; exact B7
    · exact ((f7.block g3 (by omega) (by rw [List.mem_singleton]; omega)).trans (f6.block g3 (by omega) (nL g3 (by omega)))).trans h3
  obtain rfl : i = 3 := by omega
  have hE := rdTar_eq bs e
  refine hR.uint 6 (by decide) (by decide) (by omega) (fun x hx => by rw [List.mem_singleton] at hx; subst hx; exact nL _ (by omega)) fun w8 R8 f8 z8 => ⟨_, rfl, ?_⟩
  have hn := rdUint_range 6 (rd3 bs e 3).1 (rd3 bs e 3).2
  have hn6 := uint_le (most := 6) (bs := (rd3 bs e 3).1) (e := (rd3 bs e 3).2) (by decide)
  have hnl := rdLenU 6 (rd3 bs e 3).1 (rd3 bs e 3).2
  have hB8 := hB.keep (f8.block g2 (by omega) (nL g2 (by omega)))
  generalize rdUint 6 (rd3 bs e 3).1 (rd3 bs e 3).2 = q at *
  obtain ⟨n, qb, qe⟩ := q
  dsimp only at *
  have hts := rdTs_len ⟨[], qb, qe⟩
  have htb := rdTs_bs ⟨[], qb, qe⟩
  have hbs0 : (⟨[], qb, qe⟩ : RdT).bs.length = qb.length := rfl
  have hs0 : (⟨[], qb, qe⟩ : RdT).ts.length = 0 := rfl
  have R8 : RP w L w8 gr (⟨[], qb, qe⟩ : RdT).bs (⟨[], qb, qe⟩ : RdT).e := R8
  generalize (⟨[], qb, qe⟩ : RdT) = s0 at *
  refine ⟨fun x wx => ∃ (i : Nat) (a : Option Addr) (c : Nat), x = i ∧ (i : Int) ≤ n ∧ RP w L wx gr (rdTs s0 i).bs (rdTs s0 i).e ∧ Bk wx g2 #[up3 bs e 3 0, up3 bs e 3 1, up3 bs e 3 2, .slice a i c] 24 ∧ Own wx w8.heap.size 120 2 (.slice a i c) i ((rdTs s0 i).ts.flatMap trCells) ∧ w8.heap.size ≤ wx.heap.size, fun x _ => n.toNat - x.toNat, ?_, ?_⟩
  · refine ⟨0, none, 0, rfl, by omega, R8, hB8, ?_, by omega⟩
    rw [show (rdTs s0 0).ts = [] from List.length_eq_zero_iff.1 (by rw [hts 0, hs0])]
    exact Own.nil _ _ _ _
  rintro x wx ⟨i, a, c, rfl, hi, hR, hB, hO, hsz⟩
  have hti : (rdTs s0 i).ts.length = i := by rw [hts i, hs0]; omega
  refine br_dec (fun hlt => ?_) fun hge => ?_
  · have hbl := htb i
    have nLO : ∀ k ∈ L, k < w8.heap.size := fun k hk => by have := hu k hk; omega
    have st : rdTs s0 (i + 1) = rdTr (rdTs s0 i) := rfl
    have hR1 := rdLenU 1099511627776 (rdTs s0 i).bs (rdTs s0 i).e
    refine hR.uint 1099511627776 (by decide) (by decide) (by omega) (fun x hx => by rw [List.mem_singleton] at hx; subst hx; exact nL _ (by omega)) fun w10 R10 f10 z10 => ⟨_, rfl, newO_in fun w11 n11 b11 s11 w12 h12 => ?_⟩
    have R12 := R10.newbox b11 rfl h12
    have z12 := h12.2
    have B12 : Bk w12 g2 #[up3 bs e 3 0, up3 bs e 3 1, up3 bs e 3 2, .slice a i c] 24 := hB.keep (((h12.1.block g2 (by omega) (by rw [List.mem_singleton]; omega)).trans (b11.block g2 (by omega))).trans (f10.block g2 (by omega) (nL g2 (by omega))))
    have O12 := (own_fr hO f10 nLO).newbox b11 rfl h12
    refine R12.uint 1099511627776 (by decide) (by decide) (by omega) (fun x hx => by simp only [List.mem_cons, List.not_mem_nil, or_false] at hx; rcases hx with rfl | rfl <;> exact nL _ (by omega)) fun w13 R13 f13 z13 => ⟨_, rfl, fun w14 h14 => ?_⟩
    have R14 := R13.box h14 (nL _ (by omega)) (by omega)
    have z14 := h14.2
    have B14 : Bk w14 g2 #[up3 bs e 3 0, up3 bs e 3 1, up3 bs e 3 2, .slice a i c] 24 := B12.keep ((h14.1.block g2 (by omega) (by rw [List.mem_singleton]; omega)).trans (f13.block g2 (by omega) (nL g2 (by omega))))
    have klt := fun k hk => hO.lt k hk
    have O14 : Own w14 w8.heap.size 120 2 (.slice a i c) i ((rdTs s0 i).ts.flatMap trCells) := (own_fr O12 f13 nLO).box h14 fun k hk => by have := (klt k hk).2; omega
    refine ⟨a, i, c, by rw [B14.cell]; rfl, newO_in fun w15 n15 b15 s15 => ?_⟩
    have B15 := B14.keep (b15.block g2 (by omega))
    have O15 := O14.below b15 (Nat.le_refl _)
    have R15 := R14.below b15
    have hg2O : ∀ k, (Value.slice a i c).ownBlock = some k → w8.heap.size ≤ k ∧ k < wx.heap.size := klt
    refine ⟨1, _, _, O15.base_le fun _ _ => Nat.zero_le _, src_block (n := 1) (size := 2) Try.underlying22 n15 rfl rfl, by unfold maxLen; omega, by omega, fun x hx e => ?_, fun a' c' w16 o16 g16 or16 _ => ?_⟩
    · have := hg2O _ e
      simp only [List.mem_cons, List.not_mem_nil, or_false] at hx
      omega
    have z16 := g16.size
    have o16' : Own w16 w8.heap.size 120 2 (.slice a' (i + 1) c') (i + 1) ((rdTs s0 i).ts.flatMap trCells ++ trCells ⟨(rdUint 1099511627776 (rdTs s0 i).bs (rdTs s0 i).e).1, (rdUint 1099511627776 (rdUint 1099511627776 (rdTs s0 i).bs (rdTs s0 i).e).2.1 (rdUint 1099511627776 (rdTs s0 i).bs (rdTs s0 i).e).2.2).1⟩) := o16.base_le fun k hk => by
      rcases or16 with q | ⟨y, q, hy⟩
      · rw [q] at hk; exact (hg2O k hk).1
      · rw [q] at hk; injection hk with hk; omega
    have B16 := B15.keep (g16.block g2 (by omega) fun h => by have := hg2O g2 h.symm; omega)
    have R16 : RP w L w16 gr (rdTs s0 (i + 1)).bs (rdTs s0 (i + 1)).e := ⟨R15.at'.keep (fun k hk => g16.block k (by have := hu k hk; omega) fun h => by have := hg2O k h.symm; have := hu k hk; omega) g16.size, R15.fr.grown g16 fun k hk => .inr (by have := hg2O k hk; omega), hu⟩
    refine stO_bk B16 (by simp) (fun x hx => by simp only [List.mem_cons, List.not_mem_nil, or_false] at hx; omega) fun w17 B17 f17 z17 => ?_
    rw [wr64 (by omega) (by omega)]
    refine ⟨⟨i + 1, a', c', by omega, by omega, ⟨R16.at'.fr f17 (fun k h1 h2 => by rw [List.mem_singleton] at h2; subst h2; exact nL _ (by omega) h1), R16.fr.trans f17 (fun k hk => by rw [List.mem_singleton] at hk; exact .inr (by omega)), hu⟩, B17, ?_, by omega⟩, by dsimp only; omega⟩
    have ho := o16'.keep (w' := w17) fun k hk => f17.block k (o16'.lt k hk).2 (by rw [List.mem_singleton]; have := (o16'.lt k hk).1; omega)
    have : (rdTs s0 (i + 1)).ts = (rdTs s0 i).ts ++ [⟨(rdUint 1099511627776 (rdTs s0 i).bs (rdTs s0 i).e).1, (rdUint 1099511627776 (rdUint 1099511627776 (rdTs s0 i).bs (rdTs s0 i).e).2.1 (rdUint 1099511627776 (rdTs s0 i).bs (rdTs s0 i).e).2.2).1⟩] := rfl
    rw [this, List.flatMap_append]
    simpa using ho
  · have hin : (i : Int) = n := by omega
    have hni : n.toNat = i := by omega
    rw [hni] at hE
    refine ⟨_, _, _, a, i, c, ⟨by rw [hB.cell]; rfl, by rw [hB.cell]; rfl, by rw [hB.cell]; rfl, by rw [hB.cell]; rfl, trivial⟩, fun w18 h18 => ?_⟩
    have z18 := h18.2
    have R18 := hR.box h18 (nL _ (by omega)) (by omega)
    have O18 := hO.box h18 fun k hk => by have := (hO.lt k hk).1; omega
    refine ⟨a, c, ?_, ?_, ?_, R18.fr, ?_⟩
    · rw [hE]
      unfold tarV
      dsimp only
      rw [hti]
      rfl
    · rw [hE]
      exact (Rws.ofOwn (by decide) tr_len O18).low (by omega)
    · rw [hE]; exact R18.at'
    · rw [hE]; show (rdTs s0 i).ts.length ≤ 6; omega
end Go.Proofs.Ytecmpjccdhmeeaa
end
section
/- A plan is read, whole; walked. -/
namespace Go.Proofs.Ytecmpjccdhmeeaa
open Go.RowKit
theorem Rws.fr {α : Type} {enc : α → List Value} {k n0 : Nat} {w w' : World} {a : Option Addr} {xs : List α} {L : List Nat} (h : Rws enc k n0 w a xs) (f : Fr L w w') (hn : ∀ k ∈ L, k < n0) : Rws enc k n0 w' a xs := h.keep fun b h1 h2 => f.block b h2 fun hm => by have := hn b hm; omega
theorem rdPl_eq (bs : List UInt8) : rdPl bs = (⟨rd3v bs 0 0, rd3v bs 0 1, rd3v bs 0 2, (rdTar (rd3 bs 0 3).1 (rd3 bs 0 3).2).1, (if rd3v bs 0 0 ≠ 0 then rdTar (rdTar (rd3 bs 0 3).1 (rd3 bs 0 3).2).2.1 (rdTar (rd3 bs 0 3).1 (rd3 bs 0 3).2).2.2 else (⟨0, 0, 0, []⟩, (rdTar (rd3 bs 0 3).1 (rd3 bs 0 3).2).2.1, (rdTar (rd3 bs 0 3).1 (rd3 bs 0 3).2).2.2)).1⟩,
    (if rd3v bs 0 0 ≠ 0 then rdTar (rdTar (rd3 bs 0 3).1 (rd3 bs 0 3).2).2.1 (rdTar (rd3 bs 0 3).1 (rd3 bs 0 3).2).2.2 else (⟨0, 0, 0, []⟩, (rdTar (rd3 bs 0 3).1 (rd3 bs 0 3).2).2.1, (rdTar (rd3 bs 0 3).1 (rd3 bs 0 3).2).2.2)).2.1,
    (if rd3v bs 0 0 ≠ 0 then rdTar (rdTar (rd3 bs 0 3).1 (rd3 bs 0 3).2).2.1 (rdTar (rd3 bs 0 3).1 (rd3 bs 0 3).2).2.2 else (⟨0, 0, 0, []⟩, (rdTar (rd3 bs 0 3).1 (rd3 bs 0 3).2).2.1, (rdTar (rd3 bs 0 3).1 (rd3 bs 0 3).2).2.2)).2.2) := rfl
theorem rdTar_bs (bs : List UInt8) (e : Int) : (rdTar bs e).2.1.length ≤ bs.length := by
  rw [rdTar_eq]
  dsimp only
  refine Nat.le_trans (rdTs_bs _ _) ?_
  dsimp only
  exact Nat.le_trans (rdLenU _ _ _) (rd3_len bs e 3)
theorem rd3v_range (bs : List UInt8) (e : Int) (i : Nat) : 0 ≤ rd3v bs e i ∧ rd3v bs e i ≤ 9223372036854775807 := rdUint_range _ _ _
def plCellsV (p : Pl) (a a2 : Option Addr) (c c2 : Nat) : Array Value := #[.int .i64 p.day, .int .i64 p.frm, .int .i64 p.til, .int .i64 p.base.grp, .int .i64 p.base.mode, .int .i64 p.base.block, .slice a p.base.ts.length c, .int .i64 p.other.grp, .int .i64 p.other.mode, .int .i64 p.other.block, .slice a2 p.other.ts.length c2]
/-- What is told of bytes. -/
def PlanRd (w : World) (bs : List UInt8) (v : Value) (w' : World) : Prop :=
  (∃ a a2 c c2, v = .tuple #[planV (rdPlan bs) a c a2 c2, .int .i64 (rdPlE bs)] ∧ TsAt w.heap.size w' a (rdPlan bs).base.ts ∧ TsAt w.heap.size w' a2 (rdPlan bs).other.ts ∧ (rdPlan bs).base.ts.length ≤ 6 ∧ (rdPlan bs).other.ts.length ≤ 6 ∧ (0 ≤ (rdPlan bs).day ∧ (rdPlan bs).day ≤ 9223372036854775807)) ∧ Below w.heap.size w w'
theorem planRd_bad {w w' : World} {bs : List UInt8} (z : Int) (hz : z ≠ 0) (h : rdPlE bs = z) (B : Bs w w') : PlanRd w bs (.tuple #[.agg #[.int .i64 0, .int .i64 0, .int .i64 0, .int .i64 0, .int .i64 0, .int .i64 0, .slice none 0 0, .int .i64 0, .int .i64 0, .int .i64 0, .slice none 0 0], .int .i64 z]) w' := by
  have e : rdPlan bs = zeroPl := by unfold rdPlan; rw [if_neg (by rw [h]; exact hz)]
  unfold PlanRd
  rw [e, h]
  exact ⟨⟨none, none, 0, 0, rfl, Rws.nil, Rws.nil, by decide, by decide, by decide, by decide⟩, B⟩
theorem keepG_nil' (gs : List Nat) (w : World) : KeepG gs w w := fun _ _ _ => rfl
set_option maxRecDepth 20000 in
theorem read_new (a : Option Addr) (c : Nat) (bs : List UInt8) (w : World) (h : RowAt w a (bs.map bV)) (hl : bs.length ≤ 100000000) :
    Calls Try.prog 16 #[.slice a bs.length c] w fun r w' => ∃ v, r = .returned v ∧ PlanRd w bs v w' := by
  refine GTarB.read_calls a bs.length c w (PlanRd w bs) ?_
  unfold GTarB.read_vc
  refine newB (Bs.refl w) fun g w2 g0 sg n2 z2 b2 B2 => (cRead_any a c bs w2 (h.below B2 (Nat.le_refl _)) hl).mono ?_
  rintro r w3 ⟨gr, L, rfl, hR3, hF, b3⟩
  have B3 := B2.to b3
  have b3s := b3.size
  have hu := hR3.under
  refine ⟨keepG_below b3, _, rfl, newB B3 fun g2 w4 g02 sg2 n4 z4 b4 B4 => newB B4 fun g3 w5 g03 sg3 n5 z5 b5 B5 => ?_⟩
  have nL : ∀ x, w3.heap.size ≤ x → x ∉ L := fun x hx hm => by have := hu x hm; omega
  have gL : g ∉ L := fun hm => by have := hF g hm; omega
  have hFw : From w.heap.size L := fun k hk => by have := hF k hk; omega
  have R5 : RP w3 L w5 gr bs 0 := ((RP.start hR3).below b4).below b5
  have kg : ∀ x ∈ [g], x ∉ L := fun x hx => by rw [List.mem_singleton] at hx; subst hx; exact gL
  refine ⟨fun x wx => ∃ i : Nat, x = i ∧ i ≤ 3 ∧ RP w3 L wx gr (rd3 bs 0 i).1 (rd3 bs 0 i).2 ∧ Bk wx g2 #[up3 bs 0 i 0, up3 bs 0 i 1, up3 bs 0 i 2, .int .i64 0, .int .i64 0, .int .i64 0, .slice none 0 0, .int .i64 0, .int .i64 0, .int .i64 0, .slice none 0 0] 32 ∧ wx.heap[g3]? = w5.heap[g3]? ∧ w5.heap.size ≤ wx.heap.size, fun x _ => 3 - x.toNat, ⟨0, rfl, by omega, R5, Bk.keep (show Bk w4 g2 _ 32 from n4) (b5.block g2 (by omega)), rfl, by omega⟩, ?_⟩
  rintro x wx ⟨i, rfl, hi, hR, hB, h3, hsz⟩
  have hlen := rd3_len bs 0 i
  refine br_dec (fun hlt => ?_) fun hge => ?_
  · have hi3 : i < 3 := by omega
    refine ⟨by omega, by omega, some ⟨g2, i, none⟩, ?_, hR.uint 1099511627776 (by decide) (by decide) (by omega) kg fun w6 R6 f6 z6 => ⟨_, rfl, ?_⟩⟩
    · rw [Int.toNat_natCast, Nat.zero_add, Nat.mul_one, cell_of_row _ _ _ _ _ _ (h3.trans n5)]
      rcases lt3 hi3 with rfl | rfl | rfl <;> rfl
    have hB6 := hB.keep (f6.block g2 (by omega) (nL g2 (by omega)))
    refine stO_bk hB6 (by simp; omega) (fun x hx => by rw [List.mem_singleton] at hx; omega) fun w7 B7 f7 z7 => ?_
    rw [wr64 (by omega) (by omega)]
    refine ⟨⟨i + 1, by omega, by omega, ⟨R6.at'.fr f7 (fun k h1 h2 => by rw [List.mem_singleton] at h2; subst h2; exact nL _ (by omega) h1), R6.fr.trans f7 (fun k hk => by rw [List.mem_singleton] at hk; exact .inr (by omega)), R6.un⟩, ?_, ?_, by omega⟩, by dsimp only; omega⟩
    · have : (#[up3 bs 0 i 0, up3 bs 0 i 1, up3 bs 0 i 2, .int .i64 0, .int .i64 0, .int .i64 0, .slice none 0 0, .int .i64 0, .int .i64 0, .int .i64 0, .slice none 0 0] : Array Value).setIfInBounds i (.int .i64 (rdUint 1099511627776 (rd3 bs 0 i).1 (rd3 bs 0 i).2).1) = #[up3 bs 0 (i + 1) 0, up3 bs 0 (i + 1) 1, up3 bs 0 (i + 1) 2, .int .i64 0, .int .i64 0, .int .i64 0, .slice none 0 0, .int .i64 0, .int .i64 0, .int .i64 0, .slice none 0 0] := by
        rcases lt3 hi3 with rfl | rfl | rfl <;> rfl
      rw [← this]; exact B7
    · exact ((f7.block g3 (by omega) (by rw [List.mem_singleton]; omega)).trans (f6.block g3 (by omega) (nL g3 (by omega)))).trans h3
  obtain rfl : i = 3 := by omega
  have hE := rdPl_eq bs
  have v0 := rd3v_range bs 0 0
  have hup : ∀ j, j < 3 → up3 bs 0 3 j = .int .i64 (rd3v bs 0 j) := fun j hj => by unfold up3; rw [if_pos hj]
  rw [hup 0 (by omega), hup 1 (by omega), hup 2 (by omega)] at hB
  have hb1 := rdTar_bs (rd3 bs 0 3).1 (rd3 bs 0 3).2
  refine (take_new gr L _ _ wx hR.at' (by omega)).mono ?_
  rintro r w9 ⟨v, rfl, a1, c1, rfl, t1, R9, f9, l1⟩
  have z9 := f9.size
  have hb2 := rdTar_bs (rdTar (rd3 bs 0 3).1 (rd3 bs 0 3).2).2.1 (rdTar (rd3 bs 0 3).1 (rd3 bs 0 3).2).2.2
  generalize rdTar (rd3 bs 0 3).1 (rd3 bs 0 3).2 = q1 at *
  obtain ⟨T1, bs1, e1⟩ := q1
  dsimp only at *
  generalize rd3v bs 0 0 = d0 at *
  generalize rd3v bs 0 1 = d1 at *
  generalize rd3v bs 0 2 = d2 at *
  have R9' : RP w3 L w9 gr bs1 e1 := ⟨R9, hR.fr.trans f9 (Gr.refl _ _), hu⟩
  have hB9 := hB.keep (f9.block g2 (by omega) (nL g2 (by omega)))
  refine ⟨keepG_fr f9 kg, _, _, _, _, _, _, rfl, stO_bks hB9 (by simp) (fun x hx => by rw [List.mem_singleton] at hx; omega) fun w10 B10 f10 z10 => ?_⟩
  have R10 : RP w3 L w10 gr bs1 e1 := ⟨R9'.at'.fr f10 (fun k h1 h2 => by rw [List.mem_singleton] at h2; subst h2; exact nL _ (by omega) h1), R9'.fr.trans f10 (fun k hk => by rw [List.mem_singleton] at hk; exact .inr (by omega)), hu⟩
  have t10 : TsAt wx.heap.size w10 a1 T1.ts := t1.fr f10 (fun k hk => by rw [List.mem_singleton] at hk; omega)
  have fin : ∀ (wy : World) (P : Pl) (a2 : Option Addr) (c2 : Nat) (bs' : List UInt8) (e' : Int), RP w3 L wy gr bs' e' → bs'.length ≤ 100000000 → Bk wy g2 (plCellsV P a1 a2 c1 c2) 32 → TsAt wx.heap.size wy a1 P.base.ts → TsAt wx.heap.size wy a2 P.other.ts → P.base.ts.length ≤ 6 → P.other.ts.length ≤ 6 → (0 ≤ P.day ∧ P.day ≤ 9223372036854775807) → w5.heap.size ≤ wy.heap.size → rdPl bs = (P, bs', e') →
      Calls Try.prog 50 #[.pointer (some ⟨gr, 0, none⟩)] wy fun e_5 w_13 => KeepG [g] wy w_13 ∧
      ∃ (x35 : Int),
      e_5 = .returned (.int .i64 x35) ∧
      br (decide (x35 ≠ 0)) (
        ∀ w_14 : World, BoxSt g w_13 w_14 →
        PlanRd w bs (.tuple #[.agg #[.int .i64 0, .int .i64 0, .int .i64 0, .int .i64 0, .int .i64 0, .int .i64 0, .slice none 0 0, .int .i64 0, .int .i64 0, .int .i64 0, .slice none 0 0], .int .i64 2]) w_14
      ) (
        ∃ (x38_0 : Int) (x38_1 : Int) (x38_2 : Int) (x38_3 : Int) (x38_4 : Int) (x38_5 : Int) (a38_6 : Option Addr) (n38_6 : Nat) (c38_6 : Nat) (x38_7 : Int) (x38_8 : Int) (x38_9 : Int) (a38_10 : Option Addr) (n38_10 : Nat) (c38_10 : Nat),
        cellsAt w_13 g2 0 [.int .i64 x38_0, .int .i64 x38_1, .int .i64 x38_2, .int .i64 x38_3, .int .i64 x38_4, .int .i64 x38_5, .slice a38_6 n38_6 c38_6, .int .i64 x38_7, .int .i64 x38_8, .int .i64 x38_9, .slice a38_10 n38_10 c38_10] ∧
        Calls Try.prog 22 #[.agg #[.int .i64 x38_0, .int .i64 x38_1, .int .i64 x38_2, .int .i64 x38_3, .int .i64 x38_4, .int .i64 x38_5, .slice a38_6 n38_6 c38_6, .int .i64 x38_7, .int .i64 x38_8, .int .i64 x38_9, .slice a38_10 n38_10 c38_10]] w_13 fun e_6 w_15 => KeepG [g] w_13 w_15 ∧
        ∃ (x39 : Int),
        e_6 = .returned (.int .i64 x39) ∧
        br (decide (x39 ≠ 0)) (
          ∀ w_16 : World, BoxSt g w_15 w_16 →
          PlanRd w bs (.tuple #[.agg #[.int .i64 0, .int .i64 0, .int .i64 0, .int .i64 0, .int .i64 0, .int .i64 0, .slice none 0 0, .int .i64 0, .int .i64 0, .int .i64 0, .slice none 0 0], .int .i64 x39]) w_16
        ) (
          ∃ (x44_0 : Int) (x44_1 : Int) (x44_2 : Int) (x44_3 : Int) (x44_4 : Int) (x44_5 : Int) (a44_6 : Option Addr) (n44_6 : Nat) (c44_6 : Nat) (x44_7 : Int) (x44_8 : Int) (x44_9 : Int) (a44_10 : Option Addr) (n44_10 : Nat) (c44_10 : Nat),
          cellsAt w_15 g2 0 [.int .i64 x44_0, .int .i64 x44_1, .int .i64 x44_2, .int .i64 x44_3, .int .i64 x44_4, .int .i64 x44_5, .slice a44_6 n44_6 c44_6, .int .i64 x44_7, .int .i64 x44_8, .int .i64 x44_9, .slice a44_10 n44_10 c44_10] ∧
          ∀ w_17 : World, BoxSt g w_15 w_17 →
          PlanRd w bs (.tuple #[.agg #[.int .i64 x44_0, .int .i64 x44_1, .int .i64 x44_2, .int .i64 x44_3, .int .i64 x44_4, .int .i64 x44_5, .slice a44_6 n44_6 c44_6, .int .i64 x44_7, .int .i64 x44_8, .int .i64 x44_9, .slice a44_10 n44_10 c44_10], .int .i64 0]) w_17
        )
      ) := by
    intro wy P a2 c2 bs' e' Ry hly By ta tb la lb hd hsy hq
    have BB := Ry.old B3 hFw
    refine (rEnd_any gr bs' e' L wy Ry.at' hly).mono ?_
    rintro r w13 ⟨rfl, rfl⟩
    have hcc : ∀ {wz : World}, Bk wz g2 (plCellsV P a1 a2 c1 c2) 32 → cellsAt wz g2 0 [.int .i64 P.day, .int .i64 P.frm, .int .i64 P.til, .int .i64 P.base.grp, .int .i64 P.base.mode, .int .i64 P.base.block, .slice a1 P.base.ts.length c1, .int .i64 P.other.grp, .int .i64 P.other.mode, .int .i64 P.other.block, .slice a2 P.other.ts.length c2] := fun hz => cellsAt_row hz (by simp [plCellsV])
    have hEE : rdPlE bs = if rdEnd bs' e' ≠ 0 then 2 else planE P := by unfold rdPlE; rw [hq]
    refine ⟨keepG_nil' _ _, _, rfl, br_dec (fun k => boxB BB g0 fun w14 h14 B14 _ => planRd_bad 2 (by decide) (by rw [hEE, if_pos k]) B14) fun k => ⟨_, _, _, _, _, _, _, _, _, _, _, _, _, _, _, hcc By, ?_⟩⟩
    rw [if_neg k] at hEE
    have hpA : PlAt w13 P a1 a2 := ⟨ta.low (Nat.zero_le _), tb.low (Nat.zero_le _), by omega, by omega⟩
    refine callB BB (cplan_ret P a1 a2 c1 c2 w13 hpA (by omega) (by omega)) fun w15 b15 B15 => ⟨_, rfl, br_dec (fun k1 => boxB B15 g0 fun w16 h16 B16 _ => planRd_bad (planE P) k1 hEE B16) fun k1 => ⟨_, _, _, _, _, _, _, _, _, _, _, _, _, _, _, hcc (By.keep (b15.block g2 (by omega))), boxB B15 g0 fun w17 h17 B17 _ => ?_⟩⟩
    have hp0 : rdPlE bs = 0 := by rw [hEE]; exact Decidable.not_not.1 k1
    have hP : rdPlan bs = P := by unfold rdPlan; rw [if_pos hp0, hq]
    unfold PlanRd
    rw [hP, hp0]
    exact ⟨⟨a1, a2, c1, c2, rfl, ((ta.below b15).box h17 (by omega)).low (by omega), ((tb.below b15).box h17 (by omega)).low (by omega), la, lb, hd⟩, B17⟩
  have hset : (setL #[Value.int .i64 d0, .int .i64 d1, .int .i64 d2, .int .i64 0, .int .i64 0, .int .i64 0, .slice none 0 0, .int .i64 0, .int .i64 0, .int .i64 0, .slice none 0 0].toList 3 [.int .i64 T1.grp, .int .i64 T1.mode, .int .i64 T1.block, .slice a1 T1.ts.length c1]).toArray = #[Value.int .i64 d0, .int .i64 d1, .int .i64 d2, .int .i64 T1.grp, .int .i64 T1.mode, .int .i64 T1.block, .slice a1 T1.ts.length c1, .int .i64 0, .int .i64 0, .int .i64 0, .slice none 0 0] := rfl
  rw [hset] at B10
  refine ⟨d0, by rw [B10.cell]; rfl, br_dec (fun hd => ?_) fun hd => ?_⟩
  · rw [if_pos hd] at hE
    refine (take_new gr L _ _ w10 R10.at' (by omega)).mono ?_
    rintro r w11 ⟨v, rfl, a2, c2, rfl, t2, R11, f11, l2⟩
    have z11 := f11.size
    generalize rdTar bs1 e1 = q2 at *
    obtain ⟨T2, bs2, e2⟩ := q2
    dsimp only at *
    have B11 := B10.keep (f11.block g2 (by omega) (nL g2 (by omega)))
    have t11 := t10.fr f11 fun k hk => by have := hu k hk; omega
    refine ⟨keepG_fr f11 kg, _, _, _, _, _, _, rfl, stO_bks B11 (by simp) (fun x hx => by rw [List.mem_singleton] at hx; omega) fun w12 B12 f12 z12 => ?_⟩
    refine fin w12 ⟨d0, d1, d2, T1, T2⟩ a2 c2 bs2 e2 ⟨R11.fr f12 (fun k h1 h2 => by rw [List.mem_singleton] at h2; subst h2; exact nL _ (by omega) h1), (R10.fr.trans f11 (Gr.refl _ _)).trans f12 (fun k hk => by rw [List.mem_singleton] at hk; exact .inr (by omega)), hu⟩ (by omega) B12 (t11.fr f12 fun k hk => by rw [List.mem_singleton] at hk; omega) ((t2.fr f12 fun k hk => by rw [List.mem_singleton] at hk; omega).low (by omega)) l1 l2 v0 (by omega) hE
  · rw [if_neg hd] at hE
    exact fin w10 ⟨d0, d1, d2, T1, ⟨0, 0, 0, []⟩⟩ none 0 bs1 e1 R10 (by omega) B10 t10 Rws.nil l1 (by simp) v0 (by omega) hE
end Go.Proofs.Ytecmpjccdhmeeaa
end
section
/- A plan is read by the document; the plans that come in; walked. -/
namespace Go.Proofs.Ytecmpjccdhmeeaa
open Go.RowKit
/-- Since w0 only the document's reader, and new blocks, have turned. -/
structure FP (w0 w : World) (g : Nat) (bs : List UInt8) (e : Int) : Prop where
  at' : RfAt w g bs e
  fr : Fr [g] w0 w
  lt : g < w0.heap.size
section
variable {w0 w w1 w2 : World} {g : Nat} {bs : List UInt8} {e : Int}
theorem FP.start (h : RfAt w g bs e) : FP w w g bs e := ⟨h, Fr.refl _ _, Bk.lt h⟩
theorem FP.below (h : FP w0 w g bs e) (b : Below w.heap.size w w1) : FP w0 w1 g bs e := ⟨Bk.keep h.at' (b.block g (Bk.lt h.at')), h.fr.trans (Fr.ofBelow (L := [g]) b) (Gr.refl _ _), h.lt⟩
theorem FP.box (h : FP w0 w g bs e) {x : Nat} (hx : BoxSt x w w1) (hz : w0.heap.size ≤ x) : FP w0 w1 g bs e :=
  ⟨Bk.keep h.at' (hx.1.block g (Bk.lt h.at') (by rw [List.mem_singleton]; have := h.lt; omega)), h.fr.trans hx.1 (fun k hk => by rw [List.mem_singleton] at hk; exact .inr (by omega)), h.lt⟩
theorem FP.uint (h : FP w0 w g bs e) {gs : List Nat} {R : Ending → World → Prop} (most : Int) (hm : most ≤ 9223372036854775807) (hm2 : 0 ≤ most) (hl : bs.length ≤ 100000000) (hg : ∀ x ∈ gs, x ≠ g)
    (k : ∀ w1, FP w0 w1 g (rdUint most bs e).2.1 (rdUint most bs e).2.2 → Fr [g] w w1 → w1.heap.size = w.heap.size → R (.returned (.int .i64 (rdUint most bs e).1)) w1) :
    Calls Try.prog 54 #[.pointer (some ⟨g, 0, none⟩), .int .i64 most] w fun r w1 => KeepG gs w w1 ∧ R r w1 :=
  (fRuint_any g most hm (by omega) bs e w h.at' hl).mono (by
    rintro r w1 ⟨rfl, h1, f1, z1⟩
    exact ⟨keepG_fr f1 fun x hx hm => hg x hx (by simpa using hm), k w1 ⟨h1, h.fr.trans f1 (Gr.refl _ _), h.lt⟩ f1 z1⟩)
end
theorem rdTs_add (s : RdT) (i : Nat) : ∀ k, rdTs s (i + k) = rdTs (rdTs s i) k
  | 0 => rfl
  | k + 1 => by show rdTr (rdTs s (i + k)) = rdTr (rdTs (rdTs s i) k); rw [rdTs_add s i k]
def TakeF (w : World) (gr : Nat) (bs : List UInt8) (e : Int) (v : Value) (w' : World) : Prop :=
  ∃ (t : Tar) (a : Option Addr) (c : Nat), v = tarV t a c ∧ TsAt w.heap.size w' a t.ts ∧ RfAt w' gr (rdTar bs e).2.1 (rdTar bs e).2.2 ∧ Fr [gr] w w' ∧ t.ts.length ≤ 6 ∧ ((rdTar bs e).2.2 = 0 → t = (rdTar bs e).1)
set_option maxRecDepth 20000 in
theorem rtake_new (gr : Nat) (bs : List UInt8) (e : Int) (w : World) (h : RfAt w gr bs e) (hl : bs.length ≤ 100000000) :
    Calls Try.prog 55 #[.pointer (some ⟨gr, 0, none⟩)] w fun r w' => ∃ v, r = .returned v ∧ TakeF w gr bs e v w' := by
  refine GTarB.rtake_calls (some ⟨gr, 0, none⟩) w (TakeF w gr bs e) ?_
  unfold GTarB.rtake_vc
  have hE := rdTar_eq bs e
  have hg0 := Bk.lt h
  have r1 := rd3_len bs e 1
  have r2 := rd3_len bs e 2
  have r3 := rd3_len bs e 3
  have ne : ∀ x, w.heap.size ≤ x → x ≠ gr := fun x hx => by omega
  refine newO_in fun w2 n2 b2 s2 => ((FP.start h).below b2).uint 1099511627776 (by decide) (by decide) hl (fun x hx => by rw [List.mem_singleton] at hx; subst hx; exact ne _ (by omega)) fun w3 R3 f3 z3 => ⟨_, rfl, newO_in fun w4 n4 b4 s4 w5 h5 => ?_⟩
  have z5 := h5.2
  refine ((R3.below b4).box h5 (by omega)).uint 1099511627776 (by decide) (by decide) (Nat.le_trans r1 hl) (fun x hx => by simp only [List.mem_cons, List.not_mem_nil, or_false] at hx; exact ne _ (by omega)) fun w6 R6 f6 z6 => ⟨_, rfl, fun w7 h7 => ?_⟩
  have z7 := h7.2
  refine (R6.box h7 (by omega)).uint 1099511627776 (by decide) (by decide) (Nat.le_trans r2 hl) (fun x hx => by simp only [List.mem_cons, List.not_mem_nil, or_false] at hx; exact ne _ (by omega)) fun w8 R8 f8 z8 => ⟨_, rfl, fun w9 h9 => ?_⟩
  have z9 := h9.2
  refine (R8.box h9 (by omega)).uint 6 (by decide) (by decide) (Nat.le_trans r3 hl) (fun x hx => by simp only [List.mem_cons, List.not_mem_nil, or_false] at hx; exact ne _ (by omega)) fun w10 R10 f10 z10 => ⟨_, rfl, ?_⟩
  have e0 : (rdUint 1099511627776 bs e).1 = rd3v bs e 0 := rfl
  have e1 : (rdUint 1099511627776 (rdUint 1099511627776 bs e).2.1 (rdUint 1099511627776 bs e).2.2).1 = rd3v bs e 1 := rfl
  have e2 : (rdUint 1099511627776 (rdUint 1099511627776 (rdUint 1099511627776 bs e).2.1 (rdUint 1099511627776 bs e).2.2).2.1 (rdUint 1099511627776 (rdUint 1099511627776 bs e).2.1 (rdUint 1099511627776 bs e).2.2).2.2).1 = rd3v bs e 2 := rfl
  rw [e0, e1, e2]
  change FP w w10 gr (rdUint 6 (rd3 bs e 3).1 (rd3 bs e 3).2).2.1 (rdUint 6 (rd3 bs e 3).1 (rd3 bs e 3).2).2.2 at R10
  have hn := rdUint_range 6 (rd3 bs e 3).1 (rd3 bs e 3).2
  have hn6 := uint_le (most := 6) (bs := (rd3 bs e 3).1) (e := (rd3 bs e 3).2) (by decide)
  have hnl := rdLenU 6 (rd3 bs e 3).1 (rd3 bs e 3).2
  have en : (rdUint 6 (rdUint 1099511627776 (rdUint 1099511627776 (rdUint 1099511627776 bs e).2.1 (rdUint 1099511627776 bs e).2.2).2.1 (rdUint 1099511627776 (rdUint 1099511627776 bs e).2.1 (rdUint 1099511627776 bs e).2.2).2.2).2.1 (rdUint 1099511627776 (rdUint 1099511627776 (rdUint 1099511627776 bs e).2.1 (rdUint 1099511627776 bs e).2.2).2.1 (rdUint 1099511627776 (rdUint 1099511627776 bs e).2.1 (rdUint 1099511627776 bs e).2.2).2.2).2.2).1 = (rdUint 6 (rd3 bs e 3).1 (rd3 bs e 3).2).1 := rfl
  rw [en]
  clear e0 e1 e2 en
  generalize rdUint 6 (rd3 bs e 3).1 (rd3 bs e 3).2 = q at *
  obtain ⟨n, qb, qe⟩ := q
  dsimp only at *
  have hts := rdTs_len ⟨[], qb, qe⟩
  have htb := rdTs_bs ⟨[], qb, qe⟩
  have hbs0 : (⟨[], qb, qe⟩ : RdT).bs.length = qb.length := rfl
  have hs0 : (⟨[], qb, qe⟩ : RdT).ts.length = 0 := rfl
  have R10 : FP w w10 gr (⟨[], qb, qe⟩ : RdT).bs (⟨[], qb, qe⟩ : RdT).e := R10
  generalize (⟨[], qb, qe⟩ : RdT) = s0 at *
  refine ⟨fun x x0 x1 x2 a3 n3 c3 wx => ∃ i : Nat, x = i ∧ (i : Int) ≤ n ∧ x0 = rd3v bs e 0 ∧ x1 = rd3v bs e 1 ∧ x2 = rd3v bs e 2 ∧ n3 = i ∧ FP w wx gr (rdTs s0 i).bs (rdTs s0 i).e ∧ Own wx w10.heap.size 120 2 (.slice a3 i c3) i ((rdTs s0 i).ts.flatMap trCells) ∧ w10.heap.size ≤ wx.heap.size, fun x _ _ _ _ _ _ _ => n.toNat - x.toNat, ?_, ?_⟩
  · refine ⟨0, rfl, by omega, rfl, rfl, rfl, rfl, R10, ?_, by omega⟩
    rw [show (rdTs s0 0).ts = [] from List.length_eq_zero_iff.1 (by rw [hts 0, hs0])]
    exact Own.nil _ _ _ _
  rintro x x0 x1 x2 a3 n3 c3 wx ⟨i, rfl, hi, rfl, rfl, rfl, rfl, hR, hO, hsz⟩
  have hti : (rdTs s0 n3).ts.length = n3 := by rw [hts n3, hs0]; omega
  have klt := fun k hk => hO.lt k hk
  have fin : (n3 : Int) = n ∨ (rdTs s0 n3).e ≠ 0 → ∀ w20, BoxSt w.heap.size wx w20 → TakeF w gr bs e (.agg #[.int .i64 (rd3v bs e 0), .int .i64 (rd3v bs e 1), .int .i64 (rd3v bs e 2), .slice a3 n3 c3]) w20 := by
    intro hor w20 h20
    have R20 := hR.box h20 (Nat.le_refl _)
    have O20 := hO.box h20 fun k hk => by have := (klt k hk).1; omega
    have hst : (rdTs s0 n.toNat).e = (rdTs s0 n3).e ∧ (rdTs s0 n.toNat).bs = (rdTs s0 n3).bs := by
      rcases hor with q | q
      · rw [show n.toNat = n3 by omega]; exact ⟨rfl, rfl⟩
      · rw [show n.toNat = n3 + (n.toNat - n3) by omega, rdTs_add]; exact rdTs_dead q _
    refine ⟨⟨rd3v bs e 0, rd3v bs e 1, rd3v bs e 2, (rdTs s0 n3).ts⟩, a3, c3, ?_, (Rws.ofOwn (by decide) tr_len O20).low (by omega), ?_, R20.fr, ?_, fun h0 => ?_⟩
    · unfold tarV; dsimp only; rw [hti]
    · rw [hE]; show RfAt _ _ (rdTs s0 n.toNat).bs (rdTs s0 n.toNat).e; rw [hst.1, hst.2]; exact R20.at'
    · show (rdTs s0 n3).ts.length ≤ 6; omega
    · rw [hE] at h0 ⊢
      have h0 : (rdTs s0 n.toNat).e = 0 := h0
      rw [hst.1] at h0
      rcases hor with q | q
      · dsimp only; rw [show n.toNat = n3 by omega]
      · exact absurd h0 q
  refine br_dec (fun hlt => ⟨_, RfAt.c1 hR.at', br_dec (fun he0 => ?_) fun he0 => fin (.inr he0)⟩) fun hge => fin (.inl (by omega))
  have hbl := htb n3
  have hR1 := rdLenU 1099511627776 (rdTs s0 n3).bs (rdTs s0 n3).e
  refine hR.uint 1099511627776 (by decide) (by decide) (by omega) (fun x hx => by simp only [List.mem_cons, List.not_mem_nil, or_false] at hx; exact ne _ (by omega)) fun w12 R12 f12 z12 => ⟨_, rfl, newO_in fun w13 n13 b13 s13 w14 h14 => ?_⟩
  have z14 := h14.2
  refine ((R12.below b13).box h14 (by omega)).uint 1099511627776 (by decide) (by decide) (by omega) (fun x hx => by simp only [List.mem_cons, List.not_mem_nil, or_false] at hx; exact ne _ (by omega)) fun w15 R15 f15 z15 => ⟨_, rfl, fun w16 h16 => newO_in fun w17 n17 b17 s17 => ?_⟩
  have z16 := h16.2
  have kO : ∀ k ∈ [gr], k < w10.heap.size := fun k hk => by rw [List.mem_singleton] at hk; omega
  have O16 : Own w16 w10.heap.size 120 2 (.slice a3 n3 c3) n3 ((rdTs s0 n3).ts.flatMap trCells) := (own_fr ((own_fr hO f12 kO).newbox b13 rfl h14) f15 kO).box h16 fun k hk => by have := (klt k hk).2; omega
  have O17 := O16.below b17 (Nat.le_refl _)
  have R17 := (R15.box h16 (by omega)).below b17
  refine ⟨1, _, _, O17.base_le fun _ _ => Nat.zero_le _, src_block (n := 1) (size := 2) Try.underlying22 n17 rfl rfl, by unfold maxLen; omega, by omega, fun x hx e => ?_, fun a' c' w18 o18 g18 or18 _ w19 h19 => ?_⟩
  · have := klt _ e
    simp only [List.mem_cons, List.not_mem_nil, or_false] at hx
    omega
  have z18 := g18.size
  have o18' : Own w18 w10.heap.size 120 2 (.slice a' (n3 + 1) c') (n3 + 1) ((rdTs s0 n3).ts.flatMap trCells ++ trCells ⟨(rdUint 1099511627776 (rdTs s0 n3).bs (rdTs s0 n3).e).1, (rdUint 1099511627776 (rdUint 1099511627776 (rdTs s0 n3).bs (rdTs s0 n3).e).2.1 (rdUint 1099511627776 (rdTs s0 n3).bs (rdTs s0 n3).e).2.2).1⟩) := o18.base_le fun k hk => by
    rcases or18 with q | ⟨y, q, hy⟩
    · rw [q] at hk; exact (klt k hk).1
    · rw [q] at hk; injection hk with hk; omega
  have R18 : FP w w18 gr (rdTs s0 (n3 + 1)).bs (rdTs s0 (n3 + 1)).e := ⟨Bk.keep R17.at' (g18.block gr (by omega) fun h => by have := klt gr h.symm; omega), R17.fr.grown g18 fun k hk => .inr (by have := klt k hk; omega), hg0⟩
  have z19 := h19.2
  rw [wr64 (by omega) (by omega)]
  refine ⟨⟨n3 + 1, by omega, by omega, rfl, rfl, rfl, rfl, R18.box h19 (by omega), ?_, by omega⟩, by dsimp only; omega⟩
  have ho := o18'.box h19 fun k hk => by have := (o18'.lt k hk).1; omega
  have : (rdTs s0 (n3 + 1)).ts = (rdTs s0 n3).ts ++ [⟨(rdUint 1099511627776 (rdTs s0 n3).bs (rdTs s0 n3).e).1, (rdUint 1099511627776 (rdUint 1099511627776 (rdTs s0 n3).bs (rdTs s0 n3).e).2.1 (rdUint 1099511627776 (rdTs s0 n3).bs (rdTs s0 n3).e).2.2).1⟩] := rfl
  rw [this, List.flatMap_append]
  simpa using ho
end Go.Proofs.Ytecmpjccdhmeeaa
end
section
/- A plan is read by the document, whole; walked. -/
namespace Go.Proofs.Ytecmpjccdhmeeaa
open Go.RowKit
theorem rdTar_dead {bs : List UInt8} {e : Int} (h : (rdTar bs e).2.2 = 0) : e = 0 := (un_tar h).1
set_option maxRecDepth 20000 in
theorem rread_new (bs : List UInt8) (w : World) (hl : bs.length ≤ 100000000) :
    Calls Try.prog 20 #[.string (strOf bs)] w fun r w' => ∃ v, r = .returned v ∧ PlanRd w bs v w' := by
  refine GTarB.rread_calls (strOf bs) w (PlanRd w bs) ?_
  unfold GTarB.rread_vc
  refine newB (Bs.refl w) fun g w2 g0 sg n2 z2 b2 B2 => newB B2 fun g2 w3 g02 sg2 n3 z3 b3 B3 => ?_
  have F3 : FP w3 w3 g2 bs 0 := FP.start n3
  have ne : ∀ {x : Nat}, x ≠ g2 → x ≠ g2 := id
  have hFw : From w.heap.size [g2] := fun k hk => by rw [List.mem_singleton] at hk; omega
  have Bof : ∀ {wy : World} {b : List UInt8} {e : Int}, FP w3 wy g2 b e → Bs w wy := fun h => B3.trans (h.fr.below hFw B3.size)
  have r1 := rd3_len bs 0 1
  have r2 := rd3_len bs 0 2
  have r3 := rd3_len bs 0 3
  refine F3.uint 1099511627776 (by decide) (by decide) hl (fun x hx => by rw [List.mem_singleton] at hx; omega) fun w4 R4 f4 z4 => ⟨_, rfl, newO_in fun w5 n5 b5 s5 w6 h6 => ?_⟩
  have z6 := h6.2
  have gs3 : ∀ x ∈ [w4.heap.size, g], x ≠ g2 := fun x hx => by
    simp only [List.mem_cons, List.not_mem_nil, or_false] at hx
    omega
  refine ((R4.below b5).box h6 (by omega)).uint 1099511627776 (by decide) (by decide) (Nat.le_trans r1 hl) gs3 fun w7 R7 f7 z7 => ⟨_, rfl, fun w8 h8 => ?_⟩
  have z8 := h8.2
  refine (R7.box h8 (by omega)).uint 1099511627776 (by decide) (by decide) (Nat.le_trans r2 hl) gs3 fun w9 R9 f9 z9 => ⟨_, rfl, fun w10 h10 => ?_⟩
  have z10 := h10.2
  have R10 := R9.box h10 (by omega)
  have e0 : (rdUint 1099511627776 bs 0).1 = rd3v bs 0 0 := rfl
  have e1 : (rdUint 1099511627776 (rdUint 1099511627776 bs 0).2.1 (rdUint 1099511627776 bs 0).2.2).1 = rd3v bs 0 1 := rfl
  have e2 : (rdUint 1099511627776 (rdUint 1099511627776 (rdUint 1099511627776 bs 0).2.1 (rdUint 1099511627776 bs 0).2.2).2.1 (rdUint 1099511627776 (rdUint 1099511627776 bs 0).2.1 (rdUint 1099511627776 bs 0).2.2).2.2).1 = rd3v bs 0 2 := rfl
  rw [e0, e1, e2]
  change FP w3 w10 g2 (rd3 bs 0 3).1 (rd3 bs 0 3).2 at R10
  have hE := rdPl_eq bs
  have v0 := rd3v_range bs 0 0
  clear e0 e1 e2
  have hb1 := rdTar_bs (rd3 bs 0 3).1 (rd3 bs 0 3).2
  refine (rtake_new g2 _ _ w10 R10.at' (by omega)).mono ?_
  rintro r w11 ⟨v, rfl, t1, a1, c1, rfl, ta, R11, f11, l1, q1⟩
  have z11 := f11.size
  have hb2 := rdTar_bs (rdTar (rd3 bs 0 3).1 (rd3 bs 0 3).2).2.1 (rdTar (rd3 bs 0 3).1 (rd3 bs 0 3).2).2.2
  generalize rdTar (rd3 bs 0 3).1 (rd3 bs 0 3).2 = p1 at *
  obtain ⟨T1, bs1, e1⟩ := p1
  dsimp only at *
  generalize rd3v bs 0 0 = d0 at *
  generalize rd3v bs 0 1 = d1 at *
  generalize rd3v bs 0 2 = d2 at *
  have R11' : FP w3 w11 g2 bs1 e1 := ⟨R11, R10.fr.trans f11 (Gr.refl _ _), R10.lt⟩
  refine ⟨keepG_fr f11 (fun x hx hm => gs3 x hx (by simpa using hm)), _, _, _, _, _, _, rfl, fun w12 h12 => ?_⟩
  have z12 := h12.2
  have R12 := R11'.box h12 (by omega)
  have t12 := ta.box h12 (by omega)
  have fin : ∀ (wy : World) (P : Pl) (a2 : Option Addr) (c2 : Nat) (bs' : List UInt8) (e' : Int), FP w3 wy g2 bs' e' → TsAt w10.heap.size wy a1 P.base.ts → TsAt w10.heap.size wy a2 P.other.ts → P.base.ts.length ≤ 6 → P.other.ts.length ≤ 6 → (0 ≤ P.day ∧ P.day ≤ 9223372036854775807) → w5.heap.size ≤ wy.heap.size → (rdPl bs).2 = (bs', e') → (e' = 0 → (rdPl bs).1 = P) →
      Calls Try.prog 56 #[.pointer (some ⟨g2, 0, none⟩)] wy fun e_5 w_13 => KeepG [w4.heap.size, g] wy w_13 ∧
      ∃ (x35 : Int),
      e_5 = .returned (.int .i64 x35) ∧
      br (decide (x35 ≠ 0)) (
        ∀ w_14 : World, BoxSt g w_13 w_14 →
        PlanRd w bs (.tuple #[.agg #[.int .i64 0, .int .i64 0, .int .i64 0, .int .i64 0, .int .i64 0, .int .i64 0, .slice none 0 0, .int .i64 0, .int .i64 0, .int .i64 0, .slice none 0 0], .int .i64 2]) w_14
      ) (
        Calls Try.prog 14 #[planV P a1 c1 a2 c2] w_13 fun e_6 w_15 => KeepG [w4.heap.size, g] w_13 w_15 ∧
        ∃ (x39 : Int),
        e_6 = .returned (.int .i64 x39) ∧
        br (decide (x39 ≠ 0)) (
          ∀ w_16 : World, BoxSt g w_15 w_16 →
          PlanRd w bs (.tuple #[.agg #[.int .i64 0, .int .i64 0, .int .i64 0, .int .i64 0, .int .i64 0, .int .i64 0, .slice none 0 0, .int .i64 0, .int .i64 0, .int .i64 0, .slice none 0 0], .int .i64 x39]) w_16
        ) (
          ∀ w_17 : World, BoxSt g w_15 w_17 →
          PlanRd w bs (.tuple #[planV P a1 c1 a2 c2, .int .i64 0]) w_17
        )
      ) := by
    intro wy P a2 c2 bs' e' Ry ta tb la lb hd hsy hq hP
    have BB := Bof Ry
    refine (fRend_any g2 bs' e' wy Ry.at').mono ?_
    rintro r w13 ⟨rfl, rfl⟩
    have hEE : rdPlE bs = if rdEnd bs' e' ≠ 0 then 2 else planE (rdPl bs).1 := by unfold rdPlE; rw [hq]
    refine ⟨keepG_nil' _ _, _, rfl, br_dec (fun k => boxB BB g0 fun w14 h14 B14 _ => planRd_bad 2 (by decide) (by rw [hEE, if_pos k]) B14) fun k => ?_⟩
    have he' : e' = 0 := (end_zero (Decidable.not_not.1 k)).1
    rw [if_neg k, hP he'] at hEE
    have hpA : PlAt wy P a1 a2 := ⟨ta.low (Nat.zero_le _), tb.low (Nat.zero_le _), by omega, by omega⟩
    refine callB BB (r9cplan_ret P a1 a2 c1 c2 wy hpA) fun w15 b15 B15 => ⟨_, rfl, br_dec (fun k1 => boxB B15 g0 fun w16 h16 B16 _ => planRd_bad (planE P) k1 hEE B16) fun k1 => boxB B15 g0 fun w17 h17 B17 _ => ?_⟩
    have hp0 : rdPlE bs = 0 := by rw [hEE]; exact Decidable.not_not.1 k1
    have hPP : rdPlan bs = P := by unfold rdPlan; rw [if_pos hp0, hP he']
    unfold PlanRd
    rw [hPP, hp0]
    exact ⟨⟨a1, a2, c1, c2, rfl, ((ta.below b15).box h17 (by omega)).low (by omega), ((tb.below b15).box h17 (by omega)).low (by omega), la, lb, hd⟩, B17⟩
  refine br_dec (fun hd => ?_) fun hd => ?_
  · rw [if_pos hd] at hE
    refine (rtake_new g2 _ _ w12 R12.at' (by omega)).mono ?_
    rintro r w13 ⟨v, rfl, t2, a2, c2, rfl, tb, R13, f13, l2, q2⟩
    have z13 := f13.size
    have hde := @rdTar_dead bs1 e1
    generalize rdTar bs1 e1 = p2 at *
    obtain ⟨T2, bs2, e2⟩ := p2
    dsimp only at *
    refine ⟨keepG_fr f13 (fun x hx hm => gs3 x hx (by simpa using hm)), _, _, _, _, _, _, rfl, fun w14 h14 => ?_⟩
    have R14 : FP w3 w14 g2 bs2 e2 := FP.box ⟨R13, R12.fr.trans f13 (Gr.refl _ _), R12.lt⟩ h14 (by omega)
    have z14 := h14.2
    have t14 := (t12.fr f13 (fun k hk => by rw [List.mem_singleton] at hk; omega)).box h14 (by omega)
    refine fin w14 ⟨d0, d1, d2, t1, t2⟩ a2 c2 bs2 e2 R14 t14 ((tb.box h14 (by omega)).low (by omega)) l1 l2 v0 (by omega) (by rw [hE]) fun h0 => ?_
    rw [hE, q2 h0, q1 (hde h0)]
  · rw [if_neg hd] at hE
    refine fin w12 ⟨d0, d1, d2, t1, ⟨0, 0, 0, []⟩⟩ none 0 bs1 e1 R12 t12 Rws.nil l1 (by simp) v0 (by omega) (by rw [hE]) fun h0 => ?_
    rw [hE, q1 h0]
end Go.Proofs.Ytecmpjccdhmeeaa
end
section
/- What lines cost, by the document; the document's rate, worst and fit; walked. -/
namespace Go.Proofs.Ytecmpjccdhmeeaa
open Go.RowKit
def bigA (x0 x1 x2 x3 x4 x5 x6 x7 x8 x9 : Int) (b : Bool) : Value := .agg #[.int .u64 x0, .int .u64 x1, .int .u64 x2, .int .u64 x3, .int .u64 x4, .int .u64 x5, .int .u64 x6, .int .u64 x7, .int .u64 x8, .int .u64 x9, .bool b]
theorem small_lim {z : Int} (h : 0 ≤ z ∧ z ≤ 1152921504606846976) : z.natAbs < lim ∧ 2 * z.natAbs < lim ∧ z.natAbs < 2 ^ (32 * 5) := by
  have h1 : 2 * z.natAbs < 2 ^ 62 := by show _ < 4611686018427387904; omega
  refine ⟨lim_big (by decide) (Nat.lt_of_le_of_lt (by omega) h1), lim_big (by decide) h1, Nat.lt_of_lt_of_le (Nat.lt_of_le_of_lt (by omega) h1) (Nat.pow_le_pow_right (by omega) (by omega))⟩
set_option maxRecDepth 10000 in
theorem r10cost_ret (a : Option Addr) (c : Nat) (ls : List Ln) (w : World) (h : LsAt 0 w a ls) (ho : LsOk ls) : Calls Try.prog 37 #[.slice a ls.length c] w (Ret (.tuple #[.int .i64 (costOf ls), .bool true]) w) := by
  refine ret_in (GTar.rcost_calls a ls.length c w (fun u w' => u = .tuple #[.int .i64 (costOf ls), .bool true] ∧ Below w.heap.size w w') ?_)
  unfold GTar.rcost_vc
  have hl := ho.2
  refine callB (Bs.refl w) (rOf_any 0 w (by omega) (by omega)) fun w2 b2 B2 => ⟨_, _, _, _, _, _, _, _, _, _, _, rfl, newB B2 fun g w3 g0 sg n3 z3 b3 B3 => boxB B3 g0 fun w4 h4 B4 z4 => ?_⟩
  refine ⟨fun x x0 x1 x2 x3 x4 x5 x6 x7 x8 x9 b wx => ∃ i : Nat, x = i ∧ i ≤ ls.length ∧ bigA x0 x1 x2 x3 x4 x5 x6 x7 x8 x9 b = bigOf (costOf (ls.take i)) ∧ Bs w wx, fun x _ _ _ _ _ _ _ _ _ _ _ _ => ls.length - x.toNat, ⟨0, rfl, by omega, rfl, B4⟩, ?_⟩
  rintro x x0 x1 x2 x3 x4 x5 x6 x7 x8 x9 b wx ⟨i, rfl, hi, he, B⟩
  refine br_dec (fun hlt => ?_) fun hge => ?_
  · have hil : i < ls.length := by omega
    have hmem := List.getElem_mem hil
    have hp := ho.1 _ hmem
    have hf := prod_fits hp
    have htk : costOf (ls.take (i + 1)) = costOf (ls.take i) + ls[i].blocks * ls[i].price := by
      rw [List.take_add_one, List.getElem?_eq_getElem hil, costOf_app]
      simp [costOf]
    have hcf := cost_fits (ls := ls.take i) ⟨fun l hl => ho.1 l (List.mem_of_mem_take hl), by rw [List.length_take]; omega⟩
    rw [List.length_take] at hcf
    have hcs : 0 ≤ costOf (ls.take i) ∧ costOf (ls.take i) ≤ 1152921504606846976 := by omega
    have s1 := small_lim (z := ls[i].blocks * ls[i].price) (by omega)
    have s2 := small_lim hcs
    have sb := small_lim (z := ls[i].blocks) (by omega)
    have sp := small_lim (z := ls[i].price) (by omega)
    rw [wr64 (show -9223372036854775808 ≤ ((i : Nat) : Int) + 1 by omega) (by omega)]
    have fin : ∀ wy, Bs w wy → ∀ gs : List Nat, ∀ y0 y1 y2 y3 y4 y5 y6 y7 y8 y9 : Int, ∀ yb : Bool, bigA y0 y1 y2 y3 y4 y5 y6 y7 y8 y9 yb = bigOf (ls[i].blocks * ls[i].price) → Calls Try.prog 74 #[bigA y0 y1 y2 y3 y4 y5 y6 y7 y8 y9 yb] wy fun e w12 => KeepG gs wy w12 ∧ ∃ (x31 : Int) (b31 : Bool), e = .returned (.tuple #[.int .i64 x31, .bool b31]) ∧
        br (!b31) (Value.tuple #[.int .i64 0, .bool false] = .tuple #[.int .i64 (costOf ls), .bool true] ∧ Below w.heap.size w w12) (
          Calls Try.prog 75 #[bigA x0 x1 x2 x3 x4 x5 x6 x7 x8 x9 b, bigA y0 y1 y2 y3 y4 y5 y6 y7 y8 y9 yb] w12 fun e w13 => KeepG gs w12 w13 ∧ ∃ (z0 : Int) (z1 : Int) (z2 : Int) (z3 : Int) (z4 : Int) (z5 : Int) (z6 : Int) (z7 : Int) (z8 : Int) (z9 : Int) (zb : Bool), e = .returned (bigA z0 z1 z2 z3 z4 z5 z6 z7 z8 z9 zb) ∧
          ∀ w14, BoxSt g w13 w14 → (∃ j : Nat, ((i : Nat) : Int) + 1 = j ∧ j ≤ ls.length ∧ bigA z0 z1 z2 z3 z4 z5 z6 z7 z8 z9 zb = bigOf (costOf (ls.take j)) ∧ Bs w w14) ∧ ls.length - (((i : Nat) : Int) + 1).toNat < ls.length - ((i : Nat) : Int).toNat) := by
      intro wy By gs y0 y1 y2 y3 y4 y5 y6 y7 y8 y9 yb hy
      rw [hy, he]
      refine callB By (rIntZ_any _ s1.1 wy) fun w12 b12 B12 => ⟨_, _, congrArg Ending.returned (fitV_yes (by omega) (by omega)), br_f rfl (callB B12 (rPlus_any _ _ s2.2.1 s1.2.1 w12) fun w13 b13 B13 => ⟨_, _, _, _, _, _, _, _, _, _, _, rfl, boxB B13 g0 fun w14 h14 B14 z14 => ⟨⟨i + 1, by omega, by omega, ?_, B14⟩, by omega⟩⟩)⟩
      rw [htk]; rfl
    have hgOf1 : ∀ wy, Calls Try.prog 72 #[.int .i64 ls[i].blocks] wy (Ret (bigOf ls[i].blocks) wy) := fun wy => rOf_any _ wy (by omega) (by omega)
    have hgOf2 : ∀ wy, Calls Try.prog 72 #[.int .i64 ls[i].price] wy (Ret (bigOf ls[i].price) wy) := fun wy => rOf_any _ wy (by omega) (by omega)
    have hgT : ∀ wy, Calls Try.prog 73 #[bigOf ls[i].blocks, bigOf ls[i].price] wy (Ret (bigOf (ls[i].blocks * ls[i].price)) wy) := fun wy => rTimes_any _ _ sb.2.2 sp.2.2 wy
    clear s1 s2 sb sp hcs hcf hf
    refine drewB B fun w6 b6 B6 _ => ?_
    obtain ⟨b', off, rfl, hc⟩ := (h.below B6).get hil
    have c1 : ∀ {wy : World}, Below w6.heap.size w6 wy → wy.cell? ⟨b', off + ((i : Nat) : Int).toNat * 3 + 1, none⟩ = some (.int .i64 ls[i].blocks) := fun hb => by
      have k := cellsAt_get hc 1 _ rfl
      rw [Int.toNat_natCast, Nat.add_assoc]
      rw [Nat.add_assoc] at k
      rw [cell_keep (hb.block b' (block_lt_of_cell k))]
      exact k
    have c2 : ∀ {wy : World}, Below w6.heap.size w6 wy → wy.cell? ⟨b', off + ((i : Nat) : Int).toNat * 3 + 2, none⟩ = some (.int .i64 ls[i].price) := fun hb => by
      have k := cellsAt_get hc 2 _ rfl
      rw [Int.toNat_natCast, Nat.add_assoc]
      rw [Nat.add_assoc] at k
      rw [cell_keep (hb.block b' (block_lt_of_cell k))]
      exact k
    refine ⟨by omega, by omega, _, c1 (Below.refl _ _), by omega, by omega, _, c2 (Below.refl _ _), ⟨?_, ?_⟩⟩
    · refine callB B6 (hgOf1 w6) fun w7 b7 B7 => ⟨_, _, _, _, _, _, _, _, _, _, _, rfl, c2 b7, ⟨?_, ?_⟩⟩
      · refine callB B7 (hgOf2 w7) fun w8 b8 B8 => ⟨_, _, _, _, _, _, _, _, _, _, _, rfl, ⟨?_, ?_⟩⟩
        · exact callB B8 (hgT w8) fun w9 b9 B9 => ⟨_, _, _, _, _, _, _, _, _, _, _, rfl, newB B9 fun g' w10 g0' sg' n10 z10 b10 B10 => boxB B10 g0' fun w11 h11 B11 z11 => fin w11 B11 _ _ _ _ _ _ _ _ _ _ _ _ rfl⟩
        · exact newB B8 fun g' w10 g0' sg' n10 z10 b10 B10 => callB B10 (hgT w10) fun w9 b9 B9 => ⟨_, _, _, _, _, _, _, _, _, _, _, rfl, boxB B9 g0' fun w11 h11 B11 z11 => fin w11 B11 _ _ _ _ _ _ _ _ _ _ _ _ rfl⟩
      · exact newB B7 fun g' w10 g0' sg' n10 z10 b10 B10 => ⟨c2 (b7.trans (b10.mono b7.size)), callB B10 (hgOf2 w10) fun w8 b8 B8 => ⟨_, _, _, _, _, _, _, _, _, _, _, rfl, callB B8 (hgT w8) fun w9 b9 B9 => ⟨_, _, _, _, _, _, _, _, _, _, _, rfl, boxB B9 g0' fun w11 h11 B11 z11 => fin w11 B11 _ _ _ _ _ _ _ _ _ _ _ _ rfl⟩⟩⟩
    · exact newB B6 fun g' w10 g0' sg' n10 z10 b10 B10 => ⟨c1 b10, c2 b10, callB B10 (hgOf1 w10) fun w7 b7 B7 => ⟨_, _, _, _, _, _, _, _, _, _, _, rfl, c2 (b10.trans (b7.mono b10.size)), callB B7 (hgOf2 w7) fun w8 b8 B8 => ⟨_, _, _, _, _, _, _, _, _, _, _, rfl, callB B8 (hgT w8) fun w9 b9 B9 => ⟨_, _, _, _, _, _, _, _, _, _, _, rfl, boxB B9 g0' fun w11 h11 B11 z11 => fin w11 B11 _ _ _ _ _ _ _ _ _ _ _ _ rfl⟩⟩⟩⟩
  · obtain rfl : i = ls.length := by omega
    rw [List.take_length] at he
    have hcf := cost_fits ho
    have s2 := small_lim (z := costOf ls) (by omega)
    have hI := rIntZ_any (costOf ls) s2.1 wx
    rw [← he] at hI
    exact callB B hI fun w12 b12 B12 => ⟨_, _, congrArg Ending.returned (fitV_yes (by omega) (by omega)), rfl, B12⟩
theorem lsame_ret (a a2 : Option Addr) (c c2 : Nat) (ls : List Ln) (w : World) (h : LsAt 0 w a ls) (h2 : LsAt 0 w a2 ls) (hl : ls.length ≤ 1000) : Calls Try.prog 36 #[.slice a ls.length c, .slice a2 ls.length c2] w (Ret (.bool true) w) := by
  refine ret_in (GTar.rlsame_calls a ls.length c a2 ls.length c2 w (fun u w' => u = .bool true ∧ Below w.heap.size w w') ?_)
  unfold GTar.rlsame_vc
  refine br_n (by omega) ⟨fun x wx => ∃ i : Nat, x = i ∧ i ≤ ls.length ∧ Bs w wx, fun x _ => ls.length - x.toNat, ⟨0, rfl, by omega, Bs.refl _⟩, ?_⟩
  rintro x wx ⟨i, rfl, hi, B⟩
  refine br_dec (fun hlt => drewB B fun w3 b3 B3 _ => ?_) fun hge => ⟨rfl, B⟩
  have hil : i < ls.length := by omega
  obtain ⟨b, off, rfl, hc⟩ := (h.below B3).get hil
  obtain ⟨b', off', rfl, hc'⟩ := (h2.below B3).get hil
  refine ⟨by omega, by omega, ls[i].tier, ls[i].blocks, ls[i].price, by rw [Int.toNat_natCast]; exact hc, by omega, by omega, ls[i].tier, ls[i].blocks, ls[i].price, by rw [Int.toNat_natCast]; exact hc', br_f (by simp) ?_⟩
  rw [wr64 (by omega) (by omega)]
  exact ⟨⟨i + 1, by omega, by omega, B3⟩, by dsimp only; omega⟩
theorem dearT_app : ∀ (xs ys : List Tr), dearT (xs ++ ys) = max (dearT xs) (dearT ys)
  | [], ys => by have := dearT_nn ys; simp only [List.nil_append, dearT]; omega
  | x :: r, ys => by simp only [List.cons_append, dearT, dearT_app r ys]; omega
theorem rdear_ret (p : Pl) (a a2 : Option Addr) (c c2 : Nat) (w : World) (h : PlAt w p a a2) : Calls Try.prog 70 #[planV p a c a2 c2] w (Ret (.int .i64 (dear p)) w) := by
  refine ret_in (GTar.rdear_calls p.day p.frm p.til p.base.grp p.base.mode p.base.block a p.base.ts.length c p.other.grp p.other.mode p.other.block a2 p.other.ts.length c2 w (fun u w' => u = .int .i64 (dear p) ∧ Below w.heap.size w w') ?_)
  unfold GTar.rdear_vc
  have h1 := h.lb
  have h2 := h.lo
  refine newB (Bs.refl w) fun g w2 g0 sg n2 z2 b2 B2 => drewB B2 fun w3 b3 B3 _ => newB B3 fun g' w4 g0' sg' n4 z4 b4 B4 => ?_
  have b3s := b3.size
  have o4 : Own w4 w3.heap.size 120 2 (.slice (some ⟨g', 0, none⟩) 0 0) 0 [] := (own_empty 2 n4).base_le fun k hk => by simp [Value.ownBlock] at hk; omega
  refine appB B4 o4 B3.size (by omega) ((h.base.below B4).src (c := c) Try.underlying22 (by decide) tr_len tr_one) (by unfold maxLen; omega) (by omega) (fun x hx e => ?_) fun a5 c5 w5 o5 g5 B5 z5 => ?_
  · rw [List.mem_singleton] at hx; subst hx
    have := (o4.lt _ e).1
    omega
  refine appB B5 o5 B3.size (by omega) ((h.other.below B5).src (c := c2) Try.underlying22 (by decide) tr_len tr_one) (by unfold maxLen; omega) (by omega) (fun x hx e => ?_) fun a6 c6 w6 o6 g6 B6 z6 => ?_
  · rw [List.mem_singleton] at hx; subst hx
    have := (o5.lt _ e).1
    omega
  have hall : TsAt w3.heap.size w6 a6 (p.base.ts ++ p.other.ts) := Rws.ofOwn (by decide) tr_len (by rw [List.flatMap_append]; rw [List.nil_append] at o6; exact o6)
  have hlen : 0 + p.base.ts.length + p.other.ts.length = (p.base.ts ++ p.other.ts).length := by simp
  rw [hlen]
  have hdr : dear p = dearT (p.base.ts ++ p.other.ts) := by rw [dearT_app]; rfl
  rw [hdr]
  have hl : (p.base.ts ++ p.other.ts).length ≤ 2000 := by simp; omega
  generalize p.base.ts ++ p.other.ts = ts at *
  have nn := dearT_nn ts
  refine ⟨fun x y wx => ∃ i : Nat, y = i ∧ i ≤ ts.length ∧ dearT ts = max x (dearT (ts.drop i)) ∧ 0 ≤ x ∧ w6 = wx, fun _ y _ => ts.length - y.toNat, ⟨0, rfl, by omega, by simp; omega, by omega, rfl⟩, ?_⟩
  rintro x y wx ⟨i, rfl, hi, he, hx, rfl⟩
  refine br_dec (fun hlt => ?_) fun hge => ?_
  · have hil : i < ts.length := by omega
    obtain ⟨b, off, rfl, hc⟩ := hall.get hil
    rw [List.drop_eq_getElem_cons hil, dearT] at he
    refine ⟨by omega, by omega, ts[i].price, by rw [Int.toNat_natCast, Nat.add_assoc]; exact cellsAt_get hc 1 _ rfl, ?_⟩
    rw [wr64 (by omega) (by omega)]
    exact ⟨⟨i + 1, by omega, by omega, by omega, by omega, rfl⟩, by dsimp only; omega⟩
  · obtain rfl : i = ts.length := by omega
    refine ⟨?_, B6⟩
    rw [List.drop_length] at he
    congr 1
    simp only [dearT] at he
    omega
theorem rblocks_ret (n b : Int) (w : World) (hn : 0 ≤ n ∧ n ≤ 1073741824) (hb : 1 ≤ b ∧ b ≤ 1073741824) : Calls Try.prog 68 #[.int .i64 n, .int .i64 b] w (Ret (.tuple #[.int .i64 (blk n b), .bool true]) w) :=
  ret_same (rBlocks_any n b (by omega) (by omega) (by omega) (by omega) w _ (blkT_yes hn.1 hb.1).symm)
theorem rworst_ret (p : Pl) (a a2 : Option Addr) (c c2 : Nat) (n : Int) (w : World) (h : PlAt w p a a2) :
    Calls Try.prog 32 #[planV p a c a2 c2, .int .i64 n] w (Ret (.tuple #[.int .i64 (worstN p n), .int .i64 (worstE p n)]) w) := by
  refine ret_in (GTar.rworst_calls p.day p.frm p.til p.base.grp p.base.mode p.base.block a p.base.ts.length c p.other.grp p.other.mode p.other.block a2 p.other.ts.length c2 n w (fun u w' => u = .tuple #[.int .i64 (worstN p n), .int .i64 (worstE p n)] ∧ Below w.heap.size w w') ?_)
  unfold GTar.rworst_vc
  have bad : ∀ w', Below w.heap.size w w' → worstE p n = 1 → Value.tuple #[.int .i64 0, .int .i64 1] = .tuple #[.int .i64 (worstN p n), .int .i64 (worstE p n)] ∧ Below w.heap.size w w' := fun w' B hE => by
    unfold worstN
    rw [hE]
    exact ⟨rfl, B⟩
  refine newB (Bs.refl w) fun g w2 g0 sg n2 z2 b2 B2 => callB B2 (r9cplan_ret p a a2 c c2 w2 (h.to B2)) fun w3 b3 B3 => ⟨_, rfl, br_dec (fun h1 => bad _ B3 (by unfold worstE; rw [if_pos (.inl h1)])) fun h1 => br_dec (fun h2 => bad _ B3 (by unfold worstE; rw [if_pos (.inr (by omega))])) fun h2 => br_dec (fun h3 => bad _ B3 (by unfold worstE; rw [if_pos (.inr (by omega))])) fun h3 => ?_⟩
  have hp : planE p = 0 := Decidable.not_not.1 h1
  have hb := (chk_ok (plan_ok hp).1).1.2
  have hn : 0 ≤ n ∧ n ≤ 1073741824 := by omega
  refine callB B3 (rblocks_ret n p.base.block w3 hn hb) fun w5 b5 B5 => ⟨_, _, rfl, callB B5 (rdear_ret p a a2 c c2 w5 (h.to B5)) fun w6 b6 B6 => ⟨_, rfl, ?_, B6⟩⟩
  have hs := worst_small hp hn
  have hE : worstE p n = 0 := by unfold worstE; rw [if_neg (by omega)]
  unfold worstN
  rw [wr64 (by omega) (by omega), hE, if_pos rfl]
theorem rfit_ret (p : Pl) (a a2 : Option Addr) (c c2 : Nat) (cr want : Int) (w : World) (h : PlAt w p a a2) :
    Calls Try.prog 34 #[planV p a c a2 c2, .int .i64 cr, .int .i64 want] w (Ret (.tuple #[.int .i64 (fitU p cr want), .int .i64 (fitC p cr want), .int .i64 (fitE p cr want)]) w) := by
  refine ret_in (GTar.rfit_calls p.day p.frm p.til p.base.grp p.base.mode p.base.block a p.base.ts.length c p.other.grp p.other.mode p.other.block a2 p.other.ts.length c2 cr want w (fun u w' => u = .tuple #[.int .i64 (fitU p cr want), .int .i64 (fitC p cr want), .int .i64 (fitE p cr want)] ∧ Below w.heap.size w w') ?_)
  unfold GTar.rfit_vc
  have bad : ∀ w', Below w.heap.size w w' → fitE p cr want = 1 → Value.tuple #[.int .i64 0, .int .i64 0, .int .i64 1] = .tuple #[.int .i64 (fitU p cr want), .int .i64 (fitC p cr want), .int .i64 (fitE p cr want)] ∧ Below w.heap.size w w' := fun w' B hE => by
    unfold fitU fitC
    rw [hE]
    exact ⟨rfl, B⟩
  refine newB (Bs.refl w) fun g w2 g0 sg n2 z2 b2 B2 => callB B2 (r9cplan_ret p a a2 c c2 w2 (h.to B2)) fun w3 b3 B3 => ⟨_, rfl, br_dec (fun h1 => bad _ B3 (by unfold fitE; rw [if_pos (.inl h1)])) fun h1 => br_dec (fun h2 => bad _ B3 (by unfold fitE; rw [if_pos (.inr (by omega))])) fun h2 => br_dec (fun h3 => bad _ B3 (by unfold fitE; rw [if_pos (.inr (by omega))])) fun h3 => br_dec (fun h4 => bad _ B3 (by unfold fitE; rw [if_pos (.inr (by omega))])) fun h4 => ?_⟩
  have hp : planE p = 0 := Decidable.not_not.1 h1
  have hb := (chk_ok (plan_ok hp).1).1.2
  have hE : fitE p cr want = 0 := by unfold fitE; rw [if_neg (by omega)]
  have hU : fitU p cr want = fitN p.base.block (dear p) cr want := by unfold fitU; rw [if_pos hE]
  have hC : fitC p cr want = blk (fitU p cr want) p.base.block * dear p := by unfold fitC; rw [if_pos hE]
  have hdr := dear_plan hp
  have hnn := fitN_nn p.base.block (dear p) cr want (by omega) (by omega) (by omega)
  rw [← hU] at hnn
  refine ⟨fun lo hi wx => 0 ≤ lo ∧ lo ≤ fitU p cr want ∧ fitU p cr want ≤ hi ∧ hi ≤ want ∧ Bs w wx, fun lo hi _ => (hi - lo).toNat, ⟨by omega, by omega, by omega, by omega, B3⟩, ?_⟩
  rintro lo hi wx ⟨k0, k1, k2, k3, B⟩
  refine br_dec (fun hlt => ⟨by decide, ?_⟩) fun hge => ?_
  · rw [wr64 (show -9223372036854775808 ≤ hi - lo by omega) (by omega), wr64 (show -9223372036854775808 ≤ hi - lo + 1 by omega) (by omega), Int.tdiv_eq_ediv_of_nonneg (show 0 ≤ hi - lo + 1 by omega)]
    have m0 : lo < lo + (hi - lo + 1) / 2 ∧ lo + (hi - lo + 1) / 2 ≤ hi ∧ (hi - lo + 1) / 2 ≤ hi := by omega
    rw [wr64 (show -9223372036854775808 ≤ (hi - lo + 1) / 2 by omega) (by omega), wr64 (show -9223372036854775808 ≤ lo + (hi - lo + 1) / 2 by omega) (by omega)]
    generalize lo + (hi - lo + 1) / 2 = mid at *
    rw [wr64 (show -9223372036854775808 ≤ mid - 1 by omega) (by omega)]
    have hw : worstE p mid = 0 := by unfold worstE; rw [if_neg (by omega)]
    have hN : worstN p mid = blk mid p.base.block * dear p := by unfold worstN; rw [if_pos hw]
    have hle := fitN_le p.base.block (dear p) cr want mid (by omega) hdr.1 (by omega) (by omega) (by omega)
    rw [← hU] at hle
    refine callB B (rworst_ret p a a2 c c2 mid wx (h.to B)) fun w5 b5 B5 => ⟨_, _, rfl, br_dec (fun hc => ?_) fun hc => ?_⟩
    · rw [hN] at hc
      have := hle.1 hc
      exact ⟨⟨by omega, by omega, k2, k3, B5⟩, by dsimp only; omega⟩
    · rw [hN] at hc
      have : ¬ mid ≤ fitU p cr want := fun q => hc (hle.2 q)
      exact ⟨⟨k0, k1, by omega, by omega, B5⟩, by dsimp only; omega⟩
  · obtain rfl : lo = fitU p cr want := by omega
    refine callB B (rworst_ret p a a2 c c2 _ wx (h.to B)) fun w5 b5 B5 => ⟨_, _, rfl, ?_, B5⟩
    have hw : worstE p (fitU p cr want) = 0 := by unfold worstE; rw [if_neg (by omega)]
    unfold worstN
    rw [if_pos hw, hE, hC]
set_option maxRecDepth 10000 in
theorem rrate_new (p : Pl) (a a2 : Option Addr) (c c2 : Nat) (now pos n : Int) (w : World) (h : PlAt w p a a2) :
    Calls Try.prog 31 #[planV p a c a2 c2, .int .i64 now, .int .i64 pos, .int .i64 n] w fun e w' => (∃ a' c', e = .returned (.tuple #[rtdV (rateR p now pos n) a' c', .int .i64 (rateE p now pos n)]) ∧ LsAt w.heap.size w' a' (rateR p now pos n).ls) ∧ Below w.heap.size w w' := by
  refine (GTar.rrate_calls p.day p.frm p.til p.base.grp p.base.mode p.base.block a p.base.ts.length c p.other.grp p.other.mode p.other.block a2 p.other.ts.length c2 now pos n w (fun u w' => (∃ a' c', u = .tuple #[rtdV (rateR p now pos n) a' c', .int .i64 (rateE p now pos n)] ∧ LsAt w.heap.size w' a' (rateR p now pos n).ls) ∧ Below w.heap.size w w') ?_).mono (by rintro e w' ⟨v, rfl, ⟨a', c', rfl, h⟩, h2⟩; exact ⟨⟨a', c', rfl, h⟩, h2⟩)
  unfold GTar.rrate_vc
  have bad : ∀ w', Below w.heap.size w w' → rateE p now pos n = 1 → (∃ a' c', Value.tuple #[.agg #[.slice none 0 0, .int .i64 0, .int .i64 0, .int .i64 0], .int .i64 1] = .tuple #[rtdV (rateR p now pos n) a' c', .int .i64 (rateE p now pos n)] ∧ LsAt w.heap.size w' a' (rateR p now pos n).ls) ∧ Below w.heap.size w w' := fun w' B hE => by
    have hR : rateR p now pos n = ⟨[], 0, 0, 0⟩ := by unfold rateR; rw [if_neg (by rw [hE]; decide)]
    rw [hR, hE]
    exact ⟨⟨none, 0, rfl, Rws.nil⟩, B⟩
  refine newB (Bs.refl w) fun g w2 g0 sg n2 z2 b2 B2 => newB B2 fun g' w3 g0' sg' n3 z3 b3 B3 => callB B3 (r9cplan_ret p a a2 c c2 w3 (h.to B3)) fun w4 b4 B4 => ⟨_, rfl, br_dec (fun h1 => boxB B4 g0' fun w5 h5 B5 _ => bad _ B5 (by unfold rateE; rw [if_pos (.inl h1)])) fun h1 => ?_⟩
  refine br_dec (fun h2 => boxB B4 g0' fun w5 h5 B5 _ => bad _ B5 (by unfold rateE; rw [if_pos (.inr (.inl h2))])) fun h2 => br_dec (fun h3 => boxB B4 g0' fun w5 h5 B5 _ => bad _ B5 (by unfold rateE; rw [if_pos (.inr (.inr (.inl (by omega))))])) fun h3 => br_dec (fun h3 => boxB B4 g0' fun w5 h5 B5 _ => bad _ B5 (by unfold rateE; rw [if_pos (.inr (.inr (.inl (by omega))))])) fun h4 => ?_
  have hp : planE p = 0 := Decidable.not_not.1 h1
  obtain ⟨hat, hbl, _⟩ := at_ok hp now
  have hb := (chk_ok (plan_ok hp).1).1.2
  have hn : 0 ≤ n ∧ n ≤ 1073741824 := by omega
  have hRR : rateE p now pos n = 0 → rateR p now pos n = ⟨splitL (atT p now) pos (blk n p.base.block), blk n p.base.block, costOf (splitL (atT p now) pos (blk n p.base.block)), pos + blk n p.base.block⟩ := fun hE => by unfold rateR; rw [if_pos hE]
  have hbn := blk_nn n p.base.block (by omega) hn.1
  have hbs := blk_self n p.base.block (by omega) hn.1
  have hbb : 0 ≤ blk n p.base.block ∧ blk n p.base.block ≤ 1073741824 := ⟨hbn, Int.le_trans hbs hn.2⟩
  have hbk := fun wy => rblocks_ret n p.base.block wy hn hb
  have hso : posOk pos → ∀ tt : Tar, splitO tt pos (blk n p.base.block) = splitL tt pos (blk n p.base.block) := fun hpos tt => by unfold splitO; rw [if_pos hpos]
  have hE1 : posOk pos → rateE p now pos n = 0 := fun hpos => by
    have hno : ¬ (planE p ≠ 0 ∨ now < 0 ∨ ¬ (0 ≤ n ∧ n ≤ 1073741824) ∨ ¬ posOk pos) := fun k => k.elim (fun k => k hp) fun k => k.elim h2 fun k => k.elim (fun k => k hn) fun k => k hpos
    unfold rateE
    rw [if_neg hno]
  have hE0 : ¬ posOk pos → rateE p now pos n = 1 := fun k => by unfold rateE; rw [if_pos (.inr (.inr (.inr k)))]
  rw [← hbl] at hbk hbb hRR hso
  have b4s := b4.size
  refine newB B4 fun g3 w9 g0'' sg'' n9 z9 b9 B9 => boxB B9 g0'' fun w10 h10 B10 z10 => callB B10 (ris_ret p a a2 c c2 now w10) fun w11 b11 B11 => ⟨_, rfl, ?_⟩
  have b11s := b11.size
  have rest : ∀ (tt : Tar) (at' : Option Addr) (ct : Nat), tt = atT p now → (∀ wy, Bs w wy → TsAt 0 wy at' tt.ts) → ∀ wy, Bs w wy → w11.heap.size ≤ wy.heap.size → Calls Try.prog 68 #[.int .i64 n, .int .i64 tt.block] wy fun e_3 w_13 => KeepG [g3, g', g] wy w_13 ∧
            ∃ (x44_0 : Int) (b44_1 : Bool),
            e_3 = .returned (.tuple #[.int .i64 x44_0, .bool b44_1]) ∧
            Calls Try.prog 69 #[tarV tt at' ct, .int .i64 pos, .int .i64 x44_0] w_13 fun e_4 w_14 => KeepG [g3, g', g] w_13 w_14 ∧
            ∃ (a51_0 : Option Addr) (n51_0 : Nat) (c51_0 : Nat) (x51_1 : Int),
            e_4 = .returned (.tuple #[.slice a51_0 n51_0 c51_0, .int .i64 x51_1]) ∧
            br (decide (x51_1 ≠ 0)) (
              ∀ w_15 : World, BoxSt g' w_14 w_15 →
              (∃ a' c', Value.tuple #[.agg #[.slice none 0 0, .int .i64 0, .int .i64 0, .int .i64 0], .int .i64 1] = .tuple #[rtdV (rateR p now pos n) a' c', .int .i64 (rateE p now pos n)] ∧ LsAt w.heap.size w_15 a' (rateR p now pos n).ls) ∧ Below w.heap.size w w_15
            ) (
              Calls Try.prog 37 #[.slice a51_0 n51_0 c51_0] w_14 fun e_5 w_16 => KeepG [g3, g', g] w_14 w_16 ∧
              ∃ (x59_0 : Int) (b59_1 : Bool),
              e_5 = .returned (.tuple #[.int .i64 x59_0, .bool b59_1]) ∧
              ∀ w_17 : World, BoxSt g' w_16 w_17 →
              (∃ a' c', Value.tuple #[.agg #[.slice a51_0 n51_0 c51_0, .int .i64 x44_0, .int .i64 x59_0, .int .i64 (IntKind.i64.wrap (pos + x44_0))], .int .i64 0] = .tuple #[rtdV (rateR p now pos n) a' c', .int .i64 (rateE p now pos n)] ∧ LsAt w.heap.size w_17 a' (rateR p now pos n).ls) ∧ Below w.heap.size w w_17
            ) := by
    intro tt at' ct htt hts wy By hsz
    rw [← htt] at hbk hbb hRR hso hat
    generalize blk n tt.block = m at *
    refine callB By (hbk wy) fun w13 b13 B13 => ⟨_, _, rfl, callQ B13 (r10split_new tt at' ct pos m w13 (hts w13 B13) hat hbb) ?_⟩
    rintro e w14 ⟨a14, c14, rfl, h14⟩ b14 B14
    have b13s := b13.size
    refine ⟨_, _, _, _, rfl, br_dec (fun h5 => boxB B14 g0' fun w15 h15 B15 _ => bad _ B15 (hE0 fun k => h5 (by rw [if_pos k]))) fun h5 => ?_⟩
    have hpos : posOk pos := Decidable.byContradiction fun k => h5 (by rw [if_neg k]; decide)
    have hls := splitO_ok hat pos (n := m) hbb
    rw [hso hpos] at h14 hls ⊢
    rw [hRR (hE1 hpos), hE1 hpos]
    refine callB B14 (r10cost_ret a14 c14 _ w14 (h14.low (Nat.zero_le _)) hls) fun w16 b16 B16 => ⟨_, _, rfl, boxB B16 g0' fun w18 h18 B18 z18 => ⟨⟨a14, c14, ?_, ?_⟩, B18⟩⟩
    · rw [wr64 (by have := hpos.1; omega) (by have := hpos.2; omega)]
      rfl
    · exact ((h14.below b16).box h18 (by omega)).low (by omega)
  refine br_dec (fun ho => boxB B11 g0'' fun w12 h12 B12 z12 => ?_) fun ho => ?_
  · exact rest p.other a2 c2 (by unfold atT; rw [if_pos ho]) (fun wy By => h.other.below By) w12 B12 (by omega)
  · exact rest p.base a c (by unfold atT; rw [if_neg ho]) (fun wy By => h.base.below By) w11 B11 (by omega)
end Go.Proofs.Ytecmpjccdhmeeaa
end
section
/- Plans, tamed; what a rate comes to. -/
namespace Go.Proofs.Ytecmpjccdhmeeaa
open Go.RowKit
def tameT (t : Tar) : Tar := { t with ts := t.ts.take 9 }
def tameP (p : Pl) : Pl := { p with base := tameT p.base, other := tameT p.other }
theorem min9 (ts : List Tr) : (min ((ts.length : Nat) : Int) 9).toNat = (ts.take 9).length := by rw [List.length_take]; omega
theorem take9 (ts : List Tr) : (ts.take 9).length ≤ 9 := by rw [List.length_take]; omega
def DayIn (p : Pl) : Prop := -9223372036854775808 ≤ p.day ∧ p.day ≤ 9223372036854775807
theorem PlAt.box {w w1 : World} {p : Pl} {a a2 : Option Addr} {n g : Nat} (h1 : TsAt n w a p.base.ts) (h2 : TsAt n w a2 p.other.ts) (l1 : p.base.ts.length ≤ 1000) (l2 : p.other.ts.length ≤ 1000) (hb : BoxSt g w w1) (hg : g < n) : PlAt w1 p a a2 :=
  ⟨(h1.box hb hg).low (Nat.zero_le _), (h2.box hb hg).low (Nat.zero_le _), l1, l2⟩
def plan0 : Pl := ⟨0, 0, 0, ⟨1, 1, 10, [⟨0, 3⟩]⟩, ⟨0, 0, 0, []⟩⟩
theorem plan0_rate : rateE plan0 0 0 11 = 0 ∧ (rateR plan0 0 0 11).blocks = 2 ∧ (rateR plan0 0 0 11).cost = 6 ∧ (rateR plan0 0 0 11).pos = 2 ∧ fitE plan0 7 100 = 0 ∧ fitU plan0 7 100 = 20 ∧ fitC plan0 7 100 = 6 := by decide +kernel
theorem dearT_at {p : Pl} (now : Int) : dearT (atT p now).ts ≤ dear p := by
  unfold atT dear
  split <;> omega
theorem rateR_len (q : Pl) (now pos n : Int) : (rateR q now pos n).ls.length ≤ 1000 := by
  by_cases hE : rateE q now pos n = 0
  · obtain ⟨k1, k2, k3, k4⟩ := rateE_ok hE
    have hat := at_ok k1 now
    have hb := (chk_ok (plan_ok k1).1).1.2
    have := (splitL_ok hat.1 k4.1 (blk_nn n q.base.block (by omega) k3.1)).2.2
    unfold rateR
    rw [if_pos hE]
    exact Nat.le_trans this (by decide)
  · unfold rateR
    rw [if_neg hE]
    exact Nat.zero_le _
theorem rateR_yes {q : Pl} {now pos n : Int} (hE : rateE q now pos n = 0) : rateR q now pos n = ⟨splitL (atT q now) pos (blk n q.base.block), blk n q.base.block, costOf (splitL (atT q now) pos (blk n q.base.block)), pos + blk n q.base.block⟩ := by unfold rateR; rw [if_pos hE]
theorem rate_facts {q : Pl} {now pos n : Int} (hE : rateE q now pos n = 0) :
    LsOk (rateR q now pos n).ls ∧ (rateR q now pos n).cost = costOf (rateR q now pos n).ls ∧ 0 ≤ (rateR q now pos n).cost ∧ (rateR q now pos n).cost ≤ worstN q n ∧ (rateR q now pos n).pos = pos + (rateR q now pos n).blocks ∧ 0 ≤ (rateR q now pos n).blocks ∧ (rateR q now pos n).blocks ≤ 1073741824 ∧ worstE q n = 0 ∧ posOk pos := by
  obtain ⟨k1, k2, k3, k4⟩ := rateE_ok hE
  have hat := at_ok k1 now
  have hb := (chk_ok (plan_ok k1).1).1.2
  have hbn := blk_nn n q.base.block (by omega) k3.1
  have hbs := blk_self n q.base.block (by omega) k3.1
  have hc := splitL_cost hat.1 k4.1 hbn
  have hso : LsOk (splitL (atT q now) pos (blk n q.base.block)) := by
    have := splitO_ok hat.1 pos (n := blk n q.base.block) (by omega)
    unfold splitO at this
    rwa [if_pos k4] at this
  have hw : worstE q n = 0 := by unfold worstE; rw [if_neg (by omega)]
  have hd := Int.mul_le_mul_of_nonneg_left (dearT_at (p := q) now) hbn
  rw [rateR_yes hE]
  unfold worstN
  rw [if_pos hw]
  exact ⟨hso, rfl, hc.1, Int.le_trans hc.2 hd, rfl, hbn, by dsimp only; omega, hw, k4⟩
end Go.Proofs.Ytecmpjccdhmeeaa
end
section
/- The laws of the plans' bytes; walked. -/
namespace Go.Proofs.Ytecmpjccdhmeeaa
open Go.RowKit
set_option maxRecDepth 10000 in
theorem tame9_new (t : Tar) (a : Option Addr) (c : Nat) (w : World) (h1 : TsAt 0 w a t.ts) (l1 : t.ts.length ≤ c) :
    Calls Try.prog 39 #[tarV t a c] w fun e w' => (∃ a' c', e = .returned (tarV (tameT t) a' c') ∧ TsAt w.heap.size w' a' (tameT t).ts) ∧ Below w.heap.size w w' := by
  refine (GTarB.tame9_calls t.grp t.mode t.block a t.ts.length c w (fun u w' => (∃ a' c', u = tarV (tameT t) a' c' ∧ TsAt w.heap.size w' a' (tameT t).ts) ∧ Below w.heap.size w w') ?_).mono (by rintro e w' ⟨v, rfl, ⟨a', c', rfl, h⟩, h2⟩; exact ⟨⟨a', c', rfl, h⟩, h2⟩)
  unfold GTarB.tame9_vc
  have t1 := take9 t.ts
  refine newB (Bs.refl w) fun g w2 g0 sg n2 z2 b2 B2 => newB B2 fun g' w3 g0' sg' n3 z3 b3 B3 => newB B3 fun g4 w4 g04 sg4 n4 z4 b4 B4 => ⟨by omega, by omega, ?_⟩
  have o4 : Own w4 w3.heap.size 120 2 (.slice (some ⟨g4, 0, none⟩) 0 0) 0 [] := (own_empty 2 n4).base_le fun k hk => by simp [Value.ownBlock] at hk; omega
  have s4 := ((h1.below B4).take 9).src (c := c) Try.underlying22 (by decide) tr_len tr_one
  rw [min9]
  refine appB B4 o4 B3.size (by omega) s4 (by unfold maxLen; omega) (by omega) (fun x hx e => ?_) fun a5 c5 w5 o5 g5 B5 z5 => boxB B5 g0 fun w6 h6 B6 z6 => boxB B6 g0' fun w7 h7 B7 z7 => ?_
  · have := (o4.lt _ e).1
    simp at hx
    omega
  have f5 : TsAt w3.heap.size w5 a5 (t.ts.take 9) := Rws.ofOwn (by decide) tr_len (by rw [List.nil_append] at o5; exact o5)
  have f7 := (f5.box h6 (by omega)).box h7 (by omega)
  rw [Nat.zero_add]
  exact ⟨⟨a5, c5, rfl, f7.low (by omega)⟩, B7⟩
theorem both_new (p : Pl) (a a2 : Option Addr) (c c2 : Nat) (w : World) (h1 : TsAt 0 w a p.base.ts) (h2 : TsAt 0 w a2 p.other.ts) (l1 : p.base.ts.length ≤ c) (l2 : p.other.ts.length ≤ c2) :
    Calls Try.prog 11 #[planV p a c a2 c2] w fun e w' => (∃ a' c' b' d', e = .returned (planV (tameP p) a' c' b' d') ∧ TsAt w.heap.size w' a' (tameP p).base.ts ∧ TsAt w.heap.size w' b' (tameP p).other.ts) ∧ Below w.heap.size w w' := by
  refine (GTarB.both_calls p.day p.frm p.til p.base.grp p.base.mode p.base.block a p.base.ts.length c p.other.grp p.other.mode p.other.block a2 p.other.ts.length c2 w (fun u w' => (∃ a' c' b' d', u = planV (tameP p) a' c' b' d' ∧ TsAt w.heap.size w' a' (tameP p).base.ts ∧ TsAt w.heap.size w' b' (tameP p).other.ts) ∧ Below w.heap.size w w') ?_).mono (by rintro e w' ⟨v, rfl, ⟨a', c', b', d', rfl, h⟩, h2⟩; exact ⟨⟨a', c', b', d', rfl, h⟩, h2⟩)
  unfold GTarB.both_vc
  refine newB (Bs.refl w) fun g w2 g0 sg n2 z2 b2 B2 => newB B2 fun g' w3 g0' sg' n3 z3 b3 B3 => drewB B3 fun w4 b4 B4 _ => callQ B4 (tame9_new p.base a c w4 (h1.below B4) l1) ?_
  rintro e w5 ⟨a5, c5, rfl, k5⟩ b5 B5
  refine ⟨_, _, _, _, _, _, rfl, callQ B5 (tame9_new p.other a2 c2 w5 (h2.below B5) l2) ?_⟩
  rintro e w6 ⟨a6, c6, rfl, k6⟩ b6 B6
  have z4 := b4.size
  have z5 := b5.size
  refine ⟨_, _, _, _, _, _, rfl, boxB B6 g0 fun w7 h7 B7 z7 => boxB B7 g0 fun w8 h8 B8 z8 => boxB B8 g0' fun w9 h9 B9 z9 => ?_⟩
  exact ⟨⟨a5, c5, a6, c6, rfl, ((((k5.below b6).box h7 (by omega)).box h8 (by omega)).box h9 (by omega)).low (by omega), (((k6.box h7 (by omega)).box h8 (by omega)).box h9 (by omega)).low (by omega)⟩, B9⟩
set_option maxRecDepth 20000 in
theorem tback_walk (p : Pl) (a a2 : Option Addr) (c c2 : Nat) (w : World) (h1 : TsAt 0 w a p.base.ts) (h2 : TsAt 0 w a2 p.other.ts) (l1 : p.base.ts.length ≤ c) (l2 : p.other.ts.length ≤ c2) (hd : DayIn p) :
    Calls Try.prog 3 #[planV p a c a2 c2] w (Ret (.bool true) w) := by
  refine ret_in (GTarB.tback_calls p.day p.frm p.til p.base.grp p.base.mode p.base.block a p.base.ts.length c p.other.grp p.other.mode p.other.block a2 p.other.ts.length c2 w (fun u w' => u = .bool true ∧ Below w.heap.size w w') ?_)
  unfold GTarB.tback_vc
  refine newB (Bs.refl w) fun g w2 g0 sg n2 z2 b2 B2 => callQ B2 (both_new p a a2 c c2 w2 (h1.below B2) (h2.below B2) l1 l2) ?_
  rintro e w3 ⟨a', c', b', d', rfl, ta, tb⟩ b3 B3
  have t1 := take9 p.base.ts
  have t2 := take9 p.other.ts
  refine ⟨_, _, _, _, _, _, _, _, _, _, _, _, _, _, _, rfl, boxB B3 g0 fun w4 h4 B4 z4 => ?_⟩
  have hq : PlAt w4 (tameP p) a' b' := PlAt.box ta tb (by dsimp only [tameP, tameT]; omega) (by dsimp only [tameP, tameT]; omega) h4 (by omega)
  have hdq : -9223372036854775808 ≤ (tameP p).day ∧ (tameP p).day ≤ 9223372036854775807 := hd
  generalize tameP p = q at *
  refine callB (Bs.refl w4) (to9_ret q a' b' c' d' w4) fun w5 b5 B5 => ⟨_, _, _, _, _, _, _, _, _, _, _, _, _, _, _, rfl, callQ B5 (write_new q a' b' c' d' w5 (hq.to B5) hdq) ?_⟩
  rintro e w6 ⟨v, rfl, hW⟩ b6 B6
  by_cases hp : planE q = 0
  · obtain ⟨a7, c7, rfl, ho⟩ := hW.1 hp
    refine ⟨_, _, _, _, rfl, callB (Bs.refl w6) (r9cplan_ret q a' b' c' d' w6 (hq.to B6)) fun w7 b7 C7 => ⟨_, rfl, callB C7 (tariffs_ret w7) fun w8 b8 C8 => ⟨_, rfl, br_f rfl (br_n (by omega) (br_n (by omega) ?_))⟩⟩⟩
    have hlen := planB_len hp
    have hl : (planB q).length ≤ 100000000 := by omega
    refine (read_new a7 c7 (planB q) w8 (ho.row.below C8 (Nat.le_refl _)) hl).mono ?_
    rintro r w9 ⟨v, rfl, ⟨u, u2, e1, e2, rfl, k1, k2, k3, k4, k5⟩, b9⟩
    have C9 := C8.to b9
    obtain ⟨q1, q2⟩ := rd_back hp
    rw [q2] at k1 k2
    rw [q1, q2]
    have z9 := C9.size
    refine ⟨keepG_below b9, ⟨_, _, _, _, _, _, _, _, _, _, _, _, _, _, _, _, rfl, newB C9 fun g2 w10 g02 sg2 n10 z10 b10 C10 => boxB C10 g02 fun w11 h11 C11 z11 => drewB C11 fun w12 b12 C12 hh => ⟨planB q, rfl, ho.row.below C12 (Nat.le_refl _), callB C12 (rwrite_ret q a' b' c' d' w12 ((hq.to B6).to C12) hp) fun w13 b13 C13 => ⟨_, rfl, ho.row.below C13 (Nat.le_refl _), br_y rfl (br_y rfl ?_)⟩⟩⟩⟩
    have hr : PlAt w12 q u u2 := PlAt.to ⟨(k1.newbox b10 sg2 h11).low (Nat.zero_le _), (k2.newbox b10 sg2 h11).low (Nat.zero_le _), by rw [q2] at k3; omega, by rw [q2] at k4; omega⟩ b12
    refine callB C13 (from9_ret q u u2 e1 e2 w13) fun w14 b14 C14 => ⟨_, _, _, _, _, _, _, _, _, _, _, _, _, _, _, rfl, callB C14 (samep_ret q u u2 a' b' e1 e2 c' d' w14 ((hr.to b13).to b14) ((hq.to B6).to C14)) fun w15 b15 C15 => ⟨_, rfl, rfl, B4.to ((B6.to C15))⟩⟩
  · obtain rfl := hW.2 hp
    refine ⟨_, _, _, _, rfl, callB (Bs.refl w6) (r9cplan_ret q a' b' c' d' w6 (hq.to B6)) fun w7 b7 C7 => ⟨_, rfl, callB C7 (tariffs_ret w7) fun w8 b8 C8 => ⟨_, rfl, br_f rfl (br_n (fun k => k rfl) (br_y hp ⟨rfl, B4.to (B6.to C8)⟩))⟩⟩⟩
set_option maxRecDepth 20000 in
theorem treads_walk (a : Option Addr) (c : Nat) (bl : List UInt8) (w : World) (hla : bl.length ≤ c) (hra : RowAt w a (bl.map bV)) :
    Calls Try.prog 4 #[.slice a bl.length c] w (Ret (.bool true) w) := by
  have ma : min (bl.length : Int) 500 = ((bl.take 500).length : Int) := min_take bl 500
  have ra : RowAt w a ((bl.take 500).map bV) := by rw [List.map_take]; exact hra.take 500
  have la : (bl.take 500).length ≤ c ∧ (bl.take 500).length ≤ 500 := by rw [List.length_take]; omega
  refine ret_in (GTarB.treads_calls a bl.length c w (fun u w' => u = .bool true ∧ Below w.heap.size w w') ?_)
  unfold GTarB.treads_vc
  rw [ma]
  generalize bl.take 500 = bs at *
  simp only [Int.toNat_natCast]
  have hl : bs.length ≤ 100000000 := by omega
  refine ⟨by omega, by omega, (read_new a c bs w ra hl).mono ?_⟩
  rintro r w2 ⟨v, rfl, ⟨u, u2, e1, e2, rfl, k1, k2, k3, k4, k5⟩, b2⟩
  have B2 : Bs w w2 := b2
  refine ⟨keepG_below b2, ⟨_, _, _, _, _, _, _, _, _, _, _, _, _, _, _, _, rfl, newB B2 fun g w3 g0 sg n3 z3 b3 B3 => boxB B3 g0 fun w4 h4 B4 z4 => ⟨bs, rfl, ra.below B4 (Nat.le_refl _), ?_⟩⟩⟩
  have hA : PlAt w4 (rdPlan bs) u u2 := ⟨(k1.newbox b3 sg h4).low (Nat.zero_le _), (k2.newbox b3 sg h4).low (Nat.zero_le _), by omega, by omega⟩
  refine (rread_new bs w4 hl).mono ?_
  rintro r w5 ⟨v, rfl, ⟨x, x2, f1, f2, rfl, m1, m2, _, _, _⟩, b5⟩
  have B5 := B4.to b5
  refine ⟨keepG_below b5, ⟨_, _, _, _, _, _, _, _, _, _, _, _, _, _, _, _, rfl, newB B5 fun g2 w6 g02 sg2 n6 z6 b6 B6 => boxB B6 g02 fun w7 h7 B7 z7 => drewB B7 fun w8 b8 B8 _ => ?_⟩⟩
  have hX : PlAt w8 (rdPlan bs) x x2 := PlAt.to ⟨(m1.newbox b6 sg2 h7).low (Nat.zero_le _), (m2.newbox b6 sg2 h7).low (Nat.zero_le _), by omega, by omega⟩ b8
  have D8 : Bs w4 w8 := by
    have e5 : Bs w4 w5 := b5
    have e6 := e5.to b6
    have e7 := e6.box (g := g2) (by have := b5.size; omega) h7
    exact e7.to b8
  have hA8 := hA.to D8
  refine callB B8 (tariffs_ret w8) fun w9 b9 B9 => ⟨_, rfl, br_f rfl (br_n (fun k => k rfl) ?_)⟩
  refine callB B9 (from9_ret (rdPlan bs) u u2 e1 e2 w9) fun w11 b11 B11 => ⟨_, _, _, _, _, _, _, _, _, _, _, _, _, _, _, rfl, callB B11 (samep_ret (rdPlan bs) u u2 x x2 e1 e2 f1 f2 w11 ((hA8.to b9).to b11) ((hX.to b9).to b11)) fun w12 b12 B12 => ⟨_, rfl, br_f rfl (br_dec (fun _ => ⟨trivial, B12⟩) fun hz => ?_)⟩⟩
  have h0 : rdPlE bs = 0 := Decidable.not_not.1 hz
  obtain ⟨p1, p2, _⟩ := rd_ok h0
  refine callQ B12 (write_new (rdPlan bs) u u2 e1 e2 w12 (((hA8.to b9).to b11).to b12) (by omega)) ?_
  rintro r w13 ⟨v, rfl, hW⟩ b13 B13
  obtain ⟨y, cy, rfl, ho⟩ := hW.1 p1
  exact ⟨_, _, _, _, rfl, br_y rfl ⟨planB (rdPlan bs), rfl, ho.row, bs, rfl, ra.below B13 (Nat.le_refl _), by rw [← p2]; simp, B13⟩⟩
end Go.Proofs.Ytecmpjccdhmeeaa
end
section
/- Arrays and structs that came in as values: their numbers. -/
namespace Go.Proofs.Ytecmpjccdhmeeaa
open Go.RowKit Go.WideShapes Go.ChangeShapes
theorem okWide_arr {P : Program} {W : World} {r : Reach} {base : Nat} {t : TypeId} {v : Value} {n : Nat} {e : Sh} {k : Nat} (hf : fitsB P (.arr n e k) t = true) (hv : Value.okWide P W r base t v) : ∃ cs, v = .agg cs ∧ cs.size = P.cellsOf t := by
  unfold fitsB at hf
  split at hf
  · rename_i l et hu
    unfold Value.okWide at hv
    rw [hu] at hv
    obtain ⟨cs, h1, h2, _⟩ := hv
    exact ⟨cs, h1, h2⟩
  · cases hf
theorem open_arrI {H : Type} {enc : TypeId × Value → H} {P : Program} {W : World} {r : Reach} {base : Nat} {t : TypeId} {v : Value} {d : DataW H} {p : List MemPlace} (n : Nat) (hf : fitsB P (.arr n (.int .i64) 1) t = true) (hc : P.cellsOf t = n) (hv : Value.okWide P W r base t v)
    (h : DataW.Trod enc P W 0 (fun _ => true) true t v d p) : ∃ zs : List Int, zs.length = n ∧ v = .agg (zs.map (Value.int .i64)).toArray ∧ ∀ z ∈ zs, -9223372036854775808 ≤ z ∧ z ≤ 9223372036854775807 := by
  obtain ⟨cs, rfl, hs⟩ := okWide_arr hf hv
  have hh := open_sh hf h
  obtain ⟨zs, hz, hp⟩ := exists_list (p := fun i z => cs.toList[i]? = some (Value.int .i64 z) ∧ (Lit.int .i64 z).wf = true) n (fun i hi => by
    obtain ⟨z, h1, h2⟩ := hh i hi
    refine ⟨z, ?_, h2⟩
    have := congrArg (·[0]?) h1
    simpa [Value.cells] using this)
  refine ⟨zs, hz, ?_, fun z hm => ?_⟩
  · congr 1
    apply Array.ext'
    apply List.ext_getElem?
    intro i
    rw [List.getElem?_map]
    by_cases hi : i < n
    · rw [List.getElem?_eq_getElem (show i < zs.length by omega)]
      exact (hp i _ (List.getElem?_eq_getElem (by omega))).1
    · rw [List.getElem?_eq_none (by simp; omega), List.getElem?_eq_none (by omega)]
      rfl
  · obtain ⟨i, hi⟩ := List.getElem?_of_mem hm
    exact i64_range (hp i z hi).2
theorem open_arr2 {H : Type} {enc : TypeId × Value → H} {P : Program} {W : World} {r : Reach} {base : Nat} {t : TypeId} {v : Value} {d : DataW H} {p : List MemPlace} (hf : fitsB P (.arr 2 (.int .i64) 1) t = true) (hc : P.cellsOf t = 2) (hv : Value.okWide P W r base t v)
    (h : DataW.Trod enc P W 0 (fun _ => true) true t v d p) : ∃ x y : Int, v = .agg #[.int .i64 x, .int .i64 y] ∧ (-9223372036854775808 ≤ x ∧ x ≤ 9223372036854775807) ∧ -9223372036854775808 ≤ y ∧ y ≤ 9223372036854775807 := by
  obtain ⟨zs, hz, rfl, hr⟩ := open_arrI 2 hf hc hv h
  match zs, hz with
  | [x, y], _ => exact ⟨x, y, rfl, hr x (by simp), hr y (by simp)⟩
theorem open_arr4 {H : Type} {enc : TypeId × Value → H} {P : Program} {W : World} {r : Reach} {base : Nat} {t : TypeId} {v : Value} {d : DataW H} {p : List MemPlace} (hf : fitsB P (.arr 4 (.int .i64) 1) t = true) (hc : P.cellsOf t = 4) (hv : Value.okWide P W r base t v)
    (h : DataW.Trod enc P W 0 (fun _ => true) true t v d p) : ∃ x y z u : Int, v = .agg #[.int .i64 x, .int .i64 y, .int .i64 z, .int .i64 u] ∧ (-9223372036854775808 ≤ x ∧ x ≤ 9223372036854775807) ∧ (-9223372036854775808 ≤ y ∧ y ≤ 9223372036854775807) ∧ (-9223372036854775808 ≤ z ∧ z ≤ 9223372036854775807) ∧ -9223372036854775808 ≤ u ∧ u ≤ 9223372036854775807 := by
  obtain ⟨zs, hz, rfl, hr⟩ := open_arrI 4 hf hc hv h
  match zs, hz with
  | [x, y, z, u], _ => exact ⟨x, y, z, u, rfl, hr x (by simp), hr y (by simp), hr z (by simp), hr u (by simp)⟩
end Go.Proofs.Ytecmpjccdhmeeaa
end
