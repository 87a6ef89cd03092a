/- 'Div64' of math/bits, walked. -/
import Derived.Test.YtlgdapgocbmcfaaBigDivPure
import Derived.Test.YtlgdapgocbmcfaaBigLen
import Derived.Deep.DeepCutAuto
import Derived.Deep.CutBlock
namespace Go.Proofs.Ytlgdapgocbmcfaa
open Go.RowKit
set_option maxRecDepth 100000 in
set_option maxHeartbeats 2000000 in
theorem LZ64_any (y : Nat) (hy : y < 18446744073709551616) (w : World) :
    Calls Try.prog 75 #[.int .u64 y] w fun e w' => e = .returned (.int .i64 ((64 - Lib.bitLen y : Nat) : Int)) ∧ w' = w := by
  have hl : Lib.bitLen y ≤ 64 := Lib.bitLen_le y 64 (by omega) (by omega)
  have HC := fun w => Box.mk (Len64_any (y : Int) w (by omega) (by omega))
  have hw : ((64 - Lib.bitLen y : Nat) : Int) = 64 - (Lib.bitLen y : Int) := by omega
  rw [hw]
  rw [Int.toNat_natCast] at HC
  generalize Lib.bitLen y = l at *
  have hc : wrap64 (64 - (l : Int)) = 64 - (l : Int) := by unfold wrap64; omega
  have HB := Box.mk hy
  clear hy hw
  go_enter Try.func75, Try.ntmps75
  go_wp2_with fail
  refine (HC _).out.mono ?_
  rintro e W ⟨rfl, rfl⟩
  go_wp2
  go_ret
  exact ⟨rfl, rfl⟩
set_option maxRecDepth 100000 in
set_option maxHeartbeats 2000000 in
theorem Div64_low (lo y : Nat) (h0 : 0 < y) (hy : y < 18446744073709551616) (hlo : lo < 18446744073709551616) (w : World) :
    Calls Try.prog 71 #[.int .u64 0, .int .u64 lo, .int .u64 y] w fun e w' => e = .returned (.tuple #[.int .u64 ((lo / y : Nat) : Int), .int .u64 ((lo % y : Nat) : Int)]) ∧ Below w.heap.size w w' := by
  have hz : ((y : Int) == 0) = false := by simp; omega
  have hz2 : ((y : Int)) ≠ 0 := by omega
  have hle : decide ((y : Int) ≤ 0) = false := by simp; omega
  have q1 : (lo : Int).tdiv (y : Int) = ((lo / y : Nat) : Int) := rfl
  have q2 : (lo : Int).tmod (y : Int) = ((lo % y : Nat) : Int) := rfl
  have q3 : (lo : Int) / (y : Int) = ((lo / y : Nat) : Int) := rfl
  have q4 : (lo : Int) % (y : Int) = ((lo % y : Nat) : Int) := rfl
  have hz3 : y ≠ 0 := by omega
  have d1 : lo / y ≤ lo := Nat.div_le_self _ _
  have d2 : lo % y < y := Nat.mod_lt _ h0
  have q5 : IntKind.u64.wrap ((lo / y : Nat) : Int) = ((lo / y : Nat) : Int) := wrapN _ (by omega)
  have q6 : IntKind.u64.wrap ((lo % y : Nat) : Int) = ((lo % y : Nat) : Int) := wrapN _ (by omega)
  generalize lo / y = a at *
  generalize lo % y = b at *
  clear hy h0 hlo d1 d2
  go_enter Try.func71, Try.ntmps71
  go_wp2
  refine wp_region_early [0, 1, 2, 3, 4, 5, 6, 7] [] [] (fun _ => True) (by kernel_rfl) (by kernel_rfl) (by kernel_rfl) (by rfl) trivial ?_
  apply Exists.intro
  refine ⟨fun wx _ => ?_, ?_⟩
  · repeat (refine seI_step rfl (fun K hK => ?_); go_simp; refine hK _ ?_; clear hK K)
    exact seI_nil rfl
  refine wpTA_nil .nil ?_
  go_wp2
  refine NoPanic.normal ?_
  go_wp2
  go_ret2
  exact ⟨rfl, (Below.refl _ _).drew⟩
theorem top_bit (y : Nat) (h0 : 0 < y) (hy : y < 18446744073709551616) : 64 - Lib.bitLen y ≤ 63 ∧ 9223372036854775808 ≤ y * 2 ^ (64 - Lib.bitLen y) ∧ y * 2 ^ (64 - Lib.bitLen y) < 18446744073709551616 := by
  have hb := Lib.bitLenAux_bounds 64 y (by omega) (by omega)
  have hl : Lib.bitLen y ≤ 64 := Lib.bitLen_le y 64 (by omega) (by omega)
  unfold Lib.bitLen at *
  generalize Lib.bitLenAux 64 y = l at *
  obtain ⟨h1, h2, h3⟩ := hb
  refine ⟨by omega, ?_, ?_⟩
  · have := Nat.mul_le_mul_right (2 ^ (64 - l)) h2
    rw [← Nat.pow_add, show l - 1 + (64 - l) = 63 by omega] at this
    exact this
  · have := Nat.mul_lt_mul_of_pos_right h3 (Nat.pow_pos (a := 2) (n := 64 - l) (by omega))
    rw [← Nat.pow_add, show l + (64 - l) = 64 by omega] at this
    exact this
theorem or_parts {hi lo s : Nat} (hs : s ≤ 63) (hh : hi * 2 ^ s < 18446744073709551616) (hl : lo < 18446744073709551616) :
    bits BinOp.or IntKind.u64 ((hi * 2 ^ s : Nat) : Int) ((lo / 2 ^ (64 - s) : Nat) : Int) = ((hi * 2 ^ s + lo / 2 ^ (64 - s) : Nat) : Int) := by
  have h2 : lo / 2 ^ (64 - s) < 2 ^ s := by
    rw [Nat.div_lt_iff_lt_mul (Nat.pow_pos (by omega)), ← Nat.pow_add, show s + (64 - s) = 64 by omega]
    exact hl
  have h3 : lo / 2 ^ (64 - s) < 18446744073709551616 := Nat.lt_of_le_of_lt (Nat.div_le_self _ _) hl
  rw [u64_or_nat _ _ hh h3, nat_join s _ _ (Nat.mul_mod_left _ _) h2]
theorem shl_cast (x s : Nat) : (x : Int) * 2 ^ s = ((x * 2 ^ s : Nat) : Int) := by
  rw [Int.natCast_mul, Int.natCast_pow]; rfl
theorem shr_cast (x k : Nat) : (x : Int) / 2 ^ k = ((x / 2 ^ k : Nat) : Int) := by
  rw [Int.natCast_ediv, Int.natCast_pow]; rfl
theorem rest_wrap {U d q Y R : Nat} (h : q * Y + R = U * 4294967296 + d) (hR : R < 18446744073709551616) :
    IntKind.u64.wrap (IntKind.u64.wrap (IntKind.u64.wrap ((U : Int) * 4294967296) + (d : Int)) - IntKind.u64.wrap ((q : Int) * (Y : Int))) = (R : Int) := by
  rw [mulN q Y]
  generalize q * Y = z at *
  simp only [IntKind.wrap_u64]
  omega
set_option maxRecDepth 100000 in
set_option maxHeartbeats 2000000 in
theorem Div64_high (hi lo y : Nat) (h0 : 0 < hi) (hlt : hi < y) (hy : y < 18446744073709551616) (hlo : lo < 18446744073709551616) (w : World) (a b : Nat) (ha : a = (hi * 18446744073709551616 + lo) / y) (hb : b = (hi * 18446744073709551616 + lo) % y) :
    Calls Try.prog 71 #[.int .u64 hi, .int .u64 lo, .int .u64 y] w fun e w' => e = .returned (.tuple #[.int .u64 (a : Int), .int .u64 (b : Int)]) ∧ w' = w := by
  obtain ⟨t1, t2, t3⟩ := top_bit y (by omega) hy
  have HC := fun w => Box.mk (LZ64_any y hy w)
  generalize 64 - Lib.bitLen y = s at *
  have hz3 : y ≠ 0 := by omega
  have hz4 : hi ≠ 0 := by omega
  have hle : decide ((y : Int) ≤ (hi : Int)) = false := by simp; omega
  have hle2 : ¬ y ≤ hi := by omega
  have hz5 : ((y : Int) == 0) = false := by simp; omega
  have hz6 : ((hi : Int) == 0) = false := by simp; omega
  have HA := Box.mk ha; have HB := Box.mk hb; have H0 := Box.mk h0; have HL := Box.mk hlt; have HY := Box.mk hy; have HLO := Box.mk hlo
  have T2 := Box.mk t2; have T3 := Box.mk t3
  clear ha hb h0 hlt hy hlo t2 t3
  go_enter Try.func71, Try.ntmps71
  go_wp2_with fail
  refine (HC _).out.mono ?_
  rintro e W ⟨rfl, rfl⟩
  have s0 : (0 : Int) ≤ (s : Int) := by omega
  have s1 : (s : Int) ≤ 63 := by omega
  go_upto_region 15 with (fail)
  have hu : hi * 2 ^ s < 18446744073709551616 := Nat.lt_of_le_of_lt (Nat.mul_le_mul_right _ (Nat.le_of_lt HL.out)) T3.out
  obtain ⟨Y, hY⟩ : ∃ Y, Y = y * 2 ^ s := ⟨_, rfl⟩
  obtain ⟨U, hU⟩ : ∃ U, U = hi * 2 ^ s + lo / 2 ^ (64 - s) := ⟨_, rfl⟩
  obtain ⟨V, hV⟩ : ∃ V, V = lo * 2 ^ s % 18446744073709551616 := ⟨_, rfl⟩
  have f1 : IntKind.u64.wrap ((y : Int) * 2 ^ s) = (Y : Int) := by rw [shl_cast, wrapN _ T3.out, hY]
  have f2 : IntKind.u64.wrap ((hi : Int) * 2 ^ s) = ((hi * 2 ^ s : Nat) : Int) := by rw [shl_cast, wrapN _ hu]
  have f3 : IntKind.u64.wrap ((lo : Int) * 2 ^ s) = (V : Int) := by rw [shl_cast, wrapM, hV]
  have f4 : bits BinOp.or IntKind.u64 ((hi * 2 ^ s : Nat) : Int) ((lo : Int) / 2 ^ (64 - s)) = (U : Int) := by rw [shr_cast, or_parts t1 hu HLO.out, hU]
  have f5 : (Y : Int) / 4294967296 = ((Y / 4294967296 : Nat) : Int) := by omega
  have f6 : (V : Int) / 4294967296 = ((V / 4294967296 : Nat) : Int) := by omega
  have f7 := u64_mask Y (by rw [hY]; exact T3.out)
  have f8 := u64_mask V (by rw [hV]; exact Nat.mod_lt _ (by omega))
  simp only [f1, f2, f3, f4, f5, f6, f7, f8]
  have hYe : Y = Y / 4294967296 * 4294967296 + Y % 4294967296 := by omega
  have hVe : V = V / 4294967296 * 4294967296 + V % 4294967296 := by omega
  have hn1 : 2147483648 ≤ Y / 4294967296 := by have := T2.out; rw [← hY] at this; omega
  have hn2 : Y / 4294967296 < 4294967296 := by have := T3.out; rw [← hY] at this; omega
  have hd1 : V / 4294967296 < 4294967296 := by have := Nat.mod_lt (lo * 2 ^ s) (show 0 < 18446744073709551616 by omega); rw [← hV] at this; omega
  have hd0 : V % 4294967296 < 4294967296 := Nat.mod_lt _ (by omega)
  have hn0 : Y % 4294967296 < 4294967296 := Nat.mod_lt _ (by omega)
  have hUY : U < Y := by
    have h1 := shift_parts (hi := hi) (lo := lo) (s := s) (by omega)
    have h2 : (hi * 18446744073709551616 + lo) * 2 ^ s < y * 18446744073709551616 * 2 ^ s := Nat.mul_lt_mul_of_pos_right (by have := HL.out; have := HLO.out; omega) (Nat.pow_pos (by omega))
    rw [h1, ← hU, ← hV, Nat.mul_right_comm, ← hY] at h2
    omega
  have hx : (hi * 18446744073709551616 + lo) * 2 ^ s = U * 18446744073709551616 + V := by rw [shift_parts (by omega), hU, hV]
  clear f1 f2 f3 f4 f5 f6 f7 f8
  generalize Y / 4294967296 = p1 at *
  generalize Y % 4294967296 = p0 at *
  generalize V / 4294967296 = d1 at *
  generalize V % 4294967296 = d0 at *
  have HYe := Box.mk hYe; have HVe := Box.mk hVe; have HX := Box.mk hx; have HUY := Box.mk hUY; have HYd := Box.mk hY
  clear hYe hVe hx hY hU hV hu hz3 hz4 hle hle2 hz5 hz6
  have HP1 := Box.mk hn1; have HP2 := Box.mk hn2; have HP0 := Box.mk hn0; have HD1 := Box.mk hd1; have HD0 := Box.mk hd0
  have hq1 : U / p1 ≤ U := Nat.div_le_self _ _
  have hqr : U / p1 * p1 + U % p1 = U := by rw [Nat.mul_comm]; exact Nat.div_add_mod _ _
  have hU64 : U < 18446744073709551616 := by have := HYd.out; have := T3.out; omega
  have hr1 : U % p1 < p1 := Nat.mod_lt _ (by omega)
  have HQ0 := Box.mk (dig_init (u := U) (d := d1) HYe.out hn1 hd1)
  have HQ1 := Box.mk (dig_top HYe.out hn1 hn0 hUY)
  have g0 : ((p1 : Int) == 0) = false := by simp; omega
  have g00 : p1 ≠ 0 := by omega
  have g1 : IntKind.u64.wrap ((U : Int) / (p1 : Int)) = ((U / p1 : Nat) : Int) := wrapN (U / p1) (by omega)
  have g2 : IntKind.u64.wrap (((U / p1 : Nat) : Int) * (p1 : Int)) = ((U / p1 * p1 : Nat) : Int) := by rw [mulN, wrapN _ (by omega)]
  have g3 : IntKind.u64.wrap ((U : Int) - ((U / p1 * p1 : Nat) : Int)) = ((U % p1 : Nat) : Int) := by
    rw [show (U : Int) - ((U / p1 * p1 : Nat) : Int) = ((U % p1 : Nat) : Int) by omega, wrapN _ (by omega)]
  have G1 := Box.mk g1; have G2 := Box.mk g2; have G3 := Box.mk g3; have HQR := Box.mk hqr; have HR1 := Box.mk hr1
  clear hn1 hn2 hn0 hd1 hd0 hUY hq1 hU64 g1 g2 g3 hqr hr1
  have HY0 : Box (0 < Y) := ⟨by have := HUY.out; omega⟩
  obtain ⟨q1, hq1d⟩ : ∃ q1, q1 = (U * 4294967296 + d1) / Y := ⟨_, rfl⟩
  have RQ1 := Box.mk hq1d
  clear hq1d
  go_upto_block 0 with (fail)
  simp only [G1.out, G2.out, G3.out]
  clear G1 G2 G3
  go_cut [15] (fun t15 wx => t15 = .int .u64 (q1 : Int) ∧ W = wx)
  case first =>
    go_wp2_with fail
    go_loop [15,16,67,68,69,70,71,72,73,74,75,76,77,78,79,80,81,82,83,84,85] (fun t15 t16 _ _ _ _ _ _ _ _ _ _ _ _ _ _ _ _ _ _ _ => ∃ q r : Nat, t15 = .int .u64 q ∧ t16 = .int .u64 r ∧ q * p1 + r = U ∧ (U * 4294967296 + d1) / Y ≤ q ∧ q ≤ 4294967297 ∧ r < 4294967296) (fun t15 _ _ _ _ _ _ _ _ _ _ _ _ _ _ _ _ _ _ _ _ => (intOf t15).toNat)
    case atStart => exact ⟨U / p1, U % p1, rfl, rfl, HQR.out, HQ0.out, HQ1.out, Nat.lt_trans HR1.out HP2.out⟩
    case round =>
      obtain ⟨q, r, rfl, rfl, hI, hQ, hq, hr⟩ := hrel
      have HI := Box.mk hI; have HQ := Box.mk hQ; have Hq := Box.mk hq; have Hr := Box.mk hr
      clear hI hQ hq hr
      have next : (4294967296 ≤ q ∨ 4294967296 * r + d1 < q * p0) → 1 ≤ q ∧ (U * 4294967296 + d1) / Y ≤ q - 1 ∧ (q - 1) * p1 + (r + p1) = U := fun h => dig_true HYe.out HY0.out HUY.out HD1.out HI.out HQ.out h
      have NX := Box.mk next
      clear next
      by_cases hB : (4294967296 : Int) ≤ (q : Int)
      · obtain ⟨k1, k2, k3⟩ := NX.out (.inl (by omega))
        have K2 := Box.mk k2; have K3 := Box.mk k3
        have qm : IntKind.u64.wrap ((q : Int) - 1) = ((q - 1 : Nat) : Int) := by rw [show (q : Int) - 1 = ((q - 1 : Nat) : Int) by omega, wrapN _ (by have := Hq.out; omega)]
        have rp : IntKind.u64.wrap ((r : Int) + (p1 : Int)) = ((r + p1 : Nat) : Int) := by rw [addN, wrapN _ (by have := Hr.out; have := HP2.out; omega)]
        have HM := Box.mk (show q - 1 < q by omega)
        have K4 := Box.mk (show q - 1 ≤ 4294967296 by have := Hq.out; omega)
        clear k1 k2 k3 NX HI
        generalize q - 1 = q2 at *
        generalize r + p1 = r2 at *
        by_cases hbr : (4294967296 : Int) ≤ (r2 : Int)
        · go_wp2
          go_meet
          case rel => exact ⟨by rw [dig_break HYe.out HY0.out HP0.out K4.out K3.out K2.out (by omega), ← RQ1.out], rfl⟩
        · go_wp2
          go_round
          case rel => exact ⟨q2, r2, rfl, rfl, K3.out, K2.out, by have := K4.out; omega, by omega⟩
          case measure => have := HM.out; simp [intOf]; omega
      · have hmul : q * p0 ≤ 4294967295 * 4294967295 := Nat.mul_le_mul (by omega) (by have := HP0.out; omega)
        obtain ⟨z, hz⟩ : ∃ z, z = q * p0 := ⟨_, rfl⟩
        obtain ⟨e, he⟩ : ∃ e, e = 4294967296 * r := ⟨_, rfl⟩
        obtain ⟨c, hc⟩ : ∃ c, c = e + d1 := ⟨_, rfl⟩
        rw [← hz] at hmul
        have m1 : IntKind.u64.wrap ((q : Int) * (p0 : Int)) = (z : Int) := by rw [mulN, ← hz, wrapN _ (by omega)]
        have m2 : IntKind.u64.wrap (4294967296 * (r : Int)) = (e : Int) := by rw [show 4294967296 * (r : Int) = (e : Int) by omega]; exact wrapN _ (by have := Hr.out; omega)
        have m3 : IntKind.u64.wrap ((e : Int) + (d1 : Int)) = (c : Int) := by rw [addN, ← hc]; exact wrapN _ (by have := Hr.out; have := HD1.out; omega)
        have HZ := Box.mk hz; have HE := Box.mk he; have HC2 := Box.mk hc
        clear hmul hz he hc
        by_cases hT : (c : Int) < (z : Int)
        · obtain ⟨k1, k2, k3⟩ := NX.out (.inr (by rw [← HZ.out, ← HE.out, ← HC2.out]; omega))
          have K2 := Box.mk k2; have K3 := Box.mk k3
          have qm : IntKind.u64.wrap ((q : Int) - 1) = ((q - 1 : Nat) : Int) := by rw [show (q : Int) - 1 = ((q - 1 : Nat) : Int) by omega, wrapN _ (by have := Hq.out; omega)]
          have rp : IntKind.u64.wrap ((r : Int) + (p1 : Int)) = ((r + p1 : Nat) : Int) := by rw [addN, wrapN _ (by have := Hr.out; have := HP2.out; omega)]
          have HM := Box.mk (show q - 1 < q by omega)
          have K4 := Box.mk (show q - 1 ≤ 4294967296 by have := Hq.out; omega)
          clear k1 k2 k3 NX HI HZ HE HC2
          generalize hq2 : q - 1 = q2 at *
          have HQ2 := Box.mk hq2; clear hq2
          generalize r + p1 = r2 at *
          by_cases hbr : (4294967296 : Int) ≤ (r2 : Int)
          · go_wp2
            go_meet
            case rel => exact ⟨by rw [dig_break HYe.out HY0.out HP0.out K4.out K3.out K2.out (by omega), ← RQ1.out], rfl⟩
          · go_wp2
            go_round
            case rel => exact ⟨q2, r2, rfl, rfl, K3.out, K2.out, by have := K4.out; omega, by omega⟩
            case measure => have := HM.out; simp [intOf]; omega
        · go_wp2
          go_meet
          case rel => exact ⟨by rw [dig_false HYe.out HY0.out HI.out HQ.out (by rw [← HZ.out, ← HE.out, ← HC2.out]; omega), ← RQ1.out], rfl⟩
  case rest =>
    obtain ⟨rfl, rfl⟩ := hcut
    obtain ⟨R1, hR1⟩ : ∃ R1, R1 = (U * 4294967296 + d1) % Y := ⟨_, rfl⟩
    obtain ⟨q0, hq0⟩ : ∃ q0, q0 = (R1 * 4294967296 + d0) / Y := ⟨_, rfl⟩
    have hR1Y : R1 < Y := by rw [hR1]; exact Nat.mod_lt _ HY0.out
    have hsum1 : q1 * Y + R1 = U * 4294967296 + d1 := by rw [RQ1.out, hR1, Nat.mul_comm]; exact Nat.div_add_mod _ _
    have HRY := Box.mk hR1Y; have RQ0 := Box.mk hq0; have HR1e := Box.mk hR1
    have hY64 : Y < 18446744073709551616 := by have := HYd.out; have := T3.out; omega
    have hU64 : U < 18446744073709551616 := by have := HUY.out; omega
    have e1 := rest_wrap hsum1 (by omega)
    have E1 := Box.mk e1
    have HQ20 := Box.mk (dig_init (u := R1) (d := d0) HYe.out HP1.out HD0.out)
    have HQ21 := Box.mk (dig_top HYe.out HP1.out HP0.out hR1Y)
    have HR2 := Box.mk (show R1 % p1 < p1 from Nat.mod_lt _ (by have := HP1.out; omega))
    have HQR2 := Box.mk (show R1 / p1 * p1 + R1 % p1 = R1 by rw [Nat.mul_comm]; exact Nat.div_add_mod _ _)
    have hq2 : R1 / p1 ≤ R1 := Nat.div_le_self _ _
    have J1 : Box (IntKind.u64.wrap ((R1 : Int) / (p1 : Int)) = ((R1 / p1 : Nat) : Int)) := ⟨wrapN (R1 / p1) (by omega)⟩
    have J2 : Box (IntKind.u64.wrap (((R1 / p1 : Nat) : Int) * (p1 : Int)) = ((R1 / p1 * p1 : Nat) : Int)) := ⟨by rw [mulN, wrapN _ (by have := HQR2.out; omega)]⟩
    have J3 : Box (IntKind.u64.wrap ((R1 : Int) - ((R1 / p1 * p1 : Nat) : Int)) = ((R1 % p1 : Nat) : Int)) := ⟨by
      rw [show (R1 : Int) - ((R1 / p1 * p1 : Nat) : Int) = ((R1 % p1 : Nat) : Int) by have := HQR2.out; omega, wrapN _ (by have := HQR2.out; omega)]⟩
    clear hR1 hq0 hR1Y hsum1 hY64 hU64 hq2 e1
    go_upto_region 22 with (fail)
    simp only [E1.out]
    clear E1
    go_upto_block 2 with (fail)
    simp only [J1.out, J2.out, J3.out]
    clear J1 J2 J3
    go_cut [18] (fun t18 wx => t18 = .int .u64 (q0 : Int) ∧ W = wx)
    case first =>
      go_wp2_with fail
      go_loop [16,18,102,103,104,105,106,107,108,109,110,111,112,113,114,115,116,117,118,119,120] (fun t16 t18 _ _ _ _ _ _ _ _ _ _ _ _ _ _ _ _ _ _ _ => ∃ q r : Nat, t18 = .int .u64 q ∧ t16 = .int .u64 r ∧ q * p1 + r = R1 ∧ (R1 * 4294967296 + d0) / Y ≤ q ∧ q ≤ 4294967297 ∧ r < 4294967296) (fun _ t18 _ _ _ _ _ _ _ _ _ _ _ _ _ _ _ _ _ _ _ => (intOf t18).toNat)
      case atStart => exact ⟨R1 / p1, R1 % p1, rfl, rfl, HQR2.out, HQ20.out, HQ21.out, Nat.lt_trans HR2.out HP2.out⟩
      case round =>
        obtain ⟨q, r, rfl, rfl, hI, hQ, hq, hr⟩ := hrel
        have HI := Box.mk hI; have HQ := Box.mk hQ; have Hq := Box.mk hq; have Hr := Box.mk hr
        clear hI hQ hq hr
        have next : (4294967296 ≤ q ∨ 4294967296 * r + d0 < q * p0) → 1 ≤ q ∧ (R1 * 4294967296 + d0) / Y ≤ q - 1 ∧ (q - 1) * p1 + (r + p1) = R1 := fun h => dig_true HYe.out HY0.out HRY.out HD0.out HI.out HQ.out h
        have NX := Box.mk next
        clear next
        by_cases hB : (4294967296 : Int) ≤ (q : Int)
        · obtain ⟨k1, k2, k3⟩ := NX.out (.inl (by omega))
          have K2 := Box.mk k2; have K3 := Box.mk k3
          have qm : IntKind.u64.wrap ((q : Int) - 1) = ((q - 1 : Nat) : Int) := by rw [show (q : Int) - 1 = ((q - 1 : Nat) : Int) by omega, wrapN _ (by have := Hq.out; omega)]
          have rp : IntKind.u64.wrap ((r : Int) + (p1 : Int)) = ((r + p1 : Nat) : Int) := by rw [addN, wrapN _ (by have := Hr.out; have := HP2.out; omega)]
          have HM := Box.mk (show q - 1 < q by omega)
          have K4 := Box.mk (show q - 1 ≤ 4294967296 by have := Hq.out; omega)
          clear k1 k2 k3 NX HI
          generalize q - 1 = q2 at *
          generalize r + p1 = r2 at *
          by_cases hbr : (4294967296 : Int) ≤ (r2 : Int)
          · go_wp2
            go_meet
            case rel => exact ⟨by rw [dig_break HYe.out HY0.out HP0.out K4.out K3.out K2.out (by omega), ← RQ0.out], rfl⟩
          · go_wp2
            go_round
            case rel => exact ⟨q2, r2, rfl, rfl, K3.out, K2.out, by have := K4.out; omega, by omega⟩
            case measure => have := HM.out; simp [intOf]; omega
        · have hmul : q * p0 ≤ 4294967295 * 4294967295 := Nat.mul_le_mul (by omega) (by have := HP0.out; omega)
          obtain ⟨z, hz⟩ : ∃ z, z = q * p0 := ⟨_, rfl⟩
          obtain ⟨e, he⟩ : ∃ e, e = 4294967296 * r := ⟨_, rfl⟩
          obtain ⟨c, hc⟩ : ∃ c, c = e + d0 := ⟨_, rfl⟩
          rw [← hz] at hmul
          have m1 : IntKind.u64.wrap ((q : Int) * (p0 : Int)) = (z : Int) := by rw [mulN, ← hz, wrapN _ (by omega)]
          have m2 : IntKind.u64.wrap (4294967296 * (r : Int)) = (e : Int) := by rw [show 4294967296 * (r : Int) = (e : Int) by omega]; exact wrapN _ (by have := Hr.out; omega)
          have m3 : IntKind.u64.wrap ((e : Int) + (d0 : Int)) = (c : Int) := by rw [addN, ← hc]; exact wrapN _ (by have := Hr.out; have := HD0.out; omega)
          have HZ := Box.mk hz; have HE := Box.mk he; have HC2 := Box.mk hc
          clear hmul hz he hc
          by_cases hT : (c : Int) < (z : Int)
          · obtain ⟨k1, k2, k3⟩ := NX.out (.inr (by rw [← HZ.out, ← HE.out, ← HC2.out]; omega))
            have K2 := Box.mk k2; have K3 := Box.mk k3
            have qm : IntKind.u64.wrap ((q : Int) - 1) = ((q - 1 : Nat) : Int) := by rw [show (q : Int) - 1 = ((q - 1 : Nat) : Int) by omega, wrapN _ (by have := Hq.out; omega)]
            have rp : IntKind.u64.wrap ((r : Int) + (p1 : Int)) = ((r + p1 : Nat) : Int) := by rw [addN, wrapN _ (by have := Hr.out; have := HP2.out; omega)]
            have HM := Box.mk (show q - 1 < q by omega)
            have K4 := Box.mk (show q - 1 ≤ 4294967296 by have := Hq.out; omega)
            clear k1 k2 k3 NX HI HZ HE HC2
            generalize hq2 : q - 1 = q2 at *
            have HQ2 := Box.mk hq2; clear hq2
            generalize r + p1 = r2 at *
            by_cases hbr : (4294967296 : Int) ≤ (r2 : Int)
            · go_wp2
              go_meet
              case rel => exact ⟨by rw [dig_break HYe.out HY0.out HP0.out K4.out K3.out K2.out (by omega), ← RQ0.out], rfl⟩
            · go_wp2
              go_round
              case rel => exact ⟨q2, r2, rfl, rfl, K3.out, K2.out, by have := K4.out; omega, by omega⟩
              case measure => have := HM.out; simp [intOf]; omega
          · go_wp2
            go_meet
            case rel => exact ⟨by rw [dig_false HYe.out HY0.out HI.out HQ.out (by rw [← HZ.out, ← HE.out, ← HC2.out]; omega), ← RQ0.out], rfl⟩
    case rest =>
      obtain ⟨rfl, rfl⟩ := hcut
      obtain ⟨R0, hR0⟩ : ∃ R0, R0 = (R1 * 4294967296 + d0) % Y := ⟨_, rfl⟩
      have hsum0 : q0 * Y + R0 = R1 * 4294967296 + d0 := by rw [RQ0.out, hR0, Nat.mul_comm]; exact Nat.div_add_mod _ _
      have hR0Y : R0 < Y := by rw [hR0]; exact Nat.mod_lt _ HY0.out
      have hY64 : Y < 18446744073709551616 := by have := HYd.out; have := T3.out; omega
      have e1 := rest_wrap hsum0 (by omega)
      obtain ⟨w1, w2⟩ := two_digits (u := U) (d1 := d1) (d0 := d0) HY0.out
      rw [← HVe.out, ← HX.out, HYd.out, (shifted _ _ _).1, ← HA.out, ← HYd.out, ← HR1e.out, ← RQ1.out, ← RQ0.out] at w1
      rw [← HVe.out, ← HX.out, HYd.out, (shifted _ _ _).2, ← HB.out, ← HYd.out, ← HR1e.out, ← hR0] at w2
      have hab : a < 18446744073709551616 := by
        rw [HA.out, Nat.div_lt_iff_lt_mul (by have := HL.out; omega)]
        have h1 := HL.out; have h2 := HLO.out
        calc hi * 18446744073709551616 + lo < (hi + 1) * 18446744073709551616 := by omega
          _ ≤ y * 18446744073709551616 := Nat.mul_le_mul_right _ h1
          _ = 18446744073709551616 * y := Nat.mul_comm _ _
      have e2 : IntKind.u64.wrap (IntKind.u64.wrap ((q1 : Int) * 4294967296) + (q0 : Int)) = (a : Int) := by
        rw [IntKind.wrap_u64, IntKind.wrap_u64]; omega
      have e3 : (R0 : Int) / 2 ^ s = (b : Int) := by
        rw [shr_cast, ← w2, Nat.mul_div_cancel _ (Nat.pow_pos (by omega))]
      have E1 := Box.mk e1; have E2 := Box.mk e2; have E3 := Box.mk e3
      clear e1 e2 e3 w1 w2 hab hsum0 hR0Y hY64 hR0
      go_wp2
      simp only [E1.out, E2.out, E3.out]
      go_ret2
      exact ⟨rfl, rfl⟩
end Go.Proofs.Ytlgdapgocbmcfaa
