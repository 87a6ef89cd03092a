/- 'Times' of the reference, walked. -/
import Derived.Test.YtlgdapgocbmcfaaArith
namespace Go.Proofs.Ytlgdapgocbmcfaa
open Go.RowKit
/-- A fact put by so that no search comes upon it. -/
structure Box (p : Prop) : Prop where
  out : p
theorem lim_mul {n m k : Nat} (hn : n < 2 ^ k) (hm : m < 2 ^ k) : n * m < 2 ^ (k + k) := by rw [Nat.pow_add]; exact Nat.mul_lt_mul'' hn hm
/-! One part set to another value. -/
theorem limb_div {n p j : Nat} (h : p ≤ j) : limb n j = limb (n / 2 ^ (32 * p)) (j - p) := by
  unfold limb
  rw [Nat.div_div_eq_div_mul, ← Nat.pow_add, ← Nat.mul_add, show p + (j - p) = j by omega]
theorem limb_mod {n p j : Nat} (h : j < p) : limb (n % 2 ^ (32 * p)) j = limb n j := by
  unfold limb
  rw [show 2 ^ (32 * p) = 2 ^ (32 * j) * (4294967296 * 2 ^ (32 * (p - j - 1))) by
    rw [← Nat.mul_assoc, ← pow_succ32, ← Nat.pow_add, ← Nat.mul_add, show j + 1 + (p - j - 1) = p by omega]]
  rw [Nat.mod_mul_right_div_self, Nat.mod_mul_right_mod]
/-- The number with another part. -/
def put (n p v : Nat) : Nat := (n / 2 ^ (32 * (p + 1)) * 4294967296 + v) * 2 ^ (32 * p) + n % 2 ^ (32 * p)
theorem put_div {n p v : Nat} : put n p v / 2 ^ (32 * p) = n / 2 ^ (32 * (p + 1)) * 4294967296 + v := by
  have hp : 0 < 2 ^ (32 * p) := Nat.pow_pos (by omega)
  unfold put
  rw [Nat.add_comm, Nat.add_mul_div_right _ _ hp, Nat.div_eq_of_lt (Nat.mod_lt _ hp), Nat.zero_add]
theorem put_mod {n p v : Nat} : put n p v % 2 ^ (32 * p) = n % 2 ^ (32 * p) := by
  unfold put
  rw [Nat.add_comm, Nat.add_mul_mod_self_right, Nat.mod_mod]
theorem limb_put {n p v : Nat} (hv : v < 4294967296) (j : Nat) : limb (put n p v) j = if j = p then v else limb n j := by
  by_cases h : j = p
  · subst h
    rw [if_pos rfl]
    unfold limb
    rw [put_div]
    omega
  · rw [if_neg h]
    by_cases hl : j < p
    · rw [← limb_mod hl, put_mod, limb_mod hl]
    · rw [limb_div (show p + 1 ≤ j by omega), limb_div (n := n) (show p + 1 ≤ j by omega)]
      congr 1
      rw [pow_succ32, ← Nat.div_div_eq_div_mul, put_div, ← Nat.div_div_eq_div_mul]
      have : (n / 2 ^ (32 * (p + 1)) * 4294967296 + v) / 4294967296 = n / 2 ^ (32 * (p + 1)) := by omega
      rw [this, pow_succ32, Nat.div_div_eq_div_mul]
theorem put_eq (n p v : Nat) : put n p v + limb n p * 2 ^ (32 * p) = n + v * 2 ^ (32 * p) := by
  have h1 := Nat.div_add_mod n (2 ^ (32 * p))
  have h2 := div_limb n p
  unfold put
  rw [Nat.add_mul]
  have h3 : n = (n / 2 ^ (32 * (p + 1)) * 4294967296) * 2 ^ (32 * p) + limb n p * 2 ^ (32 * p) + n % 2 ^ (32 * p) := by
    conv => lhs; rw [← h1, h2, Nat.mul_add, Nat.mul_comm, Nat.mul_comm 4294967296, Nat.mul_comm (2 ^ (32 * p)) (limb n p)]
  omega
/-- What is in the sum behind i rows and k parts of the next one. -/
def part (n m i k : Nat) : Nat := n % 2 ^ (32 * i) * m + limb n i * 2 ^ (32 * i) * (m % 2 ^ (32 * k))
theorem part_zero (n m i : Nat) : part n m i 0 = n % 2 ^ (32 * i) * m := by unfold part; simp [Nat.mod_one]
theorem part_next (n m i k : Nat) : part n m i (k + 1) = part n m i k + limb n i * limb m k * 2 ^ (32 * (i + k)) := by
  unfold part
  rw [mod_limb m k, Nat.mul_add, Nat.mul_add 32 i k, Nat.pow_add 2 (32 * i)]
  have : limb n i * 2 ^ (32 * i) * (2 ^ (32 * k) * limb m k) = limb n i * limb m k * (2 ^ (32 * i) * 2 ^ (32 * k)) := by
    generalize 2 ^ (32 * i) = a; generalize 2 ^ (32 * k) = b
    rw [Nat.mul_assoc, Nat.mul_assoc]
    congr 1
    rw [← Nat.mul_assoc a b, Nat.mul_comm (a * b)]
  omega
theorem part_row (n m i : Nat) (hm : m < 2 ^ (32 * 5)) : part n m i 5 = n % 2 ^ (32 * (i + 1)) * m := by
  unfold part
  rw [Nat.mod_eq_of_lt hm, mod_limb n i, Nat.add_mul, Nat.mul_comm (limb n i)]
theorem times_step {n m i k C over x : Nat} (hI : C + over * 2 ^ (32 * (i + k)) = part n m i k) (hx : x = limb C (i + k)) :
    put C (i + k) ((x + limb n i * limb m k + over) % 4294967296) + (x + limb n i * limb m k + over) / 4294967296 * 2 ^ (32 * (i + (k + 1))) = part n m i (k + 1) := by
  rw [part_next, ← hI]
  have h := put_eq C (i + k) ((x + limb n i * limb m k + over) % 4294967296)
  rw [← hx] at h
  rw [show i + (k + 1) = i + k + 1 by omega, pow_succ32]
  generalize 2 ^ (32 * (i + k)) = B at *
  generalize hq : limb n i * limb m k = q at *
  have e1 : (x + q + over) / 4294967296 * (B * 4294967296) + (x + q + over) % 4294967296 * B = (x + q + over) * B := by
    rw [Nat.mul_comm B, ← Nat.mul_assoc, ← Nat.add_mul]
    congr 1
    omega
  rw [Nat.add_mul, Nat.add_mul] at e1
  omega
theorem row_lt {n m i : Nat} (hm : m < 2 ^ (32 * 5)) (j : Nat) (hj : i + 5 ≤ j) : limb (n % 2 ^ (32 * i) * m) j = 0 := by
  refine limb_small ?_
  have h1 : n % 2 ^ (32 * i) < 2 ^ (32 * i) := Nat.mod_lt _ (Nat.pow_pos (by omega))
  have h2 : n % 2 ^ (32 * i) * m < 2 ^ (32 * i) * 2 ^ (32 * 5) := Nat.mul_lt_mul'' h1 hm
  rw [← Nat.pow_add, ← Nat.mul_add] at h2
  exact Nat.lt_of_lt_of_le h2 (Nat.pow_le_pow_right (by omega) (by omega))
set_option maxRecDepth 100000 in
set_option maxHeartbeats 4000000 in
theorem rTimes_nat (n m p : Nat) (hp : p = n * m) (na nb : Bool) (r : Bool) (hr : r = ((na != nb) && !(decide (p = 0)))) (hn : n < 2 ^ (32 * 5)) (hm : m < 2 ^ (32 * 5)) (w : World) :
    Calls Try.prog 32 #[bigM n na, bigM m nb] w fun e w' => e = .returned (bigM p r) ∧ Below w.heap.size w w' := by
  have HR := hid hr; have HN := hid hn; have HM := hid hm; have HPP := Box.mk hp; clear hr hn hm hp
  unfold bigM
  go_enter Try.func32, Try.ntmps32
  go_upto_region 2 with (fail)
  rw [← arr_zero]
  obtain ⟨h1, h2, h3, hb⟩ := al3 w (.cells (arr (limb n) na) 47) (.cells (arr (limb m) nb) 47) (.cells (arr (fun _ => 0) false) 47)
  have h4 := Blk.new (w := ((w.alloc (.cells (arr (limb n) na) 47)).alloc (.cells (arr (limb m) nb) 47)).alloc (.cells (arr (fun _ => 0) false) 47)) (cs := arr (fun _ => 0) false) (t := 47) (k := w.heap.size + 1 + 1 + 1) (by simp)
  replace h1 := Blk.alloc h1 (.cells (arr (fun _ => 0) false) 47)
  replace h2 := Blk.alloc h2 (.cells (arr (fun _ => 0) false) 47)
  replace h3 := Blk.alloc h3 (.cells (arr (fun _ => 0) false) 47)
  replace hb := hb.alloc (by simp; omega) (.cells (arr (fun _ => 0) false) 47)
  generalize (((w.alloc (.cells (arr (limb n) na) 47)).alloc (.cells (arr (limb m) nb) 47)).alloc (.cells (arr (fun _ => 0) false) 47)).alloc _ = W at *
  have H1 := hid h1; have H2 := hid h2; have H3 := hid h3; have H4 := hid h4; have HB := hid hb
  clear h1 h2 h3 h4 hb
  go_wp2
  go_loopw [6,7,8,9,10,11,12,13,14,15,16,17,18,19,20,21,22,23,24,25,26,27,28,29,30,31,32,33,34,35,36,37,38,39,40,41,42,43,44,45,46,47,48,49] (fun t6 _ _ _ _ _ _ _ _ _ _ _ _ _ _ _ _ _ _ _ _ _ _ _ _ _ _ _ _ _ _ _ _ _ _ _ _ _ _ _ _ _ _ _ wr => ∃ i : Nat, i ≤ 5 ∧ t6 = .int .i64 i ∧ Blk wr w.heap.size (arr (limb n) na) 47 ∧ Blk wr (w.heap.size + 1) (arr (limb m) nb) 47 ∧ Blk wr (w.heap.size + 1 + 1) (arr (fun _ => 0) false) 47 ∧ Blk wr (w.heap.size + 1 + 1 + 1) (arr (limb (n % 2 ^ (32 * i) * m)) false) 47 ∧ Below w.heap.size w wr) (fun t6 _ _ _ _ _ _ _ _ _ _ _ _ _ _ _ _ _ _ _ _ _ _ _ _ _ _ _ _ _ _ _ _ _ _ _ _ _ _ _ _ _ _ _ wr => 5 - (intOf t6).toNat)
  case atStart => exact ⟨0, by omega, rfl, H1.out, H2.out, H3.out, by rw [show n % 2 ^ (32 * 0) * m = 0 by simp [Nat.mod_one], arr_congr false (g := fun _ => 0) (fun i _ => limb_zero i)]; exact H4.out, HB.out⟩
  case round =>
    obtain ⟨i, hi, rfl, hA, hB, hC, hD, hW⟩ := hrel
    have HA := hid hA; have HBb := hid hB; have HC := hid hC; have HD := hid hD; have HW := hid hW
    clear hA hB hC hD hW
    by_cases hlt : i < 5
    · have ca : wr.cell? ⟨w.heap.size, i, none⟩ = some (.int .u64 (limb n i : Nat)) := by rw [HA.out.cell, arr_get _ _ i (by omega)]
      have CA := hid ca; clear ca
      go_wp2
      rw [show decide ((i : Int) < 5) = true by simp; omega]
      go_loopw [7,8,9,14,15,16,17,18,19,20,21,22,23,24,25,26,27,28,29,30,31,32,33,34,35,36,37,38,39,40,41,42,43,44] (fun t7 t8 _ _ _ _ _ _ _ _ _ _ _ _ _ _ _ _ _ _ _ _ _ _ _ _ _ _ _ _ _ _ _ _ wr => ∃ (k C over : Nat), k ≤ 5 ∧ t8 = .int .i64 k ∧ t7 = .int .u64 over ∧ over < 4294967296 ∧ C + over * 2 ^ (32 * (i + k)) = part n m i k ∧ (∀ j, i + 5 ≤ j → limb C j = 0) ∧ Blk wr w.heap.size (arr (limb n) na) 47 ∧ Blk wr (w.heap.size + 1) (arr (limb m) nb) 47 ∧ Blk wr (w.heap.size + 1 + 1) (arr (fun _ => 0) false) 47 ∧ Blk wr (w.heap.size + 1 + 1 + 1) (arr (limb C) false) 47 ∧ Below w.heap.size w wr) (fun _ t8 _ _ _ _ _ _ _ _ _ _ _ _ _ _ _ _ _ _ _ _ _ _ _ _ _ _ _ _ _ _ _ _ wr => 5 - (intOf t8).toNat)
      case atStart => exact ⟨0, n % 2 ^ (32 * i) * m, 0, by omega, rfl, rfl, by omega, by rw [part_zero]; omega, fun j hj => row_lt HM.out j hj, HA.out, HBb.out, HC.out, HD.out, HW.out⟩
      case round =>
        clear HA HBb HC HD HW CA
        obtain ⟨k, C, over, hk, rfl, rfl, ho, hI, hZ, hA, hB, hC, hD, hW⟩ := hrel
        have HA := hid hA; have HBb := hid hB; have HC := hid hC; have HD := hid hD; have HW := hid hW; have HI := Box.mk hI; have HZ := Box.mk hZ
        clear hA hB hC hD hW hI hZ
        by_cases hlk : k < 5
        · obtain ⟨q, hq⟩ : ∃ q, q = i + k := ⟨_, rfl⟩
          have q10 : (q : Int) < 10 := by omega
          have hqi : (i : Int) + (k : Int) = (q : Int) := by omega
          have e6 : wrap64 (q : Int) = (q : Int) := by unfold wrap64; omega
          have e7 : IntKind.i64.wrap (q : Int) = (q : Int) := by rw [IntKind.wrap_i64]; omega
          have i0 : (0 : Int) ≤ (i : Int) := by omega
          have i1 : (i : Int) < 10 := by omega
          have k0 : (0 : Int) ≤ (k : Int) := by omega
          have k1 : (k : Int) < 10 := by omega
          have q0 : (0 : Int) ≤ (q : Int) := by omega
          have c1 : wr.cell? ⟨w.heap.size, i, none⟩ = some (.int .u64 (limb n i : Nat)) := by rw [HA.out.cell, arr_get _ _ i (by omega)]
          have c2 : wr.cell? ⟨w.heap.size + 1, k, none⟩ = some (.int .u64 (limb m k : Nat)) := by rw [HBb.out.cell, arr_get _ _ k (by omega)]
          have c3 : wr.cell? ⟨w.heap.size + 1 + 1 + 1, q, none⟩ = some (.int .u64 (limb C q : Nat)) := by rw [HD.out.cell, arr_get _ _ q (by omega)]
          have HS := Box.mk (times_step HI.out (show limb C q = limb C (i + k) by rw [hq]))
          have l1 := limb_lt n i
          have l2 := limb_lt m k
          have l3 := limb_lt C q
          have l4 : limb n i * limb m k ≤ 4294967295 * 4294967295 := Nat.mul_le_mul (by omega) (by omega)
          obtain ⟨z, hz⟩ : ∃ z, z = limb n i * limb m k := ⟨_, rfl⟩
          have e1 : ((limb n i : Nat) : Int) * ((limb m k : Nat) : Int) = (z : Int) := by rw [hz]; exact (Int.natCast_mul _ _).symm
          rw [← hz] at HS l4
          rw [← hq] at HS
          have HZ2 := hid hz; have HQ := hid hq
          clear hz hq
          generalize limb n i = x at *
          generalize limb m k = y at *
          generalize limb C q = v at *
          have e2 : IntKind.u64.wrap ((x : Int) * (y : Int)) = (z : Int) := by rw [e1, IntKind.wrap_u64]; omega
          clear e1
          have e3 : IntKind.u64.wrap ((v : Int) + (z : Int)) = (v : Int) + (z : Int) := by rw [IntKind.wrap_u64]; omega
          have e4 : IntKind.u64.wrap ((v : Int) + (z : Int) + (over : Int)) = (v : Int) + (z : Int) + (over : Int) := by rw [IntKind.wrap_u64]; omega
          have e5 : bits BinOp.and IntKind.u64 ((v : Int) + (z : Int) + (over : Int)) 4294967295 = (((v + z + over) % 4294967296 : Nat) : Int) := by rw [← u64_mask (v + z + over) (by omega)]; simp
          have L3 := hid l3; have L4 := hid l4; have LO := hid ho
          have E2 := hid e2; have E3 := hid e3; have E4 := hid e4; have E5 := hid e5
          clear l1 l2 l3 l4 ho e2 e3 e4 e5
          go_wp2
          refine wp_region_early [0, 1, 2, 3, 4, 5, 6, 7, 8, 9, 10, 11, 12, 13, 14, 15, 16, 17, 18] [] [] (fun wx => wx.cell? ⟨w.heap.size, i, none⟩ = some (.int .u64 (x : Int)) ∧ wx.cell? ⟨w.heap.size + 1, k, none⟩ = some (.int .u64 (y : Int)) ∧ wx.cell? ⟨w.heap.size + 1 + 1 + 1, q, none⟩ = some (.int .u64 (v : Int))) (by kernel_rfl) (by kernel_rfl) (by kernel_rfl) (by rfl) ⟨c1, c2, c3⟩ ?_
          apply Exists.intro
          refine ⟨fun wx hx => ?_, ?_⟩
          · obtain ⟨x1, x2, x3⟩ := hx
            have e2 := E2.out; have e3 := E3.out; have e4 := E4.out
            repeat (refine seI_step rfl (fun K hK => ?_); go_simp; refine hK _ ?_; clear hK K)
            exact seI_nil rfl
          refine wpTA_nil .nil ?_
          go_wp2
          refine NoPanic.normal ?_
          have e5 := E5.out
          have f1 : wr.frozen? ⟨w.heap.size + 1 + 1 + 1, q, none⟩ = false := HD.out.frozen q
          go_wp2
          go_roundw
          case rel =>
            refine ⟨k + 1, put C q ((v + z + over) % 4294967296), (v + z + over) / 4294967296, by omega, by go_num, by simp, ?_, HS.out, ?_, HA.out.other (by omega), HBb.out.other (by omega), HC.out.other (by omega), ?_, (HW.out.setCell (p := ⟨w.heap.size + 1 + 1 + 1, q, none⟩) (by simp; omega) _).drew⟩
            · have h3 := L3.out; have h4 := L4.out; have h5 := LO.out; omega
            · intro j hj
              rw [limb_put (Nat.mod_lt _ (by omega)), if_neg (by omega)]
              exact HZ.out j hj
            · have h1 := HD.out.setCell q (.int .u64 (((v + z + over) % 4294967296 : Nat) : Int))
              rw [arr_set _ _ _ q (by omega)] at h1
              rw [arr_congr (g := fun k => if k = q then (v + z + over) % 4294967296 else limb C k) false (fun k _ => limb_put (Nat.mod_lt _ (by omega)) k)]
              have q4 : ((v : Int) + (z : Int) + (over : Int)) % 4294967296 = (((v + z + over) % 4294967296 : Nat) : Int) := by omega
              rw [q4]
              exact h1
          case measure => simp [intOf]; omega
        · obtain rfl : k = 5 := by omega
          have hD2 : limb C (i + 5) = 0 := HZ.out _ (by omega)
          have HP := Box.mk (show put C (i + 5) over = n % 2 ^ (32 * (i + 1)) * m by
            have h1 := put_eq C (i + 5) over
            rw [hD2] at h1
            rw [← part_row n m i HM.out, ← HI.out]
            omega)
          have LO := Box.mk ho
          clear hD2 ho
          obtain ⟨q, hq⟩ : ∃ q, q = i + 5 := ⟨_, rfl⟩
          rw [← hq] at HP
          have q10 : (q : Int) < 10 := by omega
          have e7 : IntKind.i64.wrap ((i : Int) + 5) = (q : Int) := by rw [IntKind.wrap_i64]; omega
          have q0 : (0 : Int) ≤ (q : Int) := by omega
          have HQ := Box.mk hq
          clear hq
          have f1 : wr.frozen? ⟨w.heap.size + 1 + 1 + 1, q, none⟩ = false := HD.out.frozen q
          have c3 : wr.cell? ⟨w.heap.size + 1 + 1 + 1, q, none⟩ = some (.int .u64 (limb C q : Nat)) := by rw [HD.out.cell, arr_get _ _ q (by omega)]
          generalize limb C q = v at *
          go_wp2
          have hq := HQ.out
          go_roundw
          case rel =>
            refine ⟨i + 1, by omega, by go_num, HA.out.other (by omega), HBb.out.other (by omega), HC.out.other (by omega), ?_, HW.out.setCell (p := ⟨w.heap.size + 1 + 1 + 1, q, none⟩) (by simp; omega) _⟩
            have h1 := HD.out.setCell q (.int .u64 ((over : Nat) : Int))
            rw [arr_set _ _ _ q (by omega)] at h1
            rw [← HP.out, arr_congr (g := fun k => if k = q then over else limb C k) false (fun k _ => limb_put LO.out k)]
            exact h1
          case measure => simp [intOf]; omega
    · obtain rfl : i = 5 := by omega
      rw [Nat.mod_eq_of_lt HN.out] at HD
      have hL := lim_mul HN.out HM.out
      rw [show 32 * 5 + 32 * 5 = 32 * 10 from rfl, ← lim_eq, ← HPP.out] at hL
      rw [← HPP.out] at HD
      have HL := Box.mk hL
      clear hL
      have cna : wr.cell? ⟨w.heap.size, 10, none⟩ = some (.bool na) := by rw [HA.out.cell, arr_neg]
      have cnb : wr.cell? ⟨w.heap.size + 1, 10, none⟩ = some (.bool nb) := by rw [HBb.out.cell, arr_neg]
      clear HA HBb HN HM H1 H2 H3 H4 HB
      by_cases hnn : na = nb
      case neg =>
        obtain rfl : na = !nb := by cases na <;> cases nb <;> simp_all
        have hnn : ((!nb) != nb) = true := by cases nb <;> rfl
        have HRR : Box (decide (p = 0) = !r) := ⟨by rw [HR.out, hnn]; simp⟩
        clear HR hnn
        go_wp2_with (refine loadBigG rfl (.tmp 5) rfl (w.heap.size + 1 + 1 + 1) rfl (limb p) false HD.out ?_)
        refine (rzero_any p false HL.out _).mono ?_
        rintro e W1 ⟨rfl, hb1⟩
        have G1 := hid (HD.out.below hb1 (Nat.le_refl _))
        have G2 := hid (HC.out.below hb1 (Nat.le_refl _))
        have GB := hid (HW.out.trans (hb1.mono HW.out.size))
        clear hb1 cna cnb
        have K1 := hid (G1.out.setCell 10 (.bool r))
        have K2 := hid (G2.out.other (k := w.heap.size + 1 + 1 + 1) (i := 10) (v := .bool r) (by omega))
        have KB := hid (GB.out.setCell (p := ⟨w.heap.size + 1 + 1 + 1, 10, none⟩) (by simp; omega) (.bool r))
        rw [arr_setNeg] at K1
        have hf := G1.out.frozen 10
        have hc : W1.cell? ⟨w.heap.size + 1 + 1 + 1, 10, none⟩ = some (.bool false) := G1.out.cell 10
        rw [HRR.out]
        go_wp2_with (first
          | (refine loadBig rfl (.tmp 5) rfl (w.heap.size + 1 + 1 + 1) rfl (limb p) r K1.out ?_)
          | (refine storeBig rfl (.tmp 4) (.tmp 61) rfl (w.heap.size + 1 + 1) (limb p) r rfl rfl _ K2.out rfl ?_))
        refine bodyPost_ret (retBig rfl _ _ (w.heap.size + 1 + 1) (limb p) r rfl (K2.out.setRow _)) rfl ⟨rfl, ?_⟩
        exact KB.out.trans (Below_setRow (Below.refl _ _) (by omega) _)
      case pos =>
        subst hnn
        obtain rfl : r = false := by rw [HR.out]; simp
        have K1 := hid (HD.out.setCell 10 (.bool false))
        have K2 := hid (HC.out.other (k := w.heap.size + 1 + 1 + 1) (i := 10) (v := .bool false) (by omega))
        have KB := hid (HW.out.setCell (p := ⟨w.heap.size + 1 + 1 + 1, 10, none⟩) (by simp; omega) (.bool false))
        rw [arr_setNeg] at K1
        have hf := HD.out.frozen 10
        have hc : wr.cell? ⟨w.heap.size + 1 + 1 + 1, 10, none⟩ = some (.bool false) := HD.out.cell 10
        go_wp2_with (first
          | (refine loadBig rfl (.tmp 5) rfl (w.heap.size + 1 + 1 + 1) rfl (limb p) false K1.out ?_)
          | (refine storeBig rfl (.tmp 4) (.tmp 61) rfl (w.heap.size + 1 + 1) (limb p) false rfl rfl _ K2.out rfl ?_))
        refine bodyPost_ret (retBig rfl _ _ (w.heap.size + 1 + 1) (limb p) false rfl (K2.out.setRow _)) rfl ⟨rfl, ?_⟩
        exact KB.out.trans (Below_setRow (Below.refl _ _) (by omega) _)
end Go.Proofs.Ytlgdapgocbmcfaa
