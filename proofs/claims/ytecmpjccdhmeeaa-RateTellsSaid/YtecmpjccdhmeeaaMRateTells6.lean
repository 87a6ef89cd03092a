import Derived.Test.YtecmpjccdhmeeaaMRateTells5
import Derived.Test.YtecmpjccdhmeeaaMRateTells1
import Derived.Laws.Externs
import Derived.Test.YtecmpjccdhmeeaaMRateTells3
import Derived.Test.YtecmpjccdhmeeaaMRateTells4
section
/- 'Times' of the reference, walked. -/
namespace Go.Proofs.Ytecmpjccdhmeeaa
open Go.RowKit
/-- A fact put by so that no search comes upon it. -/
structure Box (p : Prop) : Prop where
  out : p
theorem lim_mul {n m k : Nat} (hn : n < 2 ^ k) (hm : m < 2 ^ k) : n * m < 2 ^ (k + k) := by rw [Nat.pow_add]; exact Nat.mul_lt_mul'' hn hm
/-! One part set to another value. -/
theorem limb_div {n p j : Nat} (h : p ≤ j) : limb n j = limb (n / 2 ^ (32 * p)) (j - p) := by
  unfold limb
  rw [Nat.div_div_eq_div_mul, ← Nat.pow_add, ← Nat.mul_add, show p + (j - p) = j by omega]
theorem limb_mod {n p j : Nat} (h : j < p) : limb (n % 2 ^ (32 * p)) j = limb n j := by
  unfold limb
  rw [show 2 ^ (32 * p) = 2 ^ (32 * j) * (4294967296 * 2 ^ (32 * (p - j - 1))) by
    rw [← Nat.mul_assoc, ← pow_succ32, ← Nat.pow_add, ← Nat.mul_add, show j + 1 + (p - j - 1) = p by omega]]
  rw [Nat.mod_mul_right_div_self, Nat.mod_mul_right_mod]
/-- The number with another part. -/
def put (n p v : Nat) : Nat := (n / 2 ^ (32 * (p + 1)) * 4294967296 + v) * 2 ^ (32 * p) + n % 2 ^ (32 * p)
theorem put_div {n p v : Nat} : put n p v / 2 ^ (32 * p) = n / 2 ^ (32 * (p + 1)) * 4294967296 + v := by
  have hp : 0 < 2 ^ (32 * p) := Nat.pow_pos (by omega)
  unfold put
  rw [Nat.add_comm, Nat.add_mul_div_right _ _ hp, Nat.div_eq_of_lt (Nat.mod_lt _ hp), Nat.zero_add]
theorem put_mod {n p v : Nat} : put n p v % 2 ^ (32 * p) = n % 2 ^ (32 * p) := by
  unfold put
  rw [Nat.add_comm, Nat.add_mul_mod_self_right, Nat.mod_mod]
theorem limb_put {n p v : Nat} (hv : v < 4294967296) (j : Nat) : limb (put n p v) j = if j = p then v else limb n j := by
  by_cases h : j = p
  · subst h
    rw [if_pos rfl]
    unfold limb
    rw [put_div]
    omega
  · rw [if_neg h]
    by_cases hl : j < p
    · rw [← limb_mod hl, put_mod, limb_mod hl]
    · rw [limb_div (show p + 1 ≤ j by omega), limb_div (n := n) (show p + 1 ≤ j by omega)]
      congr 1
      rw [pow_succ32, ← Nat.div_div_eq_div_mul, put_div, ← Nat.div_div_eq_div_mul]
      have : (n / 2 ^ (32 * (p + 1)) * 4294967296 + v) / 4294967296 = n / 2 ^ (32 * (p + 1)) := by omega
      rw [this, pow_succ32, Nat.div_div_eq_div_mul]
theorem put_eq (n p v : Nat) : put n p v + limb n p * 2 ^ (32 * p) = n + v * 2 ^ (32 * p) := by
  have h1 := Nat.div_add_mod n (2 ^ (32 * p))
  have h2 := div_limb n p
  unfold put
  rw [Nat.add_mul]
  have h3 : n = (n / 2 ^ (32 * (p + 1)) * 4294967296) * 2 ^ (32 * p) + limb n p * 2 ^ (32 * p) + n % 2 ^ (32 * p) := by
    conv => lhs; rw [← h1, h2, Nat.mul_add, Nat.mul_comm, Nat.mul_comm 4294967296, Nat.mul_comm (2 ^ (32 * p)) (limb n p)]
  omega
/-- What is in the sum behind i rows and k parts of the next one. -/
def part (n m i k : Nat) : Nat := n % 2 ^ (32 * i) * m + limb n i * 2 ^ (32 * i) * (m % 2 ^ (32 * k))
theorem part_zero (n m i : Nat) : part n m i 0 = n % 2 ^ (32 * i) * m := by unfold part; simp [Nat.mod_one]
theorem part_next (n m i k : Nat) : part n m i (k + 1) = part n m i k + limb n i * limb m k * 2 ^ (32 * (i + k)) := by
  unfold part
  rw [mod_limb m k, Nat.mul_add, Nat.mul_add 32 i k, Nat.pow_add 2 (32 * i)]
  have : limb n i * 2 ^ (32 * i) * (2 ^ (32 * k) * limb m k) = limb n i * limb m k * (2 ^ (32 * i) * 2 ^ (32 * k)) := by
    generalize 2 ^ (32 * i) = a; generalize 2 ^ (32 * k) = b
    rw [Nat.mul_assoc, Nat.mul_assoc]
    congr 1
    rw [← Nat.mul_assoc a b, Nat.mul_comm (a * b)]
  omega
theorem part_row (n m i : Nat) (hm : m < 2 ^ (32 * 5)) : part n m i 5 = n % 2 ^ (32 * (i + 1)) * m := by
  unfold part
  rw [Nat.mod_eq_of_lt hm, mod_limb n i, Nat.add_mul, Nat.mul_comm (limb n i)]
theorem times_step {n m i k C over x : Nat} (hI : C + over * 2 ^ (32 * (i + k)) = part n m i k) (hx : x = limb C (i + k)) :
    put C (i + k) ((x + limb n i * limb m k + over) % 4294967296) + (x + limb n i * limb m k + over) / 4294967296 * 2 ^ (32 * (i + (k + 1))) = part n m i (k + 1) := by
  rw [part_next, ← hI]
  have h := put_eq C (i + k) ((x + limb n i * limb m k + over) % 4294967296)
  rw [← hx] at h
  rw [show i + (k + 1) = i + k + 1 by omega, pow_succ32]
  generalize 2 ^ (32 * (i + k)) = B at *
  generalize hq : limb n i * limb m k = q at *
  have e1 : (x + q + over) / 4294967296 * (B * 4294967296) + (x + q + over) % 4294967296 * B = (x + q + over) * B := by
    rw [Nat.mul_comm B, ← Nat.mul_assoc, ← Nat.add_mul]
    congr 1
    omega
  rw [Nat.add_mul, Nat.add_mul] at e1
  omega
theorem row_lt {n m i : Nat} (hm : m < 2 ^ (32 * 5)) (j : Nat) (hj : i + 5 ≤ j) : limb (n % 2 ^ (32 * i) * m) j = 0 := by
  refine limb_small ?_
  have h1 : n % 2 ^ (32 * i) < 2 ^ (32 * i) := Nat.mod_lt _ (Nat.pow_pos (by omega))
  have h2 : n % 2 ^ (32 * i) * m < 2 ^ (32 * i) * 2 ^ (32 * 5) := Nat.mul_lt_mul'' h1 hm
  rw [← Nat.pow_add, ← Nat.mul_add] at h2
  exact Nat.lt_of_lt_of_le h2 (Nat.pow_le_pow_right (by omega) (by omega))
set_option maxRecDepth 100000 in
set_option maxHeartbeats 4000000 in
theorem rTimes_nat (n m p : Nat) (hp : p = n * m) (na nb : Bool) (r : Bool) (hr : r = ((na != nb) && !(decide (p = 0)))) (hn : n < 2 ^ (32 * 5)) (hm : m < 2 ^ (32 * 5)) (w : World) :
    Calls Try.prog 73 #[bigM n na, bigM m nb] w fun e w' => e = .returned (bigM p r) ∧ Below w.heap.size w w' := by
  have HR := hid hr; have HN := hid hn; have HM := hid hm; have HPP := Box.mk hp; clear hr hn hm hp
  unfold bigM
  go_enter Try.func73, Try.ntmps73
  go_upto_region 2 with (fail)
  rw [← arr_zero]
  obtain ⟨h1, h2, h3, hb⟩ := al3 w (.cells (arr (limb n) na) 123) (.cells (arr (limb m) nb) 123) (.cells (arr (fun _ => 0) false) 123)
  have h4 := Blk.new (w := ((w.alloc (.cells (arr (limb n) na) 123)).alloc (.cells (arr (limb m) nb) 123)).alloc (.cells (arr (fun _ => 0) false) 123)) (cs := arr (fun _ => 0) false) (t := 123) (k := w.heap.size + 1 + 1 + 1) (by simp)
  replace h1 := Blk.alloc h1 (.cells (arr (fun _ => 0) false) 123)
  replace h2 := Blk.alloc h2 (.cells (arr (fun _ => 0) false) 123)
  replace h3 := Blk.alloc h3 (.cells (arr (fun _ => 0) false) 123)
  replace hb := hb.alloc (by simp; omega) (.cells (arr (fun _ => 0) false) 123)
  generalize (((w.alloc (.cells (arr (limb n) na) 123)).alloc (.cells (arr (limb m) nb) 123)).alloc (.cells (arr (fun _ => 0) false) 123)).alloc _ = W at *
  have H1 := hid h1; have H2 := hid h2; have H3 := hid h3; have H4 := hid h4; have HB := hid hb
  clear h1 h2 h3 h4 hb
  go_wp2
  go_loopw [6,7,8,9,10,11,12,13,14,15,16,17,18,19,20,21,22,23,24,25,26,27,28,29,30,31,32,33,34,35,36,37,38,39,40,41,42,43,44,45,46,47,48,49] (fun t6 _ _ _ _ _ _ _ _ _ _ _ _ _ _ _ _ _ _ _ _ _ _ _ _ _ _ _ _ _ _ _ _ _ _ _ _ _ _ _ _ _ _ _ wr => ∃ i : Nat, i ≤ 5 ∧ t6 = .int .i64 i ∧ Blk wr w.heap.size (arr (limb n) na) 123 ∧ Blk wr (w.heap.size + 1) (arr (limb m) nb) 123 ∧ Blk wr (w.heap.size + 1 + 1) (arr (fun _ => 0) false) 123 ∧ Blk wr (w.heap.size + 1 + 1 + 1) (arr (limb (n % 2 ^ (32 * i) * m)) false) 123 ∧ Below w.heap.size w wr) (fun t6 _ _ _ _ _ _ _ _ _ _ _ _ _ _ _ _ _ _ _ _ _ _ _ _ _ _ _ _ _ _ _ _ _ _ _ _ _ _ _ _ _ _ _ wr => 5 - (intOf t6).toNat)
  case atStart => exact ⟨0, by omega, rfl, H1.out, H2.out, H3.out, by rw [show n % 2 ^ (32 * 0) * m = 0 by simp [Nat.mod_one], arr_congr false (g := fun _ => 0) (fun i _ => limb_zero i)]; exact H4.out, HB.out⟩
  case round =>
    obtain ⟨i, hi, rfl, hA, hB, hC, hD, hW⟩ := hrel
    have HA := hid hA; have HBb := hid hB; have HC := hid hC; have HD := hid hD; have HW := hid hW
    clear hA hB hC hD hW
    by_cases hlt : i < 5
    · have ca : wr.cell? ⟨w.heap.size, i, none⟩ = some (.int .u64 (limb n i : Nat)) := by rw [HA.out.cell, arr_get _ _ i (by omega)]
      have CA := hid ca; clear ca
      go_wp2
      rw [show decide ((i : Int) < 5) = true by simp; omega]
      go_loopw [7,8,9,14,15,16,17,18,19,20,21,22,23,24,25,26,27,28,29,30,31,32,33,34,35,36,37,38,39,40,41,42,43,44] (fun t7 t8 _ _ _ _ _ _ _ _ _ _ _ _ _ _ _ _ _ _ _ _ _ _ _ _ _ _ _ _ _ _ _ _ wr => ∃ (k C over : Nat), k ≤ 5 ∧ t8 = .int .i64 k ∧ t7 = .int .u64 over ∧ over < 4294967296 ∧ C + over * 2 ^ (32 * (i + k)) = part n m i k ∧ (∀ j, i + 5 ≤ j → limb C j = 0) ∧ Blk wr w.heap.size (arr (limb n) na) 123 ∧ Blk wr (w.heap.size + 1) (arr (limb m) nb) 123 ∧ Blk wr (w.heap.size + 1 + 1) (arr (fun _ => 0) false) 123 ∧ Blk wr (w.heap.size + 1 + 1 + 1) (arr (limb C) false) 123 ∧ Below w.heap.size w wr) (fun _ t8 _ _ _ _ _ _ _ _ _ _ _ _ _ _ _ _ _ _ _ _ _ _ _ _ _ _ _ _ _ _ _ _ wr => 5 - (intOf t8).toNat)
      case atStart => exact ⟨0, n % 2 ^ (32 * i) * m, 0, by omega, rfl, rfl, by omega, by rw [part_zero]; omega, fun j hj => row_lt HM.out j hj, HA.out, HBb.out, HC.out, HD.out, HW.out⟩
      case round =>
        clear HA HBb HC HD HW CA
        obtain ⟨k, C, over, hk, rfl, rfl, ho, hI, hZ, hA, hB, hC, hD, hW⟩ := hrel
        have HA := hid hA; have HBb := hid hB; have HC := hid hC; have HD := hid hD; have HW := hid hW; have HI := Box.mk hI; have HZ := Box.mk hZ
        clear hA hB hC hD hW hI hZ
        by_cases hlk : k < 5
        · obtain ⟨q, hq⟩ : ∃ q, q = i + k := ⟨_, rfl⟩
          have q10 : (q : Int) < 10 := by omega
          have hqi : (i : Int) + (k : Int) = (q : Int) := by omega
          have e6 : wrap64 (q : Int) = (q : Int) := by unfold wrap64; omega
          have e7 : IntKind.i64.wrap (q : Int) = (q : Int) := by rw [IntKind.wrap_i64]; omega
          have i0 : (0 : Int) ≤ (i : Int) := by omega
          have i1 : (i : Int) < 10 := by omega
          have k0 : (0 : Int) ≤ (k : Int) := by omega
          have k1 : (k : Int) < 10 := by omega
          have q0 : (0 : Int) ≤ (q : Int) := by omega
          have c1 : wr.cell? ⟨w.heap.size, i, none⟩ = some (.int .u64 (limb n i : Nat)) := by rw [HA.out.cell, arr_get _ _ i (by omega)]
          have c2 : wr.cell? ⟨w.heap.size + 1, k, none⟩ = some (.int .u64 (limb m k : Nat)) := by rw [HBb.out.cell, arr_get _ _ k (by omega)]
          have c3 : wr.cell? ⟨w.heap.size + 1 + 1 + 1, q, none⟩ = some (.int .u64 (limb C q : Nat)) := by rw [HD.out.cell, arr_get _ _ q (by omega)]
          have HS := Box.mk (times_step HI.out (show limb C q = limb C (i + k) by rw [hq]))
          have l1 := limb_lt n i
          have l2 := limb_lt m k
          have l3 := limb_lt C q
          have l4 : limb n i * limb m k ≤ 4294967295 * 4294967295 := Nat.mul_le_mul (by omega) (by omega)
          obtain ⟨z, hz⟩ : ∃ z, z = limb n i * limb m k := ⟨_, rfl⟩
          have e1 : ((limb n i : Nat) : Int) * ((limb m k : Nat) : Int) = (z : Int) := by rw [hz]; exact (Int.natCast_mul _ _).symm
          rw [← hz] at HS l4
          rw [← hq] at HS
          have HZ2 := hid hz; have HQ := hid hq
          clear hz hq
          generalize limb n i = x at *
          generalize limb m k = y at *
          generalize limb C q = v at *
          have e2 : IntKind.u64.wrap ((x : Int) * (y : Int)) = (z : Int) := by rw [e1, IntKind.wrap_u64]; omega
          clear e1
          have e3 : IntKind.u64.wrap ((v : Int) + (z : Int)) = (v : Int) + (z : Int) := by rw [IntKind.wrap_u64]; omega
          have e4 : IntKind.u64.wrap ((v : Int) + (z : Int) + (over : Int)) = (v : Int) + (z : Int) + (over : Int) := by rw [IntKind.wrap_u64]; omega
          have e5 : bits BinOp.and IntKind.u64 ((v : Int) + (z : Int) + (over : Int)) 4294967295 = (((v + z + over) % 4294967296 : Nat) : Int) := by rw [← u64_mask (v + z + over) (by omega)]; simp
          have L3 := hid l3; have L4 := hid l4; have LO := hid ho
          have E2 := hid e2; have E3 := hid e3; have E4 := hid e4; have E5 := hid e5
          clear l1 l2 l3 l4 ho e2 e3 e4 e5
          go_wp2
          refine wp_region_early [0, 1, 2, 3, 4, 5, 6, 7, 8, 9, 10, 11, 12, 13, 14, 15, 16, 17, 18] [] [] (fun wx => wx.cell? ⟨w.heap.size, i, none⟩ = some (.int .u64 (x : Int)) ∧ wx.cell? ⟨w.heap.size + 1, k, none⟩ = some (.int .u64 (y : Int)) ∧ wx.cell? ⟨w.heap.size + 1 + 1 + 1, q, none⟩ = some (.int .u64 (v : Int))) (by kernel_rfl) (by kernel_rfl) (by kernel_rfl) (by rfl) ⟨c1, c2, c3⟩ ?_
          apply Exists.intro
          refine ⟨fun wx hx => ?_, ?_⟩
          · obtain ⟨x1, x2, x3⟩ := hx
            have e2 := E2.out; have e3 := E3.out; have e4 := E4.out
            repeat (refine seI_step rfl (fun K hK => ?_); go_simp; refine hK _ ?_; clear hK K)
            exact seI_nil rfl
          refine wpTA_nil .nil ?_
          go_wp2
          refine NoPanic.normal ?_
          have e5 := E5.out
          have f1 : wr.frozen? ⟨w.heap.size + 1 + 1 + 1, q, none⟩ = false := HD.out.frozen q
          go_wp2
          go_roundw
          case rel =>
            refine ⟨k + 1, put C q ((v + z + over) % 4294967296), (v + z + over) / 4294967296, by omega, by go_num, by simp, ?_, HS.out, ?_, HA.out.other (by omega), HBb.out.other (by omega), HC.out.other (by omega), ?_, (HW.out.setCell (p := ⟨w.heap.size + 1 + 1 + 1, q, none⟩) (by simp; omega) _).drew⟩
            · have h3 := L3.out; have h4 := L4.out; have h5 := LO.out; omega
            · intro j hj
              rw [limb_put (Nat.mod_lt _ (by omega)), if_neg (by omega)]
              exact HZ.out j hj
            · have h1 := HD.out.setCell q (.int .u64 (((v + z + over) % 4294967296 : Nat) : Int))
              rw [arr_set _ _ _ q (by omega)] at h1
              rw [arr_congr (g := fun k => if k = q then (v + z + over) % 4294967296 else limb C k) false (fun k _ => limb_put (Nat.mod_lt _ (by omega)) k)]
              have q4 : ((v : Int) + (z : Int) + (over : Int)) % 4294967296 = (((v + z + over) % 4294967296 : Nat) : Int) := by omega
              rw [q4]
              exact h1
          case measure => simp [intOf]; omega
        · obtain rfl : k = 5 := by omega
          have hD2 : limb C (i + 5) = 0 := HZ.out _ (by omega)
          have HP := Box.mk (show put C (i + 5) over = n % 2 ^ (32 * (i + 1)) * m by
            have h1 := put_eq C (i + 5) over
            rw [hD2] at h1
            rw [← part_row n m i HM.out, ← HI.out]
            omega)
          have LO := Box.mk ho
          clear hD2 ho
          obtain ⟨q, hq⟩ : ∃ q, q = i + 5 := ⟨_, rfl⟩
          rw [← hq] at HP
          have q10 : (q : Int) < 10 := by omega
          have e7 : IntKind.i64.wrap ((i : Int) + 5) = (q : Int) := by rw [IntKind.wrap_i64]; omega
          have q0 : (0 : Int) ≤ (q : Int) := by omega
          have HQ := Box.mk hq
          clear hq
          have f1 : wr.frozen? ⟨w.heap.size + 1 + 1 + 1, q, none⟩ = false := HD.out.frozen q
          have c3 : wr.cell? ⟨w.heap.size + 1 + 1 + 1, q, none⟩ = some (.int .u64 (limb C q : Nat)) := by rw [HD.out.cell, arr_get _ _ q (by omega)]
          generalize limb C q = v at *
          go_wp2
          have hq := HQ.out
          go_roundw
          case rel =>
            refine ⟨i + 1, by omega, by go_num, HA.out.other (by omega), HBb.out.other (by omega), HC.out.other (by omega), ?_, HW.out.setCell (p := ⟨w.heap.size + 1 + 1 + 1, q, none⟩) (by simp; omega) _⟩
            have h1 := HD.out.setCell q (.int .u64 ((over : Nat) : Int))
            rw [arr_set _ _ _ q (by omega)] at h1
            rw [← HP.out, arr_congr (g := fun k => if k = q then over else limb C k) false (fun k _ => limb_put LO.out k)]
            exact h1
          case measure => simp [intOf]; omega
    · obtain rfl : i = 5 := by omega
      rw [Nat.mod_eq_of_lt HN.out] at HD
      have hL := lim_mul HN.out HM.out
      rw [show 32 * 5 + 32 * 5 = 32 * 10 from rfl, ← lim_eq, ← HPP.out] at hL
      rw [← HPP.out] at HD
      have HL := Box.mk hL
      clear hL
      have cna : wr.cell? ⟨w.heap.size, 10, none⟩ = some (.bool na) := by rw [HA.out.cell, arr_neg]
      have cnb : wr.cell? ⟨w.heap.size + 1, 10, none⟩ = some (.bool nb) := by rw [HBb.out.cell, arr_neg]
      clear HA HBb HN HM H1 H2 H3 H4 HB
      by_cases hnn : na = nb
      case neg =>
        obtain rfl : na = !nb := by cases na <;> cases nb <;> simp_all
        have hnn : ((!nb) != nb) = true := by cases nb <;> rfl
        have HRR : Box (decide (p = 0) = !r) := ⟨by rw [HR.out, hnn]; simp⟩
        clear HR hnn
        go_wp2_with (refine loadBigG rfl (.tmp 5) rfl (w.heap.size + 1 + 1 + 1) rfl (limb p) false HD.out ?_)
        refine (rzero_any p false HL.out _).mono ?_
        rintro e W1 ⟨rfl, hb1⟩
        have G1 := hid (HD.out.below hb1 (Nat.le_refl _))
        have G2 := hid (HC.out.below hb1 (Nat.le_refl _))
        have GB := hid (HW.out.trans (hb1.mono HW.out.size))
        clear hb1 cna cnb
        have K1 := hid (G1.out.setCell 10 (.bool r))
        have K2 := hid (G2.out.other (k := w.heap.size + 1 + 1 + 1) (i := 10) (v := .bool r) (by omega))
        have KB := hid (GB.out.setCell (p := ⟨w.heap.size + 1 + 1 + 1, 10, none⟩) (by simp; omega) (.bool r))
        rw [arr_setNeg] at K1
        have hf := G1.out.frozen 10
        have hc : W1.cell? ⟨w.heap.size + 1 + 1 + 1, 10, none⟩ = some (.bool false) := G1.out.cell 10
        rw [HRR.out]
        go_wp2_with (first
          | (refine loadBig rfl (.tmp 5) rfl (w.heap.size + 1 + 1 + 1) rfl (limb p) r K1.out ?_)
          | (refine storeBig rfl (.tmp 4) (.tmp 61) rfl (w.heap.size + 1 + 1) (limb p) r rfl rfl _ K2.out rfl ?_))
        refine bodyPost_ret (retBig rfl _ _ (w.heap.size + 1 + 1) (limb p) r rfl (K2.out.setRow _)) rfl ⟨rfl, ?_⟩
        exact KB.out.trans (Below_setRow (Below.refl _ _) (by omega) _)
      case pos =>
        subst hnn
        obtain rfl : r = false := by rw [HR.out]; simp
        have K1 := hid (HD.out.setCell 10 (.bool false))
        have K2 := hid (HC.out.other (k := w.heap.size + 1 + 1 + 1) (i := 10) (v := .bool false) (by omega))
        have KB := hid (HW.out.setCell (p := ⟨w.heap.size + 1 + 1 + 1, 10, none⟩) (by simp; omega) (.bool false))
        rw [arr_setNeg] at K1
        have hf := HD.out.frozen 10
        have hc : wr.cell? ⟨w.heap.size + 1 + 1 + 1, 10, none⟩ = some (.bool false) := HD.out.cell 10
        go_wp2_with (first
          | (refine loadBig rfl (.tmp 5) rfl (w.heap.size + 1 + 1 + 1) rfl (limb p) false K1.out ?_)
          | (refine storeBig rfl (.tmp 4) (.tmp 61) rfl (w.heap.size + 1 + 1) (limb p) false rfl rfl _ K2.out rfl ?_))
        refine bodyPost_ret (retBig rfl _ _ (w.heap.size + 1 + 1) (limb p) false rfl (K2.out.setRow _)) rfl ⟨rfl, ?_⟩
        exact KB.out.trans (Below_setRow (Below.refl _ _) (by omega) _)
end Go.Proofs.Ytecmpjccdhmeeaa
end
section
/- Lists of ints: 'Sum' of the code and of the reference, 'Same'. -/
namespace Go.Proofs.Ytecmpjccdhmeeaa
open Go.RowKit
theorem seI_load_row {P : Program} {ops : Array Oper} {wx : World} {Q : Act → Prop} {i : Nat} {r : List Nat} {a : Act} {o : Oper} (ho : ops[i]? = some o) (hgd : o.guard = none) (ty : TypeId) (x : Operand) (hop : o.op = .load ty x)
    (g : Nat) (hx : a.eval x = .pointer (some ⟨g, 0, none⟩)) (t : TypeId) (cs : Array Value) (fr : Nat × Nat) (d : TypeDesc) (hg : wx.heap[g]? = some (.cells cs t fr))
    (hu : P.underlying ty = some d) (hd : (match d with | .struct _ | .array _ _ => true | _ => false) = true) (hi : (P.info? ty).map (·.size) = some cs.size)
    (h : seI P ops wx Q r (a.put o.dst (.agg cs))) : seI P ops wx Q (i :: r) a := by
  refine seI_step ho fun K hK => ?_
  rw [if_pos (by simp [Region.wanted, hgd])]
  unfold Oper.still execOp
  simp only [hop, hx, Instr.loadAt, Instr.sureAddr, Sem.run_bind, Sem.run_pure, Result.andThen_ok, run_loadVar_row wx g t ty cs fr d hg hu hd hi]
  rw [Oper.stillUpon_value]
  exact hK _ h
theorem seI_loadBig {ops : Array Oper} {wx : World} {Q : Act → Prop} {i : Nat} {r : List Nat} {a : Act} {o : Oper} (ho : ops[i]? = some o) (hgd : o.guard = none) (x : Operand) (hop : o.op = .load 123 x) (g : Nat) (hx : a.eval x = .pointer (some ⟨g, 0, none⟩))
    (f : Nat → Nat) (neg : Bool) (hg : Blk wx g (arr f neg) 123) (h : seI Try.prog ops wx Q r (a.put o.dst (.agg (arr f neg)))) : seI Try.prog ops wx Q (i :: r) a :=
  seI_load_row ho hgd 123 x hop g hx 123 (arr f neg) (0, 0) _ hg Try.underlying123 rfl (by kernel_rfl) h
def total (zs : List Int) : Int := zs.foldl (· + ·) 0
theorem total_take_succ {zs : List Int} {k : Nat} (h : k < zs.length) : total (zs.take (k + 1)) = total (zs.take k) + zs[k] := by
  unfold total
  rw [List.take_succ_eq_append_getElem h, List.foldl_append]
  rfl
theorem total_bound {zs : List Int} (h : ints zs) : ∀ k, k ≤ zs.length → -9223372036854775808 * (k : Int) ≤ total (zs.take k) ∧ total (zs.take k) ≤ 9223372036854775808 * (k : Int) := by
  intro k
  induction k with
  | zero => intro _; simp [total]
  | succ k ih =>
    intro hk
    have := ih (by omega)
    have hz := h zs[k] (List.getElem_mem _)
    rw [total_take_succ (by omega)]
    omega
theorem add64 (x y : Int) (hx : 0 ≤ x) (hy : 0 ≤ y) (w : World) : (callFunc 88 #[.int .u64 x, .int .u64 y, .int .u64 0]).run Try.prog w =
    .ok (.value (.tuple #[.int .u64 ((x + y) % 18446744073709551616), .int .u64 ((x + y) / 18446744073709551616)])) w := by
  rw [run_callFunc_extern Try.func88 (by kernel_rfl) (by kernel_rfl) (by kernel_rfl) (e := add64Entry) (by kernel_rfl), run_add64 x y 0 hx hy (by omega) (by omega)]
  simp [Result.andThen]
def sLo (z : Int) : Int := z % 18446744073709551616
def sHi (z : Int) : Int := z / 18446744073709551616 % 18446744073709551616
theorem lo_step (s n : Int) : (sLo s + IntKind.u64.wrap n) % 18446744073709551616 = sLo (s + n) := by rw [IntKind.wrap_u64]; unfold sLo; omega
theorem hi_step (s n : Int) (h1 : -9223372036854775808 ≤ n) (h2 : n ≤ 9223372036854775807) :
    IntKind.u64.wrap (sHi s + IntKind.u64.wrap (IntKind.u64.wrap (n / 9223372036854775808) + (sLo s + IntKind.u64.wrap n) / 18446744073709551616)) = sHi (s + n) := by
  simp only [IntKind.wrap_u64]
  have e1 : n = n % 18446744073709551616 + 18446744073709551616 * (n / 9223372036854775808) := by omega
  have e2 : s = sLo s + 18446744073709551616 * (s / 18446744073709551616) := by unfold sLo; omega
  have e3 : (s + n) / 18446744073709551616 = s / 18446744073709551616 + n / 9223372036854775808 + (sLo s + n % 18446744073709551616) / 18446744073709551616 := by
    have e4 : s + n = (sLo s + n % 18446744073709551616) + 18446744073709551616 * (s / 18446744073709551616 + n / 9223372036854775808) := by omega
    generalize sLo s + n % 18446744073709551616 = z at *
    generalize s / 18446744073709551616 = q at *
    generalize n / 9223372036854775808 = r at *
    omega
  unfold sHi
  rw [e3]
  generalize (sLo s + n % 18446744073709551616) / 18446744073709551616 = z
  generalize s / 18446744073709551616 = q
  generalize n / 9223372036854775808 = r
  omega
set_option maxRecDepth 100000 in
set_option maxHeartbeats 2000000 in
theorem aSum_any (a : Option Addr) (cap : Nat) (zs : List Int) (w : World) (v : Value) (hv : v = fitV (total zs)) (hi : ints zs) (hl : zs.length ≤ 1000000) (hr : RowAt w a (zs.map iV)) :
    Calls Try.prog 66 #[.slice a zs.length cap] w fun e w' => e = .returned v ∧ w' = w := by
  have HR := hid hr; have HI := hid hi; have HV := hid hv; have HL := hid hl
  clear hr hi hv
  go_enter Try.func66, Try.ntmps66
  go_wp2
  go_loop [4,5,7,8,11,12,13,14,15,16,17,18,19,20,21,22,23,24,25,26,27,28,29] (fun t4 t5 _ _ t11 _ _ _ _ _ _ _ _ _ _ _ _ _ _ _ _ _ _ => ∃ k : Nat, k ≤ zs.length ∧ t11 = .int .i64 k ∧ t4 = .int .u64 (sHi (total (zs.take k))) ∧ t5 = .int .u64 (sLo (total (zs.take k)))) (fun _ _ _ _ t11 _ _ _ _ _ _ _ _ _ _ _ _ _ _ _ _ _ _ => zs.length - (intOf t11).toNat)
  case atStart => exact ⟨0, by omega, rfl, rfl, rfl⟩
  case round =>
    obtain ⟨k, hk, rfl, rfl, rfl⟩ := hrel
    by_cases hlt : k < zs.length
    · obtain ⟨b, off, rfl, hc⟩ := HR.out.int hlt
      have hz := HI.out zs[k] (List.getElem_mem _)
      have HT := hid (total_take_succ hlt)
      have hB := hid (total_bound HI.out k (by omega))
      have hB2 := hid (total_bound HI.out (k + 1) (by omega))
      generalize zs[k] = n at *
      obtain ⟨s, hs⟩ : ∃ s, s = total (zs.take k) := ⟨_, rfl⟩
      rw [← hs] at HT hB ⊢
      clear hs
      obtain ⟨x, hx⟩ : ∃ x, x = sLo s := ⟨_, rfl⟩
      obtain ⟨y, hy⟩ : ∃ y, y = sHi s := ⟨_, rfl⟩
      rw [← hx, ← hy]
      have x1 : 0 ≤ x := by rw [hx]; unfold sLo; omega
      obtain ⟨u, hu⟩ : ∃ u, u = IntKind.u64.wrap n := ⟨_, rfl⟩
      have hn := hu.symm
      have u1 : 0 ≤ u := by rw [hu, IntKind.wrap_u64]; omega
      have HX := hid hx; have HY := hid hy; have HU := hid hu; have HZ := hid hz
      clear hx hy hu hz
      have hadd := fun w => add64 x u x1 u1 w
      go_wp2_with (simp only [hadd])
      go_round
      case rel =>
        refine ⟨k + 1, by omega, by go_num, ?_, ?_⟩
        · rw [HT.out, ← hi_step s n HZ.out.1 HZ.out.2, HX.out, HY.out, HU.out]
        · rw [HT.out, ← lo_step, HX.out, HU.out]
      case measure => simp [intOf]; omega
    · obtain rfl : k = zs.length := by omega
      have hB := hid (total_bound HI.out zs.length (by omega))
      rw [List.take_length] at hB ⊢
      generalize total zs = s at *
      obtain ⟨x, hx⟩ : ∃ x, x = sLo s := ⟨_, rfl⟩
      obtain ⟨y, hy⟩ : ∃ y, y = sHi s := ⟨_, rfl⟩
      rw [← hx, ← hy]
      by_cases hf : fitB s = true
      · have hf2 : -9223372036854775808 ≤ s ∧ s ≤ 9223372036854775807 := by simpa [fitB] using hf
        obtain rfl : v = .tuple #[.int .i64 s, .bool true] := by rw [HV.out]; exact fitV_yes hf2.1 hf2.2
        have hw : wrap64 x = s := by rw [hx]; unfold sLo wrap64; omega
        have hy2 : (y != IntKind.u64.wrap (s / 9223372036854775808)) = false := by rw [hy, IntKind.wrap_u64]; unfold sHi; simp; omega
        clear HV hf hf2 hx hy hB
        have HW := hid hw
        go_wp2
        go_ret2
        exact ⟨rfl, rfl⟩
      · have hf2 : s < -9223372036854775808 ∨ 9223372036854775807 < s := by simp [fitB] at hf; omega
        obtain rfl : v = .tuple #[.int .i64 0, .bool false] := by rw [HV.out]; exact fitV_no hf2
        have hy2 : (y != IntKind.u64.wrap (wrap64 x / 9223372036854775808)) = true := by
          have := hB.out; rw [hy, hx, IntKind.wrap_u64]; unfold sHi sLo wrap64; simp; omega
        clear HV hf hf2 hx hy hB
        go_wp2
        go_ret2
        exact ⟨rfl, rfl⟩
end Go.Proofs.Ytecmpjccdhmeeaa
end
section
/- The law of sums, walked. -/
namespace Go.Proofs.Ytecmpjccdhmeeaa
open Go.RowKit
theorem Try.infoInt : (Try.prog.info? 3).map (fun i => (i.zero, i.size, i.bytes)) = some (some (.int .i64 0), 1, 8) := by kernel_rfl
end Go.Proofs.Ytecmpjccdhmeeaa
end
section
/- The law of pairs, walked. -/
namespace Go.Proofs.Ytecmpjccdhmeeaa
open Go.RowKit
theorem sign_mul (x y : Int) : decide (x * y < 0) = ((decide (x < 0) != decide (y < 0)) && !(decide ((x * y).natAbs = 0))) := by
  rcases Int.lt_trichotomy x 0 with hx | hx | hx <;> rcases Int.lt_trichotomy y 0 with hy | hy | hy
  · have := Int.mul_pos_of_neg_of_neg hx hy
    rw [decide_eq_true hx, decide_eq_true hy, decide_eq_false (by omega)]; rfl
  · subst hy; simp
  · have := Int.mul_neg_of_neg_of_pos hx hy
    rw [decide_eq_true hx, decide_eq_false (show ¬ y < 0 by omega), decide_eq_true this, decide_eq_false (show ¬ (x * y).natAbs = 0 by omega)]; rfl
  · subst hx; simp
  · subst hx; simp
  · subst hx; simp
  · have := Int.mul_neg_of_pos_of_neg hx hy
    rw [decide_eq_false (show ¬ x < 0 by omega), decide_eq_true hy, decide_eq_true this, decide_eq_false (show ¬ (x * y).natAbs = 0 by omega)]; rfl
  · subst hy; simp
  · have := Int.mul_pos hx hy
    rw [decide_eq_false (show ¬ x < 0 by omega), decide_eq_false (show ¬ y < 0 by omega), decide_eq_false (show ¬ x * y < 0 by omega)]; rfl
theorem rTimes_any (x y : Int) (hx : x.natAbs < 2 ^ (32 * 5)) (hy : y.natAbs < 2 ^ (32 * 5)) (w : World) :
    Calls Try.prog 73 #[bigOf x, bigOf y] w fun e w' => e = .returned (bigOf (x * y)) ∧ Below w.heap.size w w' :=
  rTimes_nat x.natAbs y.natAbs (x * y).natAbs (Int.natAbs_mul x y) (decide (x < 0)) (decide (y < 0)) (decide (x * y < 0)) (sign_mul x y) hx hy w
theorem fitV_out (z : Int) : ∃ x o, fitV z = .tuple #[.int .i64 x, .bool o] := ⟨_, _, rfl⟩
end Go.Proofs.Ytecmpjccdhmeeaa
end
section
/- 'Blocks' of both, walked. -/
namespace Go.Proofs.Ytecmpjccdhmeeaa
open Go.RowKit
/-- How many blocks, and whether there are any to be told. -/
def blkB (u b : Int) : Bool := decide (0 ≤ u ∧ 1 ≤ b)
def blkV (u b : Int) : Int := if blkB u b = true then (u + b - 1) / b else 0
def blkT (u b : Int) : Value := .tuple #[.int .i64 (blkV u b), .bool (blkB u b)]
theorem blkT_no {u b : Int} (h : u < 0 ∨ b < 1) : blkT u b = .tuple #[.int .i64 0, .bool false] := by
  have : blkB u b = false := by unfold blkB; simp; omega
  unfold blkT blkV; rw [this]; rfl
theorem blkT_yes {u b : Int} (h1 : 0 ≤ u) (h2 : 1 ≤ b) : blkT u b = .tuple #[.int .i64 ((u + b - 1) / b), .bool true] := by
  have : blkB u b = true := by unfold blkB; simp; omega
  unfold blkT blkV; rw [this]; rfl
theorem blk_one {u b : Int} (h1 : 1 ≤ u) (h2 : 1 ≤ b) : (u - 1).tdiv b + 1 = (u + b - 1) / b ∧ 0 ≤ (u - 1) / b ∧ (u - 1) / b < u := by
  rw [Int.tdiv_eq_ediv_of_nonneg (by omega), show u + b - 1 = (u - 1) + 1 * b by omega, Int.add_mul_ediv_right _ _ (by omega)]
  refine ⟨rfl, Int.ediv_nonneg (by omega) (by omega), ?_⟩
  have := Int.ediv_le_self b (show 0 ≤ u - 1 by omega)
  omega
set_option maxRecDepth 100000 in
set_option maxHeartbeats 2000000 in
theorem aBlocks_any (u b : Int) (hu : u ≤ 9223372036854775807) (hb : b ≤ 9223372036854775807) (hu0 : -9223372036854775808 ≤ u) (hb0 : -9223372036854775808 ≤ b) (w : World) (v : Value) (hv : v = blkT u b) :
    Calls Try.prog 62 #[.int .i64 u, .int .i64 b] w fun e w' => e = .returned v ∧ w' = w := by
  by_cases h1 : u < 0
  · obtain rfl : v = .tuple #[.int .i64 0, .bool false] := by rw [hv]; exact blkT_no (.inl h1)
    clear hv
    go_enter Try.func62, Try.ntmps62
    go_wp2
    go_ret2
    exact ⟨rfl, rfl⟩
  · by_cases h2 : b < 1
    · obtain rfl : v = .tuple #[.int .i64 0, .bool false] := by rw [hv]; exact blkT_no (.inr h2)
      clear hv
      go_enter Try.func62, Try.ntmps62
      go_wp2
      go_ret2
      exact ⟨rfl, rfl⟩
    · by_cases h3 : u = 0
      · subst h3
        obtain rfl : v = .tuple #[.int .i64 0, .bool true] := by
          rw [hv, blkT_yes (by omega) (by omega), show 0 + b - 1 = b - 1 by omega, Int.ediv_eq_zero_of_lt (by omega) (by omega)]
        clear hv
        go_enter Try.func62, Try.ntmps62
        go_wp2
        go_ret2
        exact ⟨rfl, rfl⟩
      · have hk := blk_one (u := u) (b := b) (by omega) (by omega)
        obtain ⟨k1, k2, k3⟩ := hk
        rw [Int.tdiv_eq_ediv_of_nonneg (by omega)] at k1
        obtain ⟨q, hq⟩ : ∃ q, q = (u - 1) / b := ⟨_, rfl⟩
        rw [← hq] at k1 k2 k3
        obtain rfl : v = .tuple #[.int .i64 (q + 1), .bool true] := by rw [hv, blkT_yes (by omega) (by omega), k1]
        have ht : (u - 1).tdiv b = q := by rw [hq]; exact Int.tdiv_eq_ediv_of_nonneg (by omega)
        have h3' : (u == 0) = false := by simp; omega
        have hb0 : (b == 0) = false := by simp; omega
        have HQ := Box.mk hq
        clear hv k1 hq h3
        go_enter Try.func62, Try.ntmps62
        go_wp2
        go_ret2
        exact ⟨rfl, rfl⟩
theorem blk_two {u b : Int} (h1 : 0 ≤ u) (h2 : 1 ≤ b) : (u % b = 0 → (u + b - 1) / b = u / b) ∧ (u % b ≠ 0 → (u + b - 1) / b = u / b + 1) ∧ 0 ≤ u / b ∧ u / b ≤ u ∧ (u % b ≠ 0 → u / b < u) := by
  have hd := Int.mul_ediv_add_emod u b
  have m0 := Int.emod_nonneg u (show b ≠ 0 by omega)
  have m1 := Int.emod_lt_of_pos u (show 0 < b by omega)
  have q0 : 0 ≤ u / b := Int.ediv_nonneg h1 (by omega)
  have q1 := Int.ediv_le_self b h1
  have e : u + b - 1 = (u % b + b - 1) + (u / b) * b := by rw [Int.mul_comm]; omega
  refine ⟨fun h => ?_, fun h => ?_, q0, q1, fun h => ?_⟩
  · rw [e, Int.add_mul_ediv_right _ _ (by omega), h, Int.ediv_eq_zero_of_lt (by omega) (by omega)]; omega
  · rw [e, Int.add_mul_ediv_right _ _ (by omega), show u % b + b - 1 = (u % b - 1) + 1 * b by omega, Int.add_mul_ediv_right _ _ (by omega), Int.ediv_eq_zero_of_lt (by omega) (by omega)]; omega
  · refine Classical.byContradiction fun h3 => ?_
    · have h4 : u / b = u := by omega
      rw [h4] at hd
      have : u ≤ b * u := by
        have := Int.mul_le_mul_of_nonneg_right h2 h1
        omega
      omega
set_option maxRecDepth 100000 in
set_option maxHeartbeats 2000000 in
theorem rBlocks_any (u b : Int) (hu : u ≤ 9223372036854775807) (hb : b ≤ 9223372036854775807) (hu0 : -9223372036854775808 ≤ u) (hb0 : -9223372036854775808 ≤ b) (w : World) (v : Value) (hv : v = blkT u b) :
    Calls Try.prog 68 #[.int .i64 u, .int .i64 b] w fun e w' => e = .returned v ∧ w' = w := by
  by_cases h1 : u < 0
  · obtain rfl : v = .tuple #[.int .i64 0, .bool false] := by rw [hv]; exact blkT_no (.inl h1)
    clear hv
    go_enter Try.func68, Try.ntmps68
    go_wp2
    go_ret2
    exact ⟨rfl, rfl⟩
  · by_cases h2 : b < 1
    · obtain rfl : v = .tuple #[.int .i64 0, .bool false] := by rw [hv]; exact blkT_no (.inr h2)
      clear hv
      go_enter Try.func68, Try.ntmps68
      go_wp2
      go_ret2
      exact ⟨rfl, rfl⟩
    · have hk := blk_two (u := u) (b := b) (by omega) (by omega)
      obtain ⟨k1, k2, k3, k4, k5⟩ := hk
      have hy := blkT_yes (u := u) (b := b) (by omega) (by omega)
      rw [hy] at hv
      have ht : u.tdiv b = u / b := Int.tdiv_eq_ediv_of_nonneg (by omega)
      have hr : u.tmod b = u % b := Int.tmod_eq_emod_of_nonneg (by omega)
      generalize u / b = q at *
      generalize (u + b - 1) / b = n at *
      generalize u % b = r at *
      by_cases h3 : r = 0
      · obtain rfl : v = .tuple #[.int .i64 q, .bool true] := by rw [hv, k1 h3]
        subst h3
        have hb1 : (b == 0) = false := by simp; omega
        clear hv k1 k2 k5 hy
        go_enter Try.func68, Try.ntmps68
        go_wp2
        go_ret2
        exact ⟨rfl, rfl⟩
      · obtain rfl : v = .tuple #[.int .i64 (q + 1), .bool true] := by rw [hv, k2 h3]
        have k6 := k5 h3
        have hb1 : (b == 0) = false := by simp; omega
        have hr1 : (r != 0) = true := by simp; omega
        clear hv k1 k2 k5 hy h3
        go_enter Try.func68, Try.ntmps68
        go_wp2
        go_ret2
        exact ⟨rfl, rfl⟩
end Go.Proofs.Ytecmpjccdhmeeaa
end
section
/- Usage spread over tiers, and what it costs: tier and rate; walked. -/
namespace Go.Proofs.Ytecmpjccdhmeeaa
open Go.RowKit
def lnCells (l : Ln) : List Value := [.int .i64 l.tier, .int .i64 l.blocks, .int .i64 l.price]
theorem ln_len (l : Ln) : (lnCells l).length = 3 := rfl
theorem ln_one (l : Ln) : ∀ v ∈ lnCells l, v.oneCell' = true := by
  intro v hv
  simp [lnCells] at hv
  rcases hv with rfl | rfl | rfl <;> rfl
abbrev LsAt (n0 : Nat) (w : World) (a : Option Addr) (ls : List Ln) : Prop := Rws lnCells 3 n0 w a ls
theorem line_ret (t : Tar) (a : Option Addr) (c i : Nat) (n : Int) (w : World) (h : TsAt 0 w a t.ts) (hi : i < t.ts.length) (hl : t.ts.length ≤ 1000) :
    Calls Try.prog 86 #[tarV t a c, .int .i64 i, .int .i64 n] w (Ret (.agg #[.int .i64 i, .int .i64 n, .int .i64 t.ts[i].price]) w) := by
  refine ret_in (GTar.line_calls t.grp t.mode t.block a t.ts.length c i n w (fun u w' => u = .agg #[.int .i64 i, .int .i64 n, .int .i64 t.ts[i].price] ∧ Below w.heap.size w w') ?_)
  unfold GTar.line_vc
  refine newB (Bs.refl w) fun g w2 g0 sg n2 z2 b2 B2 => newB B2 fun g' w3 g0' sg' n3 z3 b3 B3 => ?_
  obtain ⟨b, off, rfl, hc⟩ := (h.below B3).get hi
  exact ⟨by omega, by omega, t.ts[i].price, by rw [Int.toNat_natCast, Nat.add_assoc]; exact cellsAt_get hc 1 _ rfl, boxB B3 g0' fun w4 h4 B4 z4 => ⟨rfl, B4⟩⟩
theorem index1_ret (t : Tr) (g : Nat) (x : Int) (w : World) (hc : w.cell? ⟨g, 0, none⟩ = some (.int .i64 x)) :
    Calls Try.prog 100 #[.agg #[.int .i64 t.upto, .int .i64 t.price], .pointer (some ⟨g, 0, none⟩)] w (Ret (.bool (decide (t.upto = 0 ∨ x ≤ t.upto))) w) := by
  refine ret_in (GTar.index1_calls t.upto t.price (some ⟨g, 0, none⟩) w (fun u w' => u = .bool (decide (t.upto = 0 ∨ x ≤ t.upto)) ∧ Below w.heap.size w w') ?_)
  unfold GTar.index1_vc
  refine newB (Bs.refl w) fun g' w2 g0 sg n2 z2 b2 B2 => br_dec (fun h => ⟨by rw [decide_eq_true (.inl h)], B2⟩) fun h => ⟨x, ?_, ?_, B2⟩
  · rw [cell_keep (b2.block g (block_lt_of_cell hc))]; exact hc
  · congr 1; exact decide_eq_decide.2 (by omega)
theorem indexf_ret (a : Option Addr) (c g : Nat) (ts : List Tr) (x : Int) (w : World) (h : TsAt 0 w a ts) (hl : ts.length ≤ 1000) (hG : Good 0 ts) (hc : w.cell? ⟨g, 0, none⟩ = some (.int .i64 x)) :
    Calls Try.prog 99 #[.slice a ts.length c, .func (.func 100) #[] #[.pointer (some ⟨g, 0, none⟩)]] w (Ret (.int .i64 (idx x ts : Nat)) w) := by
  refine ret_in (GTar.indexf_calls a ts.length c (some ⟨g, 0, none⟩) w (fun u w' => u = .int .i64 (idx x ts : Nat) ∧ Below w.heap.size w w') ?_)
  unfold GTar.indexf_vc
  have hlt0 := idx_lt x ts 0 hG
  refine ⟨fun y wx => ∃ i : Nat, y = i ∧ i ≤ ts.length ∧ idx x ts = i + idx x (ts.drop i) ∧ Bs w wx, fun y _ => ts.length - y.toNat, ⟨0, rfl, by omega, by simp, Bs.refl _⟩, ?_⟩
  rintro y wx ⟨i, rfl, hi, he, B⟩
  refine br_dec (fun hlt => ?_) fun hge => ?_
  · have hil : i < ts.length := by omega
    obtain ⟨b, off, rfl, hcc⟩ := (h.below B).get hil
    rw [List.drop_eq_getElem_cons hil] at he
    refine ⟨by omega, by omega, ts[i].upto, ts[i].price, by rw [Int.toNat_natCast]; exact hcc, callB B (index1_ret ts[i] g x wx ((cell_keep (B.block g (block_lt_of_cell hc)) 0).trans hc)) fun w3 b3 B3 => ⟨_, rfl, br_dec (fun hy => ⟨?_, B3⟩) fun hy => ?_⟩⟩
    · rw [he]; unfold idx; rw [if_pos hy]; simp
    · rw [wr64 (by omega) (by omega)]
      have he2 : idx x ts = i + (idx x (ts.drop (i + 1)) + 1) := by rw [he]; conv => lhs; unfold idx; rw [if_neg hy]
      exact ⟨⟨i + 1, by omega, by omega, by omega, B3⟩, by dsimp only; omega⟩
  · obtain rfl : i = ts.length := by omega
    omega
theorem index_ret (t : Tar) (a : Option Addr) (c : Nat) (x : Int) (w : World) (h : TsAt 0 w a t.ts) (hl : t.ts.length ≤ 1000) (hk : chkE t = 0) (hx : 1 ≤ x) :
    Calls Try.prog 87 #[tarV t a c, .int .i64 x] w (Ret (.int .i64 (idx x t.ts : Nat)) w) := by
  refine ret_in (GTar.index_calls t.grp t.mode t.block a t.ts.length c x w (fun u w' => u = .int .i64 (idx x t.ts : Nat) ∧ Below w.heap.size w w') ?_)
  unfold GTar.index_vc
  refine newB (Bs.refl w) fun g w2 g0 sg n2 z2 b2 B2 => newB B2 fun g' w3 g0' sg' n3 z3 b3 B3 => ?_
  have hc3 : w3.cell? ⟨g', 0, none⟩ = some (.int .i64 x) := by rw [cell_of_row _ _ _ _ _ _ n3]; rfl
  refine ⟨x, hc3, br_n (by omega) (callB B3 (check_ret t a c w3 (h.below B3) hl) fun w4 b4 B4 => ⟨_, rfl, br_n (by omega) (callB B4 (indexf_ret a c g' t.ts x w4 (h.below B4) hl (chk_ok hk).2.2.2 ?_) fun w5 b5 B5 => ⟨_, rfl, rfl, B5⟩)⟩)⟩
  rw [cell_keep (b4.block g' (by omega))]; exact hc3
set_option maxRecDepth 10000 in
theorem split_new (t : Tar) (a : Option Addr) (c : Nat) (pos n : Int) (w : World) (h : TsAt 0 w a t.ts) (hk : chkE t = 0) (hn : 0 ≤ n ∧ n ≤ 1073741824) :
    Calls Try.prog 63 #[tarV t a c, .int .i64 pos, .int .i64 n] w fun e w' => (∃ a' c', e = .returned (.tuple #[.slice a' (splitO t pos n).length c', .int .i64 (if posOk pos then 0 else 1)]) ∧ LsAt w.heap.size w' a' (splitO t pos n)) ∧ Below w.heap.size w w' := by
  refine (GTar.split_calls t.grp t.mode t.block a t.ts.length c pos n w (fun u w' => (∃ a' c', u = .tuple #[.slice a' (splitO t pos n).length c', .int .i64 (if posOk pos then 0 else 1)] ∧ LsAt w.heap.size w' a' (splitO t pos n)) ∧ Below w.heap.size w w') ?_).mono (by rintro e w' ⟨v, rfl, ⟨a', c', rfl, h⟩, h2⟩; exact ⟨⟨a', c', rfl, h⟩, h2⟩)
  unfold GTar.split_vc splitO
  obtain ⟨_, hmode, hlen, hG⟩ := chk_ok hk
  refine newB (Bs.refl w) fun g w2 g0 sg n2 z2 b2 B2 => callB B2 (check_ret t a c w2 (h.below B2) (by omega)) fun w3 b3 B3 => ⟨_, rfl, br_n (by omega) ?_⟩
  have bad : ¬ posOk pos → (∃ a' c', (Value.tuple #[.slice none 0 0, .int .i64 1]) = .tuple #[.slice a' (if posOk pos then splitL t pos n else []).length c', .int .i64 (if posOk pos then 0 else 1)] ∧ LsAt w.heap.size w3 a' (if posOk pos then splitL t pos n else [])) ∧ Below w.heap.size w w3 := fun hb => by
    rw [if_neg hb, if_neg hb]
    exact ⟨⟨none, 0, rfl, Rws.nil⟩, B3⟩
  refine br_dec (fun h1 => bad fun k => by have := k.1; omega) fun h1 => br_dec (fun h1 => bad fun k => by have := k.2; omega) fun h2 => br_n (by omega) (br_n (by omega) ?_)
  have hpos : posOk pos := ⟨by omega, by omega⟩
  rw [if_pos hpos, if_pos hpos]
  refine ⟨fun b wx => b = decide (t.mode = 2 ∧ 0 < n) ∧ w3 = wx, br_dec (fun hm => ⟨decide_eq_decide.2 (by omega), rfl⟩) fun hm => ⟨(decide_eq_false (by omega)).symm, rfl⟩, ?_⟩
  rintro b wx ⟨rfl, rfl⟩
  unfold splitL
  refine br_dec (fun hm => ?_) fun hm => ?_
  · rw [if_pos hm]
    refine drewB B3 fun w5 b5 B5 _ => ?_
    rw [wr64 (by omega) (by omega)]
    have hi := idx_lt (pos + n) t.ts 0 hG
    refine callB B5 (index_ret t a c (pos + n) w5 (h.below B5) (by omega) hk (by omega)) fun w6 b6 B6 => ⟨_, rfl, callB B6 (line_ret t a c (idx (pos + n) t.ts) n w6 (h.below B6) hi (by omega)) fun w7 b7 B7 => ⟨_, _, _, rfl, newB B7 fun g' w8 g0' sg' n8 z8 b8 B8 => ⟨⟨_, _, rfl, ?_⟩, B8⟩⟩⟩
    have he : priceAt t.ts (idx (pos + n) t.ts) = (t.ts[idx (pos + n) t.ts]'hi).price := by unfold priceAt; rw [List.getElem?_eq_getElem hi]
    rw [he]
    exact Rws.one n8 g0'
  · rw [if_neg hm]
    have B3s := B3.size
    have b3s := b3.size
    refine ⟨fun x1 x2 a8 n8 c8 wx => ∃ out : List Ln, n8 = out.length ∧ pos ≤ x1 ∧ 0 ≤ x2 ∧ x1 + x2 = pos + n ∧ (out.length : Int) ≤ x1 - pos ∧ out ++ splitG 0 0 t.ts x1 (pos + n) = splitG 0 0 t.ts pos (pos + n) ∧ Own wx w3.heap.size 116 3 (.slice a8 n8 c8) n8 (out.flatMap lnCells) ∧ Bs w wx ∧ w3.heap.size ≤ wx.heap.size, fun _ x2 _ _ _ _ => x2.toNat,
      ⟨[], rfl, by omega, by omega, by omega, by simp, by simp, Own.nil _ _ _ _, B3, by omega⟩, ?_⟩
    rintro x1 x2 a8 n8 c8 wx ⟨out, rfl, hx1, hx2, hxe, hol, hsp, hO, B, hsz⟩
    refine br_dec (fun hgt => ?_) fun hle => ?_
    · rw [wr64 (show -9223372036854775808 ≤ x1 + 1 by omega) (by omega)]
      have hi := idx_lt (x1 + 1) t.ts 0 hG
      have hx := List.getElem?_eq_getElem hi
      obtain ⟨hst, ht1, ht2⟩ := splitG_step t.ts 0 0 x1 (pos + n) hG (by omega) (by omega) (by omega) _ hx
      have hup := (good0_price hG _ (List.getElem_mem hi)).2
      have hup2 : (t.ts[idx (x1 + 1) t.ts]'hi).upto ≤ 1099511627776 ∨ (t.ts[idx (x1 + 1) t.ts]'hi).upto = 0 := good_far t.ts 0 hG _ (List.getElem_mem hi)
      have hk1 : ∀ k, (Value.slice a8 out.length c8).ownBlock = some k → w3.heap.size ≤ k ∧ k < wx.heap.size := fun k hk => hO.lt k hk
      refine callB B (index_ret t a c (x1 + 1) wx (h.below B) (by omega) hk (by omega)) fun w10 b10 B10 => ⟨_, rfl, ?_⟩
      obtain ⟨b, off, ha, hc⟩ := (h.below B10).get hi
      have fin : ∀ m : Int, m = takeN (t.ts[idx (x1 + 1) t.ts]'hi) x1 (pos + n) → Calls Try.prog 86 #[tarV t a c, .int .i64 (idx (x1 + 1) t.ts : Nat), .int .i64 m] w10 fun e_5 w_11 => KeepG [g] w10 w_11 ∧
          ∃ (x71_0 : Int) (x71_1 : Int) (x71_2 : Int), e_5 = .returned (.agg #[.int .i64 x71_0, .int .i64 x71_1, .int .i64 x71_2]) ∧
          newO w_11 (.cells #[.int .i64 x71_0, .int .i64 x71_1, .int .i64 x71_2] 116) fun g_3 w_12 =>
          appO Try.prog [g] w_12 116 3 24 51 a8 out.length c8 (.slice (some ⟨g_3, 0, none⟩) 1 1) fun m73 a73 c73 w_13 =>
          (∃ out' : List Ln, out.length + m73 = out'.length ∧ pos ≤ IntKind.i64.wrap (x1 + m) ∧ 0 ≤ IntKind.i64.wrap (x2 - m) ∧ IntKind.i64.wrap (x1 + m) + IntKind.i64.wrap (x2 - m) = pos + n ∧ (out'.length : Int) ≤ IntKind.i64.wrap (x1 + m) - pos ∧ out' ++ splitG 0 0 t.ts (IntKind.i64.wrap (x1 + m)) (pos + n) = splitG 0 0 t.ts pos (pos + n) ∧ Own w_13 w3.heap.size 116 3 (.slice a73 (out.length + m73) c73) (out.length + m73) (out'.flatMap lnCells) ∧ Bs w w_13 ∧ w3.heap.size ≤ w_13.heap.size) ∧ (IntKind.i64.wrap (x2 - m)).toNat < x2.toNat := by
        rintro m rfl
        rw [wr64 (show -9223372036854775808 ≤ x1 + takeN (t.ts[idx (x1 + 1) t.ts]'hi) x1 (pos + n) by omega) (by omega), wr64 (show -9223372036854775808 ≤ x2 - takeN (t.ts[idx (x1 + 1) t.ts]'hi) x1 (pos + n) by omega) (by omega)]
        refine callB B10 (line_ret t a c _ _ w10 (h.below B10) hi (by omega)) fun w11 b11 B11 => ⟨_, _, _, rfl, newB B11 fun g' w12 g0' sg' n12 z12 b12 B12 => ?_⟩
        have b10s := b10.size
        have b11s := b11.size
        refine appB B12 (((hO.below b10 (Nat.le_refl _)).below b11 (Nat.le_refl _)).below b12 (Nat.le_refl _)) B3s (by omega) (src_block (n := 1) (size := 3) Try.underlying51 n12 rfl rfl) (by unfold maxLen; omega) (by omega) (fun x hx e => ?_) fun a' c' w13 o13 g13 B13 z13 => ?_
        · rw [List.mem_singleton] at hx; subst hx
          have := (hk1 _ e).1
          omega
        refine ⟨⟨out ++ [⟨(idx (x1 + 1) t.ts : Nat), takeN (t.ts[idx (x1 + 1) t.ts]'hi) x1 (pos + n), (t.ts[idx (x1 + 1) t.ts]'hi).price⟩], by simp, by omega, by omega, by omega, by simp; omega, ?_, ?_, B13, by omega⟩, by omega⟩
        · rw [← hsp, hst, List.append_assoc, Int.zero_add]; rfl
        · rw [List.flatMap_append]; exact o13
      subst ha
      refine ⟨by omega, by omega, (t.ts[idx (x1 + 1) t.ts]'hi).upto, by rw [Int.toNat_natCast]; exact cellsAt_get hc 0 _ rfl, br_dec (fun hu => ?_) fun hu => ?_⟩
      · rw [wr64 (show -9223372036854775808 ≤ (t.ts[idx (x1 + 1) t.ts]'hi).upto - x1 by omega) (by omega)]
        exact fin _ (by unfold takeN; rw [if_pos hu]; omega)
      · exact fin _ (by unfold takeN; rw [if_neg hu]; omega)
    · obtain rfl : x2 = 0 := by omega
      rw [splitG_none _ _ _ _ _ hG (by omega), List.append_nil] at hsp
      subst hsp
      exact ⟨⟨a8, c8, rfl, (Rws.ofOwn (by decide) ln_len hO).low (by omega)⟩, B⟩
end Go.Proofs.Ytecmpjccdhmeeaa
end
section
/- What lines cost; what units come to, at most, and how many fit: tier.Cost, rate; walked. -/
namespace Go.Proofs.Ytecmpjccdhmeeaa
open Go.RowKit
def prodsL (ls : List Ln) : List Int := ls.map fun l => l.blocks * l.price
def blksL (ls : List Ln) : List Int := ls.map (·.blocks)
theorem total_cons (z : Int) (zs : List Int) : total (z :: zs) = z + total zs := by
  unfold total
  have key : ∀ (l : List Int) (a b : Int), l.foldl (· + ·) (a + b) = a + l.foldl (· + ·) b := by
    intro l
    induction l with
    | nil => intro a b; rfl
    | cons x r ih => intro a b; simp only [List.foldl_cons]; rw [Int.add_assoc, ih]
  rw [List.foldl_cons, Int.zero_add]
  have := key zs z 0
  rwa [Int.add_zero] at this
theorem total_prods : ∀ ls : List Ln, total (prodsL ls) = costOf ls
  | [] => rfl
  | l :: r => by rw [prodsL, List.map_cons, total_cons]; show _ + total (prodsL r) = _; rw [total_prods r]; rfl
theorem total_blks : ∀ ls : List Ln, total (blksL ls) = blocksOf ls
  | [] => rfl
  | l :: r => by rw [blksL, List.map_cons, total_cons]; show _ + total (blksL r) = _; rw [total_blks r]; rfl
theorem prod_fits {l : Ln} (h : (0 ≤ l.blocks ∧ l.blocks ≤ 1073741824) ∧ 0 ≤ l.price ∧ l.price ≤ 1048576) : 0 ≤ l.blocks * l.price ∧ l.blocks * l.price ≤ 1125899906842624 := ⟨Int.mul_nonneg h.1.1 h.2.1, mul_le_mul_i h.1.2 h.2.2 h.2.1 (by omega)⟩
/-- Lines that are small enough. -/
def LsOk (ls : List Ln) : Prop := (∀ l ∈ ls, (0 ≤ l.blocks ∧ l.blocks ≤ 1073741824) ∧ 0 ≤ l.price ∧ l.price ≤ 1048576) ∧ ls.length ≤ 1000
theorem cost_fits {ls : List Ln} (h : LsOk ls) : 0 ≤ costOf ls ∧ costOf ls ≤ 1125899906842624 * ls.length := by
  obtain ⟨h1, h2⟩ := h
  clear h2
  induction ls with
  | nil => simp [costOf]
  | cons l r ih =>
    have h3 := prod_fits (h1 l (by simp))
    have h4 := ih fun x hx => h1 x (by simp [hx])
    simp only [costOf, List.length_cons]
    push_cast
    omega
theorem cost_ret (a : Option Addr) (c : Nat) (ls : List Ln) (w : World) (h : LsAt 0 w a ls) (ho : LsOk ls) : Calls Try.prog 64 #[.slice a ls.length c] w (Ret (.tuple #[.int .i64 (costOf ls), .bool true]) w) := by
  refine ret_in (GTar.cost_calls a ls.length c w (fun u w' => u = .tuple #[.int .i64 (costOf ls), .bool true] ∧ Below w.heap.size w w') ?_)
  unfold GTar.cost_vc
  have hl := ho.2
  refine ⟨fun a4 n4 c4 x wx => ∃ i : Nat, x = i ∧ i ≤ ls.length ∧ n4 = i ∧ Own wx w.heap.size 3 1 (.slice a4 i c4) i ((prodsL (ls.take i)).map iV) ∧ Bs w wx, fun _ _ _ x _ => ls.length - x.toNat, ⟨0, rfl, by omega, rfl, Own.nil _ _ _ _, Bs.refl _⟩, ?_⟩
  rintro a4 n4 c4 x wx ⟨i, rfl, hi, rfl, hO, B⟩
  have Bs' := B.size
  refine br_dec (fun hlt => ?_) fun hge => ?_
  · have hil : n4 < ls.length := by omega
    obtain ⟨b, off, rfl, hc⟩ := (h.below B).get hil
    have hp := ho.1 _ (List.getElem_mem hil)
    have hf := prod_fits hp
    have hk := fun k hk => hO.lt k hk
    refine ⟨by omega, by omega, ls[n4].tier, ls[n4].blocks, ls[n4].price, by rw [Int.toNat_natCast]; exact hc, newB B fun g w3 g0 sg n3 z3 b3 B3 => boxB B3 g0 fun w4 h4 B4 z4 => ?_⟩
    have o4 := hO.newbox b3 sg h4
    refine callB B4 (ret_same (aMul_any ls[n4].blocks ls[n4].price (by omega) (by omega) (by omega) (by omega) w4 (.tuple #[.int .i64 (ls[n4].blocks * ls[n4].price), .bool true]) (fitV_yes (by omega) (by omega)).symm)) fun w5 b5 B5 => ⟨_, _, rfl, br_f rfl (newB B5 fun g' w6 g0' sg' n6 z6 b6 B6 => ?_)⟩
    have b5s := b5.size
    refine appB B6 ((o4.below b5 (Nat.le_refl _)).below b6 (Nat.le_refl _)) (Nat.le_refl _) B6.size (src_block (n := 1) (size := 1) Try.underlying45 n6 rfl rfl) (by unfold maxLen; omega) (by omega) (fun x hx e => ?_) fun a' c' w7 o7 g7 B7 z7 => ?_
    · rw [List.mem_singleton] at hx; subst hx
      have := (hk _ e).2
      omega
    rw [wr64 (by omega) (by omega)]
    refine ⟨⟨n4 + 1, by omega, by omega, rfl, ?_, B7⟩, by dsimp only; omega⟩
    unfold prodsL at o7 ⊢
    rw [List.take_add_one, List.getElem?_eq_getElem hil, List.map_append, List.map_append]
    exact o7
  · obtain rfl : n4 = ls.length := by omega
    rw [List.take_length] at hO
    have hcf := cost_fits ho
    have hpl : (prodsL ls).length = ls.length := List.length_map _
    have hs := aSum_any a4 c4 (prodsL ls) wx (.tuple #[.int .i64 (costOf ls), .bool true]) (by rw [total_prods]; exact (fitV_yes (by omega) (by omega)).symm) (fun z hz => by
      obtain ⟨l, hl, rfl⟩ := List.mem_map.1 hz
      have := prod_fits (ho.1 l hl)
      omega) (by omega) hO.row
    rw [hpl] at hs
    exact callB B (ret_same hs) fun w8 b8 B8 => ⟨_, _, rfl, rfl, B8⟩
theorem tblocks_ret (a : Option Addr) (c : Nat) (ls : List Ln) (w : World) (h : LsAt 0 w a ls) (ho : LsOk ls) : Calls Try.prog 25 #[.slice a ls.length c] w (Ret (.tuple #[.int .i64 (blocksOf ls), .bool true]) w) := by
  refine ret_in (GTar.tblocks_calls a ls.length c w (fun u w' => u = .tuple #[.int .i64 (blocksOf ls), .bool true] ∧ Below w.heap.size w w') ?_)
  unfold GTar.tblocks_vc
  have hl := ho.2
  refine ⟨fun a4 n4 c4 x wx => ∃ i : Nat, x = i ∧ i ≤ ls.length ∧ n4 = i ∧ Own wx w.heap.size 3 1 (.slice a4 i c4) i ((blksL (ls.take i)).map iV) ∧ Bs w wx, fun _ _ _ x _ => ls.length - x.toNat, ⟨0, rfl, by omega, rfl, Own.nil _ _ _ _, Bs.refl _⟩, ?_⟩
  rintro a4 n4 c4 x wx ⟨i, rfl, hi, rfl, hO, B⟩
  have Bs' := B.size
  refine br_dec (fun hlt => ?_) fun hge => ?_
  · have hil : n4 < ls.length := by omega
    obtain ⟨b, off, rfl, hc⟩ := (h.below B).get hil
    have hk := fun k hk => hO.lt k hk
    refine ⟨by omega, by omega, ls[n4].tier, ls[n4].blocks, ls[n4].price, by rw [Int.toNat_natCast]; exact hc, newB B fun g w3 g0 sg n3 z3 b3 B3 => boxB B3 g0 fun w4 h4 B4 z4 => newB B4 fun g' w6 g0' sg' n6 z6 b6 B6 => ?_⟩
    have o4 := hO.newbox b3 sg h4
    refine appB B6 (o4.below b6 (Nat.le_refl _)) (Nat.le_refl _) B6.size (src_block (n := 1) (size := 1) Try.underlying45 n6 rfl rfl) (by unfold maxLen; omega) (by omega) (fun x hx e => ?_) fun a' c' w7 o7 g7 B7 z7 => ?_
    · rw [List.mem_singleton] at hx; subst hx
      have := (hk _ e).2
      omega
    rw [wr64 (by omega) (by omega)]
    refine ⟨⟨n4 + 1, by omega, by omega, rfl, ?_, B7⟩, by dsimp only; omega⟩
    unfold blksL at o7 ⊢
    rw [List.take_add_one, List.getElem?_eq_getElem hil, List.map_append, List.map_append]
    exact o7
  · obtain rfl : n4 = ls.length := by omega
    rw [List.take_length] at hO
    have hbf : 0 ≤ blocksOf ls ∧ blocksOf ls ≤ 1073741824 * ls.length := by
      have h1 := ho.1
      clear hO hge hl hi ho h
      induction ls with
      | nil => simp [blocksOf]
      | cons l r ih =>
        have h3 := (h1 l (by simp)).1
        have h4 := ih fun x hx => h1 x (by simp [hx])
        simp only [blocksOf, List.length_cons]
        push_cast
        omega
    have hpl : (blksL ls).length = ls.length := List.length_map _
    have hs := aSum_any a4 c4 (blksL ls) wx (.tuple #[.int .i64 (blocksOf ls), .bool true]) (by rw [total_blks]; exact (fitV_yes (by omega) (by omega)).symm) (fun z hz => by
      obtain ⟨l, hl, rfl⟩ := List.mem_map.1 hz
      have := (ho.1 l hl).1
      omega) (by omega) hO.row
    rw [hpl] at hs
    exact callB B (ret_same hs) fun w8 b8 B8 => ⟨_, _, rfl, rfl, B8⟩
theorem units_ret (x : Int) (w : World) : Calls Try.prog 61 #[.int .i64 x] w (Ret (.bool (decide (0 ≤ x ∧ x ≤ 1073741824))) w) := by
  refine ret_in (GTar.units_calls x w (fun u w' => u = .bool (decide (0 ≤ x ∧ x ≤ 1073741824)) ∧ Below w.heap.size w w') ?_)
  unfold GTar.units_vc
  refine br_dec (fun h => ⟨?_, Bs.refl _⟩) fun h => ⟨?_, Bs.refl _⟩
  · congr 1; exact decide_eq_decide.2 (by omega)
  · congr 1; exact (decide_eq_false (by omega)).symm
theorem rdearest_ret (p : Pl) (a a2 : Option Addr) (c c2 : Nat) (w : World) (h : PlAt w p a a2) : Calls Try.prog 65 #[planV p a c a2 c2] w (Ret (.int .i64 (dear p)) w) := by
  refine ret_in (GTar.rdearest_calls p.day p.frm p.til p.base.grp p.base.mode p.base.block a p.base.ts.length c p.other.grp p.other.mode p.other.block a2 p.other.ts.length c2 w (fun u w' => u = .int .i64 (dear p) ∧ Below w.heap.size w w') ?_)
  unfold GTar.rdearest_vc
  exact newB (Bs.refl w) fun g w2 g0 sg n2 z2 b2 B2 => drewB B2 fun w3 b3 B3 _ => callB B3 (dearest_ret p.base a c w3 (h.base.below B3) h.lb) fun w4 b4 B4 => ⟨_, rfl, callB B4 (dearest_ret p.other a2 c2 w4 (h.other.below B4) h.lo) fun w5 b5 B5 => ⟨_, rfl, rfl, B5⟩⟩
theorem blocks_ret (n b : Int) (w : World) (hn : 0 ≤ n ∧ n ≤ 1073741824) (hb : 1 ≤ b ∧ b ≤ 1073741824) : Calls Try.prog 62 #[.int .i64 n, .int .i64 b] w (Ret (.tuple #[.int .i64 (blk n b), .bool true]) w) :=
  ret_same (aBlocks_any n b (by omega) (by omega) (by omega) (by omega) w _ (blkT_yes hn.1 hb.1).symm)
theorem worst_ret (p : Pl) (a a2 : Option Addr) (c c2 : Nat) (n : Int) (w : World) (h : PlAt w p a a2) (hd : -9223372036854775808 ≤ p.day ∧ p.day ≤ 9223372036854775807) :
    Calls Try.prog 24 #[planV p a c a2 c2, .int .i64 n] w (Ret (.tuple #[.int .i64 (worstN p n), .int .i64 (worstE p n)]) w) := by
  refine ret_in (GTar.worst_calls p.day p.frm p.til p.base.grp p.base.mode p.base.block a p.base.ts.length c p.other.grp p.other.mode p.other.block a2 p.other.ts.length c2 n w (fun u w' => u = .tuple #[.int .i64 (worstN p n), .int .i64 (worstE p n)] ∧ Below w.heap.size w w') ?_)
  unfold GTar.worst_vc
  have bad : ∀ w', Below w.heap.size w w' → worstE p n = 1 → Value.tuple #[.int .i64 0, .int .i64 1] = .tuple #[.int .i64 (worstN p n), .int .i64 (worstE p n)] ∧ Below w.heap.size w w' := fun w' B hE => by
    unfold worstN
    rw [hE]
    exact ⟨rfl, B⟩
  refine newB (Bs.refl w) fun g w2 g0 sg n2 z2 b2 B2 => callB B2 (cplan_ret p a a2 c c2 w2 (h.to B2) hd.1 hd.2) fun w3 b3 B3 => ⟨_, rfl, br_dec (fun h1 => bad _ B3 (by unfold worstE; rw [if_pos (.inl h1)])) fun h1 => callB B3 (units_ret n w3) fun w4 b4 B4 => ⟨_, rfl, br_not (br_dec (fun h2 => ?_) fun h2 => bad _ B4 (by unfold worstE; rw [if_pos (.inr h2)]))⟩⟩
  have hp : planE p = 0 := Decidable.not_not.1 h1
  have hb := (chk_ok (plan_ok hp).1).1.2
  refine callB B4 (blocks_ret n p.base.block w4 h2 hb) fun w5 b5 B5 => ⟨_, _, rfl, br_f rfl (callB B5 (rdearest_ret p a a2 c c2 w5 (h.to B5)) fun w6 b6 B6 => ⟨_, rfl, ?_, B6⟩)⟩
  have hs := worst_small hp h2
  have hE : worstE p n = 0 := by unfold worstE; rw [if_neg (by omega)]
  unfold worstN
  rw [wr64 (by omega) (by omega), hE, if_pos rfl]
theorem fit_ret (p : Pl) (a a2 : Option Addr) (c c2 : Nat) (cr want : Int) (w : World) (h : PlAt w p a a2) (hd : -9223372036854775808 ≤ p.day ∧ p.day ≤ 9223372036854775807) (hc : cr ≤ 9223372036854775807) :
    Calls Try.prog 33 #[planV p a c a2 c2, .int .i64 cr, .int .i64 want] w (Ret (.tuple #[.int .i64 (fitU p cr want), .int .i64 (fitC p cr want), .int .i64 (fitE p cr want)]) w) := by
  refine ret_in (GTar.fit_calls p.day p.frm p.til p.base.grp p.base.mode p.base.block a p.base.ts.length c p.other.grp p.other.mode p.other.block a2 p.other.ts.length c2 cr want w (fun u w' => u = .tuple #[.int .i64 (fitU p cr want), .int .i64 (fitC p cr want), .int .i64 (fitE p cr want)] ∧ Below w.heap.size w w') ?_)
  unfold GTar.fit_vc
  have bad : ∀ w', Below w.heap.size w w' → fitE p cr want = 1 → Value.tuple #[.int .i64 0, .int .i64 0, .int .i64 1] = .tuple #[.int .i64 (fitU p cr want), .int .i64 (fitC p cr want), .int .i64 (fitE p cr want)] ∧ Below w.heap.size w w' := fun w' B hE => by
    unfold fitU fitC
    rw [hE]
    exact ⟨rfl, B⟩
  refine newB (Bs.refl w) fun g w2 g0 sg n2 z2 b2 B2 => callB B2 (cplan_ret p a a2 c c2 w2 (h.to B2) hd.1 hd.2) fun w3 b3 B3 => ⟨_, rfl, br_dec (fun h1 => bad _ B3 (by unfold fitE; rw [if_pos (.inl h1)])) fun h1 => callB B3 (units_ret want w3) fun w4 b4 B4 => ⟨_, rfl, br_not (br_dec (fun h2 => ?_) fun h2 => bad _ B4 (by unfold fitE; rw [if_pos (.inr (.inl h2))]))⟩⟩
  refine br_dec (fun h3 => bad _ B4 (by unfold fitE; rw [if_pos (.inr (.inr h3))])) fun h3 => callB B4 (rdearest_ret p a a2 c c2 w4 (h.to B4)) fun w5 b5 B5 => ⟨_, rfl, ?_⟩
  have hp : planE p = 0 := Decidable.not_not.1 h1
  have hb := (chk_ok (plan_ok hp).1).1.2
  have hE : fitE p cr want = 0 := by unfold fitE; rw [if_neg (by omega)]
  have hU : fitU p cr want = fitN p.base.block (dear p) cr want := by unfold fitU; rw [if_pos hE]
  have hC : fitC p cr want = blk (fitU p cr want) p.base.block * dear p := by unfold fitC; rw [if_pos hE]
  have hnn := fitN_nn p.base.block (dear p) cr want (by omega) (by omega) h2.1
  refine ⟨fun x wx => x = fitU p cr want ∧ Bs w wx, ?_, ?_⟩
  · refine br_dec (fun hpr => drewB B5 fun w6 b6 B6 _ => ⟨by omega, ?_⟩) fun hpr => ⟨by rw [hU]; unfold fitN; rw [if_neg hpr], B5⟩
    have q0 : 0 ≤ cr / dear p := Int.ediv_nonneg (by omega) (by omega)
    have q1 : cr / dear p ≤ cr := Int.ediv_le_self _ (by omega)
    rw [Int.tdiv_eq_ediv_of_nonneg (show 0 ≤ cr by omega), wr64 (by omega) (by omega)]
    refine callB B6 (ret_same (aMul_any (cr / dear p) p.base.block (by omega) (by omega) (by omega) (by omega) w6 _ rfl)) fun w7 b7 B7 => ?_
    have m0 := Int.mul_nonneg q0 (show 0 ≤ p.base.block by omega)
    by_cases hfit : cr / dear p * p.base.block ≤ 9223372036854775807
    · refine ⟨_, _, by rw [fitV_yes (by omega) hfit], br_t rfl ⟨?_, B7⟩⟩
      rw [hU]; unfold fitN; rw [if_pos hpr]
    · refine ⟨_, _, by rw [fitV_no (by omega)], br_f rfl ⟨?_, B7⟩⟩
      rw [hU]; unfold fitN; rw [if_pos hpr]; omega
  · rintro x wx ⟨rfl, B8⟩
    refine callB B8 (worst_ret p a a2 c c2 _ wx (h.to B8) hd) fun w9 b9 B9 => ⟨_, _, rfl, ?_, B9⟩
    have hw : worstE p (fitU p cr want) = 0 := by unfold worstE; rw [if_neg (by rw [hU]; omega)]
    unfold worstN
    rw [hw, hE, if_pos rfl, hC]
def rtdV (r : Rtd) (a : Option Addr) (c : Nat) : Value := .agg #[.slice a r.ls.length c, .int .i64 r.blocks, .int .i64 r.cost, .int .i64 r.pos]
theorem splitO_ok {t : Tar} (h : chkE t = 0) (pos : Int) {n : Int} (hn : 0 ≤ n ∧ n ≤ 1073741824) : LsOk (splitO t pos n) := by
  unfold splitO
  split
  · rename_i hp
    obtain ⟨h1, _, h3⟩ := splitL_ok h hp.1 hn.1
    exact ⟨fun l hl => by have := h1 l hl; omega, by omega⟩
  · exact ⟨(fun l hl => by cases hl), by simp⟩
set_option maxRecDepth 10000 in
theorem rate_new (p : Pl) (a a2 : Option Addr) (c c2 : Nat) (now pos n : Int) (w : World) (h : PlAt w p a a2) (hd : -9223372036854775808 ≤ p.day ∧ p.day ≤ 9223372036854775807) :
    Calls Try.prog 23 #[planV p a c a2 c2, .int .i64 now, .int .i64 pos, .int .i64 n] w fun e w' => (∃ a' c', e = .returned (.tuple #[rtdV (rateR p now pos n) a' c', .int .i64 (rateE p now pos n)]) ∧ LsAt w.heap.size w' a' (rateR p now pos n).ls) ∧ Below w.heap.size w w' := by
  refine (GTar.rate_calls p.day p.frm p.til p.base.grp p.base.mode p.base.block a p.base.ts.length c p.other.grp p.other.mode p.other.block a2 p.other.ts.length c2 now pos n w (fun u w' => (∃ a' c', u = .tuple #[rtdV (rateR p now pos n) a' c', .int .i64 (rateE p now pos n)] ∧ LsAt w.heap.size w' a' (rateR p now pos n).ls) ∧ Below w.heap.size w w') ?_).mono (by rintro e w' ⟨v, rfl, ⟨a', c', rfl, h⟩, h2⟩; exact ⟨⟨a', c', rfl, h⟩, h2⟩)
  unfold GTar.rate_vc
  have bad : ∀ w', Below w.heap.size w w' → rateE p now pos n = 1 → (∃ a' c', Value.tuple #[.agg #[.slice none 0 0, .int .i64 0, .int .i64 0, .int .i64 0], .int .i64 1] = .tuple #[rtdV (rateR p now pos n) a' c', .int .i64 (rateE p now pos n)] ∧ LsAt w.heap.size w' a' (rateR p now pos n).ls) ∧ Below w.heap.size w w' := fun w' B hE => by
    have hR : rateR p now pos n = ⟨[], 0, 0, 0⟩ := by unfold rateR; rw [if_neg (by rw [hE]; decide)]
    rw [hR, hE]
    exact ⟨⟨none, 0, rfl, Rws.nil⟩, B⟩
  refine newB (Bs.refl w) fun g w2 g0 sg n2 z2 b2 B2 => newB B2 fun g' w3 g0' sg' n3 z3 b3 B3 => callB B3 (cplan_ret p a a2 c c2 w3 (h.to B3) hd.1 hd.2) fun w4 b4 B4 => ⟨_, rfl, br_dec (fun h1 => boxB B4 g0' fun w5 h5 B5 _ => bad _ B5 (by unfold rateE; rw [if_pos (.inl h1)])) fun h1 => ?_⟩
  refine br_dec (fun h2 => boxB B4 g0' fun w5 h5 B5 _ => bad _ B5 (by unfold rateE; rw [if_pos (.inr (.inl h2))])) fun h2 => callB B4 (units_ret n w4) fun w7 b7 B7 => ⟨_, rfl, br_not (br_dec (fun h3 => ?_) fun h3 => boxB B7 g0' fun w5 h5 B5 _ => bad _ B5 (by unfold rateE; rw [if_pos (.inr (.inr (.inl h3)))]))⟩
  have hp : planE p = 0 := Decidable.not_not.1 h1
  obtain ⟨hat, hbl, _⟩ := at_ok hp now
  have hb := (chk_ok (plan_ok hp).1).1.2
  refine callQ B7 (at_new p a a2 c c2 now w7 (h.to B7) hd.1 hd.2 (by omega) hp) ?_
  rintro e w9 ⟨a9, c9, rfl, h9⟩ b9 B9
  have hRR : rateE p now pos n = 0 → rateR p now pos n = ⟨splitL (atT p now) pos (blk n p.base.block), blk n p.base.block, costOf (splitL (atT p now) pos (blk n p.base.block)), pos + blk n p.base.block⟩ := fun hE => by unfold rateR; rw [if_pos hE]
  generalize rateR p now pos n = RR at *
  generalize decide (isOther p now) = oo
  generalize atT p now = tt at *
  refine ⟨_, _, _, _, _, _, _, rfl, newB B9 fun g3 w10 g0'' sg'' n10 z10 b10 B10 => boxB B10 g0'' fun w11 h11 B11 z11 => ?_⟩
  have b9s := b9.size
  have b7s := b7.size
  have b4s := b4.size
  have h11' : TsAt w7.heap.size w11 a9 tt.ts := h9.keep fun b hb1 hb2 => (h11.1.block b (by omega) (by rw [List.mem_singleton]; omega)).trans (b10.block b hb2)
  have hbn := blk_nn n p.base.block (by omega) h3.1
  have hbs := blk_self n p.base.block (by omega) h3.1
  have hbb : 0 ≤ blk n p.base.block ∧ blk n p.base.block ≤ 1073741824 := ⟨hbn, Int.le_trans hbs h3.2⟩
  have hbk := blocks_ret n p.base.block w11 h3 hb
  generalize blk n p.base.block = m at *
  rw [← hbl] at hbk
  refine callB B11 hbk fun w12 b12 B12 => ⟨_, _, rfl, br_f rfl (callQ B12 (split_new tt a9 c9 pos m w12 (Rws.low (h11'.below b12) (Nat.zero_le _)) hat hbb) ?_)⟩
  rintro e w14 ⟨a14, c14, rfl, h14⟩ b14 B14
  have b12s := b12.size
  refine ⟨_, _, _, _, rfl, br_dec (fun h5 => boxB B14 g0' fun w15 h15 B15 _ => bad _ B15 ?_) fun h5 => ?_⟩
  · have : ¬ posOk pos := fun k => h5 (by rw [if_pos k])
    unfold rateE; rw [if_pos (.inr (.inr (.inr this)))]
  have hpos : posOk pos := Decidable.byContradiction fun k => h5 (by rw [if_neg k]; decide)
  have hE : rateE p now pos n = 0 := by
    have hno : ¬ (planE p ≠ 0 ∨ now < 0 ∨ ¬ (0 ≤ n ∧ n ≤ 1073741824) ∨ ¬ posOk pos) := fun k => k.elim (fun k => k hp) fun k => k.elim h2 fun k => k.elim (fun k => k h3) fun k => k hpos
    unfold rateE
    rw [if_neg hno]
  have hso : splitO tt pos m = splitL tt pos m := by unfold splitO; rw [if_pos hpos]
  have hls := splitO_ok hat pos (n := m) hbb
  obtain rfl := hRR hE
  rw [hE]
  rw [hso] at h14 hls ⊢
  refine callB B14 (cost_ret a14 c14 _ w14 (h14.low (Nat.zero_le _)) hls) fun w16 b16 B16 => ⟨_, _, rfl, br_f rfl (boxB B16 g0' fun w18 h18 B18 z18 => ⟨⟨a14, c14, ?_, ?_⟩, B18⟩)⟩
  · rw [wr64 (by have := hpos.1; omega) (by have := hpos.2; omega)]
    rfl
  · exact ((h14.below b16).box h18 (by omega)).low (by omega)
end Go.Proofs.Ytecmpjccdhmeeaa
end
section
/- The document's tariffs, lines and what they cost: references 9, 10, 11; walked. -/
namespace Go.Proofs.Ytecmpjccdhmeeaa
open Go.RowKit
theorem r9check_ret (t : Tar) (a : Option Addr) (c : Nat) (w : World) (h : TsAt 0 w a t.ts) (hl : t.ts.length ≤ 1000) : Calls Try.prog 43 #[tarV t a c] w (Ret (.int .i64 (chkE t)) w) := by
  refine ret_in (GTar.rcheck_calls t.grp t.mode t.block a t.ts.length c w (fun u w' => u = .int .i64 (chkE t) ∧ Below w.heap.size w w') ?_)
  unfold GTar.rcheck_vc chkE
  refine newB (Bs.refl w) fun g w2 g0 sg n2 z2 b2 B2 => br_dec (fun h1 => ⟨by rw [if_pos (by omega)], B2⟩) fun h1 => br_dec (fun h2 => ⟨by rw [if_pos (by omega)], B2⟩) fun h2 => br_dec (fun h3 => ⟨by rw [if_pos (by omega)], B2⟩) fun h3 => br_dec (fun h4 => ⟨by rw [if_pos (by omega)], B2⟩) fun h4 => ?_
  rw [if_neg (by omega)]
  refine ⟨fun b wx => b = decide (t.mode ≠ 1 ∧ t.mode ≠ 2) ∧ w2 = wx, br_dec (fun hm => ⟨decide_eq_decide.2 (by omega), rfl⟩) fun hm => ⟨(decide_eq_false (by omega)).symm, rfl⟩, ?_⟩
  rintro b wx ⟨rfl, rfl⟩
  refine br_dec (fun hm => ⟨by rw [if_pos hm], B2⟩) fun hm => br_dec (fun h5 => ⟨by rw [if_neg hm, if_pos (by omega)], B2⟩) fun h5 => br_dec (fun h6 => ⟨by rw [if_neg hm, if_pos (by omega)], B2⟩) fun h6 => ?_
  rw [if_neg hm, if_neg (by omega)]
  generalize t.ts = ts at *
  refine ⟨fun x y wx => ∃ i : Nat, y = i ∧ i ≤ ts.length ∧ tiersE 0 ts = tiersE x (ts.drop i) ∧ 0 ≤ x ∧ x ≤ 1099511627776 ∧ Bs w wx, fun _ y _ => ts.length - y.toNat, ⟨0, rfl, by omega, by simp, by omega, by omega, B2⟩, ?_⟩
  rintro x y wx ⟨i, rfl, hi, he, hx0, hx1, B⟩
  refine br_dec (fun hlt => ?_) fun hge => ?_
  · have hil : i < ts.length := by omega
    obtain ⟨b, off, rfl, hc⟩ := (h.below B).get hil
    have hlast : (ts.drop (i + 1) = []) ↔ i = ts.length - 1 := by rw [List.drop_eq_nil_iff]; omega
    rw [List.drop_eq_getElem_cons hil, tiersE_cons] at he
    refine ⟨by omega, by omega, ts[i].upto, ts[i].price, by rw [Int.toNat_natCast]; exact hc, newB B fun g w3 g0 sg n3 z3 b3 B3 => boxB B3 g0 fun w4 h4 B4 z4 => ?_⟩
    refine br_dec (fun hp => ⟨by rw [he, if_pos (by omega)], B4⟩) fun hp1 => br_dec (fun hp => ⟨by rw [he, if_pos (by omega)], B4⟩) fun hp2 => ?_
    rw [if_neg (by omega)] at he
    rw [wr64 (show -9223372036854775808 ≤ ((ts.length : Nat) : Int) - 1 by omega) (by omega), wr64 (show -9223372036854775808 ≤ ((i : Nat) : Int) + 1 by omega) (by omega)]
    have next : ∀ wy, Bs w wy → 0 ≤ ts[i].upto → ts[i].upto ≤ 1099511627776 → tiersE 0 ts = tiersE ts[i].upto (ts.drop (i + 1)) → (∃ j : Nat, ((i : Nat) : Int) + 1 = j ∧ j ≤ ts.length ∧ tiersE 0 ts = tiersE ts[i].upto (ts.drop j) ∧ 0 ≤ ts[i].upto ∧ ts[i].upto ≤ 1099511627776 ∧ Bs w wy) ∧ ts.length - (((i : Nat) : Int) + 1).toNat < ts.length - ((i : Nat) : Int).toNat :=
      fun wy By h0 h1 h2 => ⟨⟨i + 1, by omega, by omega, h2, h0, h1, By⟩, by omega⟩
    by_cases hla : i = ts.length - 1
    · rw [if_pos (hlast.2 hla)] at he
      refine br_y (by omega) (br_dec (fun hu => ⟨by rw [he, if_pos hu], B4⟩) fun hu => ?_)
      have hu := Decidable.not_not.1 hu
      exact next w4 B4 (by omega) (by omega) (by rw [he, if_neg (not_not_intro hu), hlast.2 hla]; rfl)
    · rw [if_neg (fun h => hla (hlast.1 h))] at he
      refine br_n (by omega) (br_dec (fun hu => ⟨by rw [he, if_pos (by omega)], B4⟩) fun hu => br_dec (fun hu2 => ⟨by rw [he, if_pos (by omega)], B4⟩) fun hu2 => ?_)
      exact next w4 B4 (by omega) (by omega) (by rw [he, if_neg (by omega)])
  · obtain rfl : i = ts.length := by omega
    refine ⟨?_, B⟩
    rw [he, List.drop_length]; rfl
theorem r9cplan_ret (p : Pl) (a a2 : Option Addr) (c c2 : Nat) (w : World) (h : PlAt w p a a2) : Calls Try.prog 14 #[planV p a c a2 c2] w (Ret (.int .i64 (planE p)) w) := by
  refine ret_in (GTar.rcplan_calls p.day p.frm p.til p.base.grp p.base.mode p.base.block a p.base.ts.length c p.other.grp p.other.mode p.other.block a2 p.other.ts.length c2 w (fun u w' => u = .int .i64 (planE p) ∧ Below w.heap.size w w') ?_)
  unfold GTar.rcplan_vc planE
  refine newB (Bs.refl w) fun g w2 g0 sg n2 z2 b2 B2 => callB B2 (r9check_ret p.base a c w2 (h.base.below B2) h.lb) fun w3 b3 B3 => ⟨_, rfl, br_dec (fun h1 => ⟨by rw [if_pos h1], B3⟩) fun h1 => ?_⟩
  rw [if_neg h1]
  refine br_dec (fun h0 => newB B3 fun g' w4 g0' sg' n4 z4 b4 B4 => boxB B4 g0' fun w5 h5 B5 z5 => ?_) fun h0 => ?_
  · rw [if_pos h0]
    have bad : ¬ (p.frm = 0 ∧ p.til = 0 ∧ nothingT p.other) → Value.int .i64 2 = .int .i64 (if p.frm = 0 ∧ p.til = 0 ∧ nothingT p.other then 0 else 2) ∧ Below w.heap.size w w5 := fun k => ⟨by rw [if_neg k], B5⟩
    refine br_dec (fun k => bad fun q => k q.1) fun k1 => br_dec (fun k => bad fun q => k q.2.1) fun k2 => br_dec (fun k => bad fun q => k q.2.2.1) fun k3 => br_dec (fun k => bad fun q => k q.2.2.2.1) fun k4 => br_dec (fun k => bad fun q => k q.2.2.2.2.1) fun k5 => br_dec (fun k => bad fun q => k (by rw [q.2.2.2.2.2]; rfl)) fun k6 => ⟨?_, B5⟩
    rw [if_pos ⟨Decidable.not_not.1 k1, Decidable.not_not.1 k2, Decidable.not_not.1 k3, Decidable.not_not.1 k4, Decidable.not_not.1 k5, List.length_eq_zero_iff.1 (by omega)⟩]
  · rw [if_neg h0]
    have bad : ¬ dayOk p → ∀ z : Int, Value.int .i64 1 = .int .i64 (if ¬ dayOk p then 1 else z) ∧ Below w.heap.size w w3 := fun k z => ⟨by rw [if_pos k], B3⟩
    refine br_dec (fun k => bad (fun q => by have := q.1; omega) _) fun k1 => br_dec (fun k => bad (fun q => by have := q.1; omega) _) fun k2 => br_dec (fun k => bad (fun q => by have := q.2.1; omega) _) fun k3 => br_dec (fun k => bad (fun q => by have := q.2.1; omega) _) fun k4 => br_dec (fun k => bad (fun q => by have := q.2.2.1; omega) _) fun k5 => br_dec (fun k => bad (fun q => by have := q.2.2.1; omega) _) fun k6 => br_dec (fun k => bad (fun q => q.2.2.2 k) _) fun k7 => ?_
    rw [if_neg (not_not_intro (show dayOk p from ⟨by omega, by omega, by omega, k7⟩))]
    refine callB B3 (r9check_ret p.other a2 c2 w3 (h.other.below B3) h.lo) fun w7 b7 B7 => ⟨_, rfl, br_dec (fun h6 => ⟨by rw [if_pos h6], B7⟩) fun h6 => ?_⟩
    rw [if_neg h6]
    exact br_dec (fun h7 => ⟨by rw [if_pos (.inl h7)], B7⟩) fun h7 => br_dec (fun h8 => ⟨by rw [if_pos (.inr h8)], B7⟩) fun h8 => ⟨by rw [if_neg (by omega)], B7⟩
theorem ris_ret (p : Pl) (a a2 : Option Addr) (c c2 : Nat) (now : Int) (w : World) : Calls Try.prog 38 #[planV p a c a2 c2, .int .i64 now] w (Ret (.bool (decide (isOther p now))) w) := by
  refine ret_in (GTar.ris_calls p.day p.frm p.til p.base.grp p.base.mode p.base.block a p.base.ts.length c p.other.grp p.other.mode p.other.block a2 p.other.ts.length c2 now w (fun u w' => u = .bool (decide (isOther p now)) ∧ Below w.heap.size w w') ?_)
  unfold GTar.ris_vc
  refine newB (Bs.refl w) fun g w2 g0 sg n2 z2 b2 B2 => br_dec (fun h0 => ⟨by rw [decide_eq_false fun k => k.1 h0], B2⟩) fun h0 => ⟨h0, ?_⟩
  refine br_dec (fun h1 => br_dec (fun h2 => ⟨?_, B2⟩) fun h2 => ⟨?_, B2⟩) fun h1 => br_dec (fun h2 => ⟨?_, B2⟩) fun h2 => ⟨?_, B2⟩
  · congr 1; exact decide_eq_decide.2 (by rw [isOther_day h0, if_pos h1]; omega)
  · congr 1; exact (decide_eq_false (by rw [isOther_day h0, if_pos h1]; omega)).symm
  · congr 1; exact (decide_eq_true (by rw [isOther_day h0, if_neg h1]; omega)).symm
  · congr 1; exact decide_eq_decide.2 (by rw [isOther_day h0, if_neg h1]; omega)
theorem r10index_ret (t : Tar) (a : Option Addr) (c : Nat) (x : Int) (w : World) (h : TsAt 0 w a t.ts) (hl : t.ts.length ≤ 1000) (hk : chkE t = 0) (hx : 1 ≤ x) :
    Calls Try.prog 89 #[tarV t a c, .int .i64 x] w (Ret (.int .i64 (idx x t.ts : Nat)) w) := by
  refine ret_in (GTar.rindex_calls t.grp t.mode t.block a t.ts.length c x w (fun u w' => u = .int .i64 (idx x t.ts : Nat) ∧ Below w.heap.size w w') ?_)
  unfold GTar.rindex_vc
  have hlt0 := idx_lt x t.ts 0 (chk_ok hk).2.2.2
  refine newB (Bs.refl w) fun g w2 g0 sg n2 z2 b2 B2 => callB B2 (r9check_ret t a c w2 (h.below B2) hl) fun w3 b3 B3 => ⟨_, rfl, br_n (by omega) (br_n (by omega) ?_)⟩
  refine ⟨fun y wx => ∃ i : Nat, y = i ∧ i ≤ t.ts.length ∧ idx x t.ts = i + idx x (t.ts.drop i) ∧ Bs w wx, fun y _ => t.ts.length - y.toNat, ⟨0, rfl, by omega, by simp, B3⟩, ?_⟩
  rintro y wx ⟨i, rfl, hi, he, B⟩
  refine br_dec (fun hlt => ?_) fun hge => ?_
  · have hil : i < t.ts.length := by omega
    obtain ⟨b, off, rfl, hcc⟩ := (h.below B).get hil
    rw [List.drop_eq_getElem_cons hil] at he
    have hc0 : wx.cell? ⟨b, off + ((i : Nat) : Int).toNat * 2, none⟩ = some (.int .i64 t.ts[i].upto) := by rw [Int.toNat_natCast]; exact cellsAt_get hcc 0 _ rfl
    refine ⟨by omega, by omega, t.ts[i].upto, hc0, br_dec (fun h1 => ⟨?_, B⟩) fun h1 => ⟨by omega, by omega, t.ts[i].upto, hc0, br_dec (fun h2 => ⟨?_, B⟩) fun h2 => ?_⟩⟩
    · rw [he]; unfold idx; rw [if_pos (.inl h1)]; simp
    · rw [he]; unfold idx; rw [if_pos (.inr h2)]; simp
    · rw [wr64 (by omega) (by omega)]
      have he2 : idx x t.ts = i + (idx x (t.ts.drop (i + 1)) + 1) := by rw [he]; conv => lhs; unfold idx; rw [if_neg (by omega)]
      exact ⟨⟨i + 1, by omega, by omega, by omega, B⟩, by dsimp only; omega⟩
  · obtain rfl : i = t.ts.length := by omega
    omega
def prevOf (ts : List Tr) : Nat → Int
  | 0 => 0
  | i + 1 => match ts[i]? with | some t => t.upto | none => 0
set_option maxRecDepth 10000 in
theorem r10split_new (t : Tar) (a : Option Addr) (c : Nat) (pos n : Int) (w : World) (h : TsAt 0 w a t.ts) (hk : chkE t = 0) (hn : 0 ≤ n ∧ n ≤ 1073741824) :
    Calls Try.prog 69 #[tarV t a c, .int .i64 pos, .int .i64 n] w fun e w' => (∃ a' c', e = .returned (.tuple #[.slice a' (splitO t pos n).length c', .int .i64 (if posOk pos then 0 else 1)]) ∧ LsAt w.heap.size w' a' (splitO t pos n)) ∧ Below w.heap.size w w' := by
  refine (GTar.rsplit_calls t.grp t.mode t.block a t.ts.length c pos n w (fun u w' => (∃ a' c', u = .tuple #[.slice a' (splitO t pos n).length c', .int .i64 (if posOk pos then 0 else 1)] ∧ LsAt w.heap.size w' a' (splitO t pos n)) ∧ Below w.heap.size w w') ?_).mono (by rintro e w' ⟨v, rfl, ⟨a', c', rfl, h⟩, h2⟩; exact ⟨⟨a', c', rfl, h⟩, h2⟩)
  unfold GTar.rsplit_vc splitO
  obtain ⟨_, hmode, hlen, hG⟩ := chk_ok hk
  refine newB (Bs.refl w) fun g w2 g0 sg n2 z2 b2 B2 => callB B2 (r9check_ret t a c w2 (h.below B2) (by omega)) fun w3 b3 B3 => ⟨_, rfl, br_n (by omega) ?_⟩
  have bad : ¬ posOk pos → (∃ a' c', (Value.tuple #[.slice none 0 0, .int .i64 1]) = .tuple #[.slice a' (if posOk pos then splitL t pos n else []).length c', .int .i64 (if posOk pos then 0 else 1)] ∧ LsAt w.heap.size w3 a' (if posOk pos then splitL t pos n else [])) ∧ Below w.heap.size w w3 := fun hb => by
    rw [if_neg hb, if_neg hb]
    exact ⟨⟨none, 0, rfl, Rws.nil⟩, B3⟩
  refine br_dec (fun h1 => bad fun k => by have := k.1; omega) fun h1 => br_dec (fun h1 => bad fun k => by have := k.2; omega) fun h2 => br_n (by omega) (br_n (by omega) ?_)
  have hpos : posOk pos := ⟨by omega, by omega⟩
  rw [if_pos hpos, if_pos hpos]
  refine br_dec (fun h0 => ?_) fun h0 => ?_
  · have : splitL t pos n = [] := by
      unfold splitL
      rw [if_neg (by omega), splitG_none _ _ _ _ _ hG (by omega)]
    rw [this]
    exact ⟨⟨none, 0, rfl, Rws.nil⟩, B3⟩
  unfold splitL
  rw [wr64 (show -9223372036854775808 ≤ pos + n by omega) (by omega)]
  refine br_dec (fun hm => ?_) fun hm => ?_
  · rw [if_pos ⟨hm, by omega⟩]
    have hi := idx_lt (pos + n) t.ts 0 hG
    refine callB B3 (r10index_ret t a c (pos + n) w3 (h.below B3) (by omega) hk (by omega)) fun w6 b6 B6 => ⟨_, rfl, ?_⟩
    obtain ⟨b, off, rfl, hc⟩ := (h.below B6).get hi
    refine ⟨by omega, by omega, (t.ts[idx (pos + n) t.ts]'hi).price, by rw [Int.toNat_natCast, Nat.add_assoc]; exact cellsAt_get hc 1 _ rfl, newB B6 fun g' w8 g0' sg' n8 z8 b8 B8 => ⟨⟨_, _, rfl, ?_⟩, B8⟩⟩
    have he : priceAt t.ts (idx (pos + n) t.ts) = (t.ts[idx (pos + n) t.ts]'hi).price := by unfold priceAt; rw [List.getElem?_eq_getElem hi]
    rw [he]
    exact Rws.one n8 g0'
  · rw [if_neg (fun k => hm k.1)]
    have B3s := B3.size
    have b3s := b3.size
    refine ⟨fun a8 n8 c8 x wx => ∃ (i : Nat) (out : List Ln), x = i ∧ i ≤ t.ts.length ∧ n8 = out.length ∧ out.length ≤ i ∧ out ++ splitG i (prevOf t.ts i) (t.ts.drop i) pos (pos + n) = splitG 0 0 t.ts pos (pos + n) ∧ Own wx w3.heap.size 116 3 (.slice a8 n8 c8) n8 (out.flatMap lnCells) ∧ Bs w wx ∧ w3.heap.size ≤ wx.heap.size, fun _ _ _ x _ => t.ts.length - x.toNat,
      ⟨0, [], rfl, by omega, rfl, by simp, by simp [prevOf], Own.nil _ _ _ _, B3, by omega⟩, ?_⟩
    rintro a8 n8 c8 x wx ⟨i, out, rfl, hi, rfl, hol, hsp, hO, B, hsz⟩
    refine br_dec (fun hlt => ?_) fun hge => ?_
    · have hil : i < t.ts.length := by omega
      obtain ⟨b, off, rfl, hc⟩ := (h.below B).get hil
      have hmem := List.getElem_mem hil
      have hup := (good0_price hG _ hmem).2
      have hup2 := good_far t.ts 0 hG _ hmem
      rw [wr64 (show -9223372036854775808 ≤ ((i : Nat) : Int) + 1 by omega) (by omega)]
      have low0 : ¬ ((i : Nat) : Int) > 0 → pos = max pos (prevOf t.ts i) := fun k => by
        obtain rfl : i = 0 := by omega
        have := hpos.1
        simp only [prevOf]; omega
      refine ⟨fun y wy => y = max pos (prevOf t.ts i) ∧ wx = wy, br_dec (fun hi0 => ?_) fun hi0 => ⟨low0 hi0, rfl⟩, ?_⟩
      · have hj : i - 1 < t.ts.length := by omega
        obtain ⟨b', off', e', hc'⟩ := (h.below B).get hj
        injection e' with e'
        injection e' with e1 e2
        subst e1; subst e2
        rw [wr64 (show -9223372036854775808 ≤ ((i : Nat) : Int) - 1 by omega) (by omega)]
        refine ⟨by omega, by omega, t.ts[i - 1].upto, by rw [show (((i : Nat) : Int) - 1).toNat = i - 1 by omega]; exact cellsAt_get hc' 0 _ rfl, ?_, rfl⟩
        obtain ⟨k, rfl⟩ : ∃ k, i = k + 1 := ⟨i - 1, by omega⟩
        simp only [prevOf, Nat.add_sub_cancel]
        rw [List.getElem?_eq_getElem (by omega)]
      rintro x11 wy ⟨rfl, rfl⟩
      have hc0 : wx.cell? ⟨b, off + ((i : Nat) : Int).toNat * 2, none⟩ = some (.int .i64 t.ts[i].upto) := by rw [Int.toNat_natCast]; exact cellsAt_get hc 0 _ rfl
      refine ⟨by omega, by omega, t.ts[i].upto, hc0, fun y wy => y = (if 0 < t.ts[i].upto then min (pos + n) t.ts[i].upto else pos + n) ∧ wx = wy, br_dec (fun hu => ⟨by omega, by omega, t.ts[i].upto, hc0, by rw [if_pos hu], rfl⟩) fun hu => ⟨by rw [if_neg hu], rfl⟩, ?_⟩
      rintro x12 wy ⟨hx12, rfl⟩
      have hst : splitG i (prevOf t.ts i) (t.ts.drop i) pos (pos + n) = (if max pos (prevOf t.ts i) < x12 then [⟨i, x12 - max pos (prevOf t.ts i), t.ts[i].price⟩] else []) ++ splitG ((i + 1 : Nat) : Int) (prevOf t.ts (i + 1)) (t.ts.drop (i + 1)) pos (pos + n) := by
        rw [List.drop_eq_getElem_cons hil, hx12]
        conv => lhs; unfold splitG
        simp only [prevOf, List.getElem?_eq_getElem hil]
        rfl
      rw [hst] at hsp
      have hb12 : 0 ≤ x12 ∧ x12 ≤ pos + n := by rw [hx12]; split <;> omega
      refine br_dec (fun hgt => ?_) fun hle => ?_
      · rw [if_pos hgt] at hsp
        have hmx : 0 ≤ max pos (prevOf t.ts i) := by omega
        generalize max pos (prevOf t.ts i) = m at *
        rw [wr64 (show -9223372036854775808 ≤ x12 - m by omega) (by omega)]
        have hk1 : ∀ k, (Value.slice a8 out.length c8).ownBlock = some k → w3.heap.size ≤ k ∧ k < wx.heap.size := fun k hk => hO.lt k hk
        refine ⟨by omega, by omega, t.ts[i].price, by rw [Int.toNat_natCast, Nat.add_assoc]; exact cellsAt_get hc 1 _ rfl, newB B fun g' w12 g0' sg' n12 z12 b12 B12 => ?_⟩
        refine appB B12 (hO.below b12 (Nat.le_refl _)) B3s (by omega) (src_block (n := 1) (size := 3) Try.underlying51 n12 rfl rfl) (by unfold maxLen; omega) (by omega) (fun x hx e => ?_) fun a' c' w13 o13 g13 B13 z13 => ?_
        · rw [List.mem_singleton] at hx; subst hx
          have := (hk1 _ e).1
          omega
        refine ⟨⟨i + 1, out ++ [⟨i, x12 - m, t.ts[i].price⟩], by omega, by omega, by simp, by simp; omega, by rw [← hsp, List.append_assoc], ?_, B13, by omega⟩, by dsimp only; omega⟩
        rw [List.flatMap_append]; exact o13
      · rw [if_neg hle, List.nil_append] at hsp
        exact ⟨⟨i + 1, out, by omega, by omega, rfl, by omega, hsp, hO, B, hsz⟩, by dsimp only; omega⟩
    · obtain rfl : i = t.ts.length := by omega
      rw [List.drop_length] at hsp
      have hsp : out = splitG 0 0 t.ts pos (pos + n) := by simpa [splitG] using hsp
      subst hsp
      exact ⟨⟨a8, c8, rfl, (Rws.ofOwn (by decide) ln_len hO).low (by omega)⟩, B⟩
end Go.Proofs.Ytecmpjccdhmeeaa
end
section
/- What lines cost, by the document; the document's rate, worst and fit; walked. -/
namespace Go.Proofs.Ytecmpjccdhmeeaa
open Go.RowKit
def bigA (x0 x1 x2 x3 x4 x5 x6 x7 x8 x9 : Int) (b : Bool) : Value := .agg #[.int .u64 x0, .int .u64 x1, .int .u64 x2, .int .u64 x3, .int .u64 x4, .int .u64 x5, .int .u64 x6, .int .u64 x7, .int .u64 x8, .int .u64 x9, .bool b]
theorem small_lim {z : Int} (h : 0 ≤ z ∧ z ≤ 1152921504606846976) : z.natAbs < lim ∧ 2 * z.natAbs < lim ∧ z.natAbs < 2 ^ (32 * 5) := by
  have h1 : 2 * z.natAbs < 2 ^ 62 := by show _ < 4611686018427387904; omega
  refine ⟨lim_big (by decide) (Nat.lt_of_le_of_lt (by omega) h1), lim_big (by decide) h1, Nat.lt_of_lt_of_le (Nat.lt_of_le_of_lt (by omega) h1) (Nat.pow_le_pow_right (by omega) (by omega))⟩
set_option maxRecDepth 10000 in
theorem r10cost_ret (a : Option Addr) (c : Nat) (ls : List Ln) (w : World) (h : LsAt 0 w a ls) (ho : LsOk ls) : Calls Try.prog 37 #[.slice a ls.length c] w (Ret (.tuple #[.int .i64 (costOf ls), .bool true]) w) := by
  refine ret_in (GTar.rcost_calls a ls.length c w (fun u w' => u = .tuple #[.int .i64 (costOf ls), .bool true] ∧ Below w.heap.size w w') ?_)
  unfold GTar.rcost_vc
  have hl := ho.2
  refine callB (Bs.refl w) (rOf_any 0 w (by omega) (by omega)) fun w2 b2 B2 => ⟨_, _, _, _, _, _, _, _, _, _, _, rfl, newB B2 fun g w3 g0 sg n3 z3 b3 B3 => boxB B3 g0 fun w4 h4 B4 z4 => ?_⟩
  refine ⟨fun x x0 x1 x2 x3 x4 x5 x6 x7 x8 x9 b wx => ∃ i : Nat, x = i ∧ i ≤ ls.length ∧ bigA x0 x1 x2 x3 x4 x5 x6 x7 x8 x9 b = bigOf (costOf (ls.take i)) ∧ Bs w wx, fun x _ _ _ _ _ _ _ _ _ _ _ _ => ls.length - x.toNat, ⟨0, rfl, by omega, rfl, B4⟩, ?_⟩
  rintro x x0 x1 x2 x3 x4 x5 x6 x7 x8 x9 b wx ⟨i, rfl, hi, he, B⟩
  refine br_dec (fun hlt => ?_) fun hge => ?_
  · have hil : i < ls.length := by omega
    have hmem := List.getElem_mem hil
    have hp := ho.1 _ hmem
    have hf := prod_fits hp
    have htk : costOf (ls.take (i + 1)) = costOf (ls.take i) + ls[i].blocks * ls[i].price := by
      rw [List.take_add_one, List.getElem?_eq_getElem hil, costOf_app]
      simp [costOf]
    have hcf := cost_fits (ls := ls.take i) ⟨fun l hl => ho.1 l (List.mem_of_mem_take hl), by rw [List.length_take]; omega⟩
    rw [List.length_take] at hcf
    have hcs : 0 ≤ costOf (ls.take i) ∧ costOf (ls.take i) ≤ 1152921504606846976 := by omega
    have s1 := small_lim (z := ls[i].blocks * ls[i].price) (by omega)
    have s2 := small_lim hcs
    have sb := small_lim (z := ls[i].blocks) (by omega)
    have sp := small_lim (z := ls[i].price) (by omega)
    rw [wr64 (show -9223372036854775808 ≤ ((i : Nat) : Int) + 1 by omega) (by omega)]
    have fin : ∀ wy, Bs w wy → ∀ gs : List Nat, ∀ y0 y1 y2 y3 y4 y5 y6 y7 y8 y9 : Int, ∀ yb : Bool, bigA y0 y1 y2 y3 y4 y5 y6 y7 y8 y9 yb = bigOf (ls[i].blocks * ls[i].price) → Calls Try.prog 74 #[bigA y0 y1 y2 y3 y4 y5 y6 y7 y8 y9 yb] wy fun e w12 => KeepG gs wy w12 ∧ ∃ (x31 : Int) (b31 : Bool), e = .returned (.tuple #[.int .i64 x31, .bool b31]) ∧
        br (!b31) (Value.tuple #[.int .i64 0, .bool false] = .tuple #[.int .i64 (costOf ls), .bool true] ∧ Below w.heap.size w w12) (
          Calls Try.prog 75 #[bigA x0 x1 x2 x3 x4 x5 x6 x7 x8 x9 b, bigA y0 y1 y2 y3 y4 y5 y6 y7 y8 y9 yb] w12 fun e w13 => KeepG gs w12 w13 ∧ ∃ (z0 : Int) (z1 : Int) (z2 : Int) (z3 : Int) (z4 : Int) (z5 : Int) (z6 : Int) (z7 : Int) (z8 : Int) (z9 : Int) (zb : Bool), e = .returned (bigA z0 z1 z2 z3 z4 z5 z6 z7 z8 z9 zb) ∧
          ∀ w14, BoxSt g w13 w14 → (∃ j : Nat, ((i : Nat) : Int) + 1 = j ∧ j ≤ ls.length ∧ bigA z0 z1 z2 z3 z4 z5 z6 z7 z8 z9 zb = bigOf (costOf (ls.take j)) ∧ Bs w w14) ∧ ls.length - (((i : Nat) : Int) + 1).toNat < ls.length - ((i : Nat) : Int).toNat) := by
      intro wy By gs y0 y1 y2 y3 y4 y5 y6 y7 y8 y9 yb hy
      rw [hy, he]
      refine callB By (rIntZ_any _ s1.1 wy) fun w12 b12 B12 => ⟨_, _, congrArg Ending.returned (fitV_yes (by omega) (by omega)), br_f rfl (callB B12 (rPlus_any _ _ s2.2.1 s1.2.1 w12) fun w13 b13 B13 => ⟨_, _, _, _, _, _, _, _, _, _, _, rfl, boxB B13 g0 fun w14 h14 B14 z14 => ⟨⟨i + 1, by omega, by omega, ?_, B14⟩, by omega⟩⟩)⟩
      rw [htk]; rfl
    have hgOf1 : ∀ wy, Calls Try.prog 72 #[.int .i64 ls[i].blocks] wy (Ret (bigOf ls[i].blocks) wy) := fun wy => rOf_any _ wy (by omega) (by omega)
    have hgOf2 : ∀ wy, Calls Try.prog 72 #[.int .i64 ls[i].price] wy (Ret (bigOf ls[i].price) wy) := fun wy => rOf_any _ wy (by omega) (by omega)
    have hgT : ∀ wy, Calls Try.prog 73 #[bigOf ls[i].blocks, bigOf ls[i].price] wy (Ret (bigOf (ls[i].blocks * ls[i].price)) wy) := fun wy => rTimes_any _ _ sb.2.2 sp.2.2 wy
    clear s1 s2 sb sp hcs hcf hf
    refine drewB B fun w6 b6 B6 _ => ?_
    obtain ⟨b', off, rfl, hc⟩ := (h.below B6).get hil
    have c1 : ∀ {wy : World}, Below w6.heap.size w6 wy → wy.cell? ⟨b', off + ((i : Nat) : Int).toNat * 3 + 1, none⟩ = some (.int .i64 ls[i].blocks) := fun hb => by
      have k := cellsAt_get hc 1 _ rfl
      rw [Int.toNat_natCast, Nat.add_assoc]
      rw [Nat.add_assoc] at k
      rw [cell_keep (hb.block b' (block_lt_of_cell k))]
      exact k
    have c2 : ∀ {wy : World}, Below w6.heap.size w6 wy → wy.cell? ⟨b', off + ((i : Nat) : Int).toNat * 3 + 2, none⟩ = some (.int .i64 ls[i].price) := fun hb => by
      have k := cellsAt_get hc 2 _ rfl
      rw [Int.toNat_natCast, Nat.add_assoc]
      rw [Nat.add_assoc] at k
      rw [cell_keep (hb.block b' (block_lt_of_cell k))]
      exact k
    refine ⟨by omega, by omega, _, c1 (Below.refl _ _), by omega, by omega, _, c2 (Below.refl _ _), ⟨?_, ?_⟩⟩
    · refine callB B6 (hgOf1 w6) fun w7 b7 B7 => ⟨_, _, _, _, _, _, _, _, _, _, _, rfl, c2 b7, ⟨?_, ?_⟩⟩
      · refine callB B7 (hgOf2 w7) fun w8 b8 B8 => ⟨_, _, _, _, _, _, _, _, _, _, _, rfl, ⟨?_, ?_⟩⟩
        · exact callB B8 (hgT w8) fun w9 b9 B9 => ⟨_, _, _, _, _, _, _, _, _, _, _, rfl, newB B9 fun g' w10 g0' sg' n10 z10 b10 B10 => boxB B10 g0' fun w11 h11 B11 z11 => fin w11 B11 _ _ _ _ _ _ _ _ _ _ _ _ rfl⟩
        · exact newB B8 fun g' w10 g0' sg' n10 z10 b10 B10 => callB B10 (hgT w10) fun w9 b9 B9 => ⟨_, _, _, _, _, _, _, _, _, _, _, rfl, boxB B9 g0' fun w11 h11 B11 z11 => fin w11 B11 _ _ _ _ _ _ _ _ _ _ _ _ rfl⟩
      · exact newB B7 fun g' w10 g0' sg' n10 z10 b10 B10 => ⟨c2 (b7.trans (b10.mono b7.size)), callB B10 (hgOf2 w10) fun w8 b8 B8 => ⟨_, _, _, _, _, _, _, _, _, _, _, rfl, callB B8 (hgT w8) fun w9 b9 B9 => ⟨_, _, _, _, _, _, _, _, _, _, _, rfl, boxB B9 g0' fun w11 h11 B11 z11 => fin w11 B11 _ _ _ _ _ _ _ _ _ _ _ _ rfl⟩⟩⟩
    · exact newB B6 fun g' w10 g0' sg' n10 z10 b10 B10 => ⟨c1 b10, c2 b10, callB B10 (hgOf1 w10) fun w7 b7 B7 => ⟨_, _, _, _, _, _, _, _, _, _, _, rfl, c2 (b10.trans (b7.mono b10.size)), callB B7 (hgOf2 w7) fun w8 b8 B8 => ⟨_, _, _, _, _, _, _, _, _, _, _, rfl, callB B8 (hgT w8) fun w9 b9 B9 => ⟨_, _, _, _, _, _, _, _, _, _, _, rfl, boxB B9 g0' fun w11 h11 B11 z11 => fin w11 B11 _ _ _ _ _ _ _ _ _ _ _ _ rfl⟩⟩⟩⟩
  · obtain rfl : i = ls.length := by omega
    rw [List.take_length] at he
    have hcf := cost_fits ho
    have s2 := small_lim (z := costOf ls) (by omega)
    have hI := rIntZ_any (costOf ls) s2.1 wx
    rw [← he] at hI
    exact callB B hI fun w12 b12 B12 => ⟨_, _, congrArg Ending.returned (fitV_yes (by omega) (by omega)), rfl, B12⟩
theorem lsame_ret (a a2 : Option Addr) (c c2 : Nat) (ls : List Ln) (w : World) (h : LsAt 0 w a ls) (h2 : LsAt 0 w a2 ls) (hl : ls.length ≤ 1000) : Calls Try.prog 36 #[.slice a ls.length c, .slice a2 ls.length c2] w (Ret (.bool true) w) := by
  refine ret_in (GTar.rlsame_calls a ls.length c a2 ls.length c2 w (fun u w' => u = .bool true ∧ Below w.heap.size w w') ?_)
  unfold GTar.rlsame_vc
  refine br_n (by omega) ⟨fun x wx => ∃ i : Nat, x = i ∧ i ≤ ls.length ∧ Bs w wx, fun x _ => ls.length - x.toNat, ⟨0, rfl, by omega, Bs.refl _⟩, ?_⟩
  rintro x wx ⟨i, rfl, hi, B⟩
  refine br_dec (fun hlt => drewB B fun w3 b3 B3 _ => ?_) fun hge => ⟨rfl, B⟩
  have hil : i < ls.length := by omega
  obtain ⟨b, off, rfl, hc⟩ := (h.below B3).get hil
  obtain ⟨b', off', rfl, hc'⟩ := (h2.below B3).get hil
  refine ⟨by omega, by omega, ls[i].tier, ls[i].blocks, ls[i].price, by rw [Int.toNat_natCast]; exact hc, by omega, by omega, ls[i].tier, ls[i].blocks, ls[i].price, by rw [Int.toNat_natCast]; exact hc', br_f (by simp) ?_⟩
  rw [wr64 (by omega) (by omega)]
  exact ⟨⟨i + 1, by omega, by omega, B3⟩, by dsimp only; omega⟩
theorem dearT_app : ∀ (xs ys : List Tr), dearT (xs ++ ys) = max (dearT xs) (dearT ys)
  | [], ys => by have := dearT_nn ys; simp only [List.nil_append, dearT]; omega
  | x :: r, ys => by simp only [List.cons_append, dearT, dearT_app r ys]; omega
theorem rdear_ret (p : Pl) (a a2 : Option Addr) (c c2 : Nat) (w : World) (h : PlAt w p a a2) : Calls Try.prog 70 #[planV p a c a2 c2] w (Ret (.int .i64 (dear p)) w) := by
  refine ret_in (GTar.rdear_calls p.day p.frm p.til p.base.grp p.base.mode p.base.block a p.base.ts.length c p.other.grp p.other.mode p.other.block a2 p.other.ts.length c2 w (fun u w' => u = .int .i64 (dear p) ∧ Below w.heap.size w w') ?_)
  unfold GTar.rdear_vc
  have h1 := h.lb
  have h2 := h.lo
  refine newB (Bs.refl w) fun g w2 g0 sg n2 z2 b2 B2 => drewB B2 fun w3 b3 B3 _ => newB B3 fun g' w4 g0' sg' n4 z4 b4 B4 => ?_
  have b3s := b3.size
  have o4 : Own w4 w3.heap.size 120 2 (.slice (some ⟨g', 0, none⟩) 0 0) 0 [] := (own_empty 2 n4).base_le fun k hk => by simp [Value.ownBlock] at hk; omega
  refine appB B4 o4 B3.size (by omega) ((h.base.below B4).src (c := c) Try.underlying22 (by decide) tr_len tr_one) (by unfold maxLen; omega) (by omega) (fun x hx e => ?_) fun a5 c5 w5 o5 g5 B5 z5 => ?_
  · rw [List.mem_singleton] at hx; subst hx
    have := (o4.lt _ e).1
    omega
  refine appB B5 o5 B3.size (by omega) ((h.other.below B5).src (c := c2) Try.underlying22 (by decide) tr_len tr_one) (by unfold maxLen; omega) (by omega) (fun x hx e => ?_) fun a6 c6 w6 o6 g6 B6 z6 => ?_
  · rw [List.mem_singleton] at hx; subst hx
    have := (o5.lt _ e).1
    omega
  have hall : TsAt w3.heap.size w6 a6 (p.base.ts ++ p.other.ts) := Rws.ofOwn (by decide) tr_len (by rw [List.flatMap_append]; rw [List.nil_append] at o6; exact o6)
  have hlen : 0 + p.base.ts.length + p.other.ts.length = (p.base.ts ++ p.other.ts).length := by simp
  rw [hlen]
  have hdr : dear p = dearT (p.base.ts ++ p.other.ts) := by rw [dearT_app]; rfl
  rw [hdr]
  have hl : (p.base.ts ++ p.other.ts).length ≤ 2000 := by simp; omega
  generalize p.base.ts ++ p.other.ts = ts at *
  have nn := dearT_nn ts
  refine ⟨fun x y wx => ∃ i : Nat, y = i ∧ i ≤ ts.length ∧ dearT ts = max x (dearT (ts.drop i)) ∧ 0 ≤ x ∧ w6 = wx, fun _ y _ => ts.length - y.toNat, ⟨0, rfl, by omega, by simp; omega, by omega, rfl⟩, ?_⟩
  rintro x y wx ⟨i, rfl, hi, he, hx, rfl⟩
  refine br_dec (fun hlt => ?_) fun hge => ?_
  · have hil : i < ts.length := by omega
    obtain ⟨b, off, rfl, hc⟩ := hall.get hil
    rw [List.drop_eq_getElem_cons hil, dearT] at he
    refine ⟨by omega, by omega, ts[i].price, by rw [Int.toNat_natCast, Nat.add_assoc]; exact cellsAt_get hc 1 _ rfl, ?_⟩
    rw [wr64 (by omega) (by omega)]
    exact ⟨⟨i + 1, by omega, by omega, by omega, by omega, rfl⟩, by dsimp only; omega⟩
  · obtain rfl : i = ts.length := by omega
    refine ⟨?_, B6⟩
    rw [List.drop_length] at he
    congr 1
    simp only [dearT] at he
    omega
theorem rblocks_ret (n b : Int) (w : World) (hn : 0 ≤ n ∧ n ≤ 1073741824) (hb : 1 ≤ b ∧ b ≤ 1073741824) : Calls Try.prog 68 #[.int .i64 n, .int .i64 b] w (Ret (.tuple #[.int .i64 (blk n b), .bool true]) w) :=
  ret_same (rBlocks_any n b (by omega) (by omega) (by omega) (by omega) w _ (blkT_yes hn.1 hb.1).symm)
theorem rworst_ret (p : Pl) (a a2 : Option Addr) (c c2 : Nat) (n : Int) (w : World) (h : PlAt w p a a2) :
    Calls Try.prog 32 #[planV p a c a2 c2, .int .i64 n] w (Ret (.tuple #[.int .i64 (worstN p n), .int .i64 (worstE p n)]) w) := by
  refine ret_in (GTar.rworst_calls p.day p.frm p.til p.base.grp p.base.mode p.base.block a p.base.ts.length c p.other.grp p.other.mode p.other.block a2 p.other.ts.length c2 n w (fun u w' => u = .tuple #[.int .i64 (worstN p n), .int .i64 (worstE p n)] ∧ Below w.heap.size w w') ?_)
  unfold GTar.rworst_vc
  have bad : ∀ w', Below w.heap.size w w' → worstE p n = 1 → Value.tuple #[.int .i64 0, .int .i64 1] = .tuple #[.int .i64 (worstN p n), .int .i64 (worstE p n)] ∧ Below w.heap.size w w' := fun w' B hE => by
    unfold worstN
    rw [hE]
    exact ⟨rfl, B⟩
  refine newB (Bs.refl w) fun g w2 g0 sg n2 z2 b2 B2 => callB B2 (r9cplan_ret p a a2 c c2 w2 (h.to B2)) fun w3 b3 B3 => ⟨_, rfl, br_dec (fun h1 => bad _ B3 (by unfold worstE; rw [if_pos (.inl h1)])) fun h1 => br_dec (fun h2 => bad _ B3 (by unfold worstE; rw [if_pos (.inr (by omega))])) fun h2 => br_dec (fun h3 => bad _ B3 (by unfold worstE; rw [if_pos (.inr (by omega))])) fun h3 => ?_⟩
  have hp : planE p = 0 := Decidable.not_not.1 h1
  have hb := (chk_ok (plan_ok hp).1).1.2
  have hn : 0 ≤ n ∧ n ≤ 1073741824 := by omega
  refine callB B3 (rblocks_ret n p.base.block w3 hn hb) fun w5 b5 B5 => ⟨_, _, rfl, callB B5 (rdear_ret p a a2 c c2 w5 (h.to B5)) fun w6 b6 B6 => ⟨_, rfl, ?_, B6⟩⟩
  have hs := worst_small hp hn
  have hE : worstE p n = 0 := by unfold worstE; rw [if_neg (by omega)]
  unfold worstN
  rw [wr64 (by omega) (by omega), hE, if_pos rfl]
theorem rfit_ret (p : Pl) (a a2 : Option Addr) (c c2 : Nat) (cr want : Int) (w : World) (h : PlAt w p a a2) :
    Calls Try.prog 34 #[planV p a c a2 c2, .int .i64 cr, .int .i64 want] w (Ret (.tuple #[.int .i64 (fitU p cr want), .int .i64 (fitC p cr want), .int .i64 (fitE p cr want)]) w) := by
  refine ret_in (GTar.rfit_calls p.day p.frm p.til p.base.grp p.base.mode p.base.block a p.base.ts.length c p.other.grp p.other.mode p.other.block a2 p.other.ts.length c2 cr want w (fun u w' => u = .tuple #[.int .i64 (fitU p cr want), .int .i64 (fitC p cr want), .int .i64 (fitE p cr want)] ∧ Below w.heap.size w w') ?_)
  unfold GTar.rfit_vc
  have bad : ∀ w', Below w.heap.size w w' → fitE p cr want = 1 → Value.tuple #[.int .i64 0, .int .i64 0, .int .i64 1] = .tuple #[.int .i64 (fitU p cr want), .int .i64 (fitC p cr want), .int .i64 (fitE p cr want)] ∧ Below w.heap.size w w' := fun w' B hE => by
    unfold fitU fitC
    rw [hE]
    exact ⟨rfl, B⟩
  refine newB (Bs.refl w) fun g w2 g0 sg n2 z2 b2 B2 => callB B2 (r9cplan_ret p a a2 c c2 w2 (h.to B2)) fun w3 b3 B3 => ⟨_, rfl, br_dec (fun h1 => bad _ B3 (by unfold fitE; rw [if_pos (.inl h1)])) fun h1 => br_dec (fun h2 => bad _ B3 (by unfold fitE; rw [if_pos (.inr (by omega))])) fun h2 => br_dec (fun h3 => bad _ B3 (by unfold fitE; rw [if_pos (.inr (by omega))])) fun h3 => br_dec (fun h4 => bad _ B3 (by unfold fitE; rw [if_pos (.inr (by omega))])) fun h4 => ?_⟩
  have hp : planE p = 0 := Decidable.not_not.1 h1
  have hb := (chk_ok (plan_ok hp).1).1.2
  have hE : fitE p cr want = 0 := by unfold fitE; rw [if_neg (by omega)]
  have hU : fitU p cr want = fitN p.base.block (dear p) cr want := by unfold fitU; rw [if_pos hE]
  have hC : fitC p cr want = blk (fitU p cr want) p.base.block * dear p := by unfold fitC; rw [if_pos hE]
  have hdr := dear_plan hp
  have hnn := fitN_nn p.base.block (dear p) cr want (by omega) (by omega) (by omega)
  rw [← hU] at hnn
  refine ⟨fun lo hi wx => 0 ≤ lo ∧ lo ≤ fitU p cr want ∧ fitU p cr want ≤ hi ∧ hi ≤ want ∧ Bs w wx, fun lo hi _ => (hi - lo).toNat, ⟨by omega, by omega, by omega, by omega, B3⟩, ?_⟩
  rintro lo hi wx ⟨k0, k1, k2, k3, B⟩
  refine br_dec (fun hlt => ⟨by decide, ?_⟩) fun hge => ?_
  · rw [wr64 (show -9223372036854775808 ≤ hi - lo by omega) (by omega), wr64 (show -9223372036854775808 ≤ hi - lo + 1 by omega) (by omega), Int.tdiv_eq_ediv_of_nonneg (show 0 ≤ hi - lo + 1 by omega)]
    have m0 : lo < lo + (hi - lo + 1) / 2 ∧ lo + (hi - lo + 1) / 2 ≤ hi ∧ (hi - lo + 1) / 2 ≤ hi := by omega
    rw [wr64 (show -9223372036854775808 ≤ (hi - lo + 1) / 2 by omega) (by omega), wr64 (show -9223372036854775808 ≤ lo + (hi - lo + 1) / 2 by omega) (by omega)]
    generalize lo + (hi - lo + 1) / 2 = mid at *
    rw [wr64 (show -9223372036854775808 ≤ mid - 1 by omega) (by omega)]
    have hw : worstE p mid = 0 := by unfold worstE; rw [if_neg (by omega)]
    have hN : worstN p mid = blk mid p.base.block * dear p := by unfold worstN; rw [if_pos hw]
    have hle := fitN_le p.base.block (dear p) cr want mid (by omega) hdr.1 (by omega) (by omega) (by omega)
    rw [← hU] at hle
    refine callB B (rworst_ret p a a2 c c2 mid wx (h.to B)) fun w5 b5 B5 => ⟨_, _, rfl, br_dec (fun hc => ?_) fun hc => ?_⟩
    · rw [hN] at hc
      have := hle.1 hc
      exact ⟨⟨by omega, by omega, k2, k3, B5⟩, by dsimp only; omega⟩
    · rw [hN] at hc
      have : ¬ mid ≤ fitU p cr want := fun q => hc (hle.2 q)
      exact ⟨⟨k0, k1, by omega, by omega, B5⟩, by dsimp only; omega⟩
  · obtain rfl : lo = fitU p cr want := by omega
    refine callB B (rworst_ret p a a2 c c2 _ wx (h.to B)) fun w5 b5 B5 => ⟨_, _, rfl, ?_, B5⟩
    have hw : worstE p (fitU p cr want) = 0 := by unfold worstE; rw [if_neg (by omega)]
    unfold worstN
    rw [if_pos hw, hE, hC]
set_option maxRecDepth 10000 in
theorem rrate_new (p : Pl) (a a2 : Option Addr) (c c2 : Nat) (now pos n : Int) (w : World) (h : PlAt w p a a2) :
    Calls Try.prog 31 #[planV p a c a2 c2, .int .i64 now, .int .i64 pos, .int .i64 n] w fun e w' => (∃ a' c', e = .returned (.tuple #[rtdV (rateR p now pos n) a' c', .int .i64 (rateE p now pos n)]) ∧ LsAt w.heap.size w' a' (rateR p now pos n).ls) ∧ Below w.heap.size w w' := by
  refine (GTar.rrate_calls p.day p.frm p.til p.base.grp p.base.mode p.base.block a p.base.ts.length c p.other.grp p.other.mode p.other.block a2 p.other.ts.length c2 now pos n w (fun u w' => (∃ a' c', u = .tuple #[rtdV (rateR p now pos n) a' c', .int .i64 (rateE p now pos n)] ∧ LsAt w.heap.size w' a' (rateR p now pos n).ls) ∧ Below w.heap.size w w') ?_).mono (by rintro e w' ⟨v, rfl, ⟨a', c', rfl, h⟩, h2⟩; exact ⟨⟨a', c', rfl, h⟩, h2⟩)
  unfold GTar.rrate_vc
  have bad : ∀ w', Below w.heap.size w w' → rateE p now pos n = 1 → (∃ a' c', Value.tuple #[.agg #[.slice none 0 0, .int .i64 0, .int .i64 0, .int .i64 0], .int .i64 1] = .tuple #[rtdV (rateR p now pos n) a' c', .int .i64 (rateE p now pos n)] ∧ LsAt w.heap.size w' a' (rateR p now pos n).ls) ∧ Below w.heap.size w w' := fun w' B hE => by
    have hR : rateR p now pos n = ⟨[], 0, 0, 0⟩ := by unfold rateR; rw [if_neg (by rw [hE]; decide)]
    rw [hR, hE]
    exact ⟨⟨none, 0, rfl, Rws.nil⟩, B⟩
  refine newB (Bs.refl w) fun g w2 g0 sg n2 z2 b2 B2 => newB B2 fun g' w3 g0' sg' n3 z3 b3 B3 => callB B3 (r9cplan_ret p a a2 c c2 w3 (h.to B3)) fun w4 b4 B4 => ⟨_, rfl, br_dec (fun h1 => boxB B4 g0' fun w5 h5 B5 _ => bad _ B5 (by unfold rateE; rw [if_pos (.inl h1)])) fun h1 => ?_⟩
  refine br_dec (fun h2 => boxB B4 g0' fun w5 h5 B5 _ => bad _ B5 (by unfold rateE; rw [if_pos (.inr (.inl h2))])) fun h2 => br_dec (fun h3 => boxB B4 g0' fun w5 h5 B5 _ => bad _ B5 (by unfold rateE; rw [if_pos (.inr (.inr (.inl (by omega))))])) fun h3 => br_dec (fun h3 => boxB B4 g0' fun w5 h5 B5 _ => bad _ B5 (by unfold rateE; rw [if_pos (.inr (.inr (.inl (by omega))))])) fun h4 => ?_
  have hp : planE p = 0 := Decidable.not_not.1 h1
  obtain ⟨hat, hbl, _⟩ := at_ok hp now
  have hb := (chk_ok (plan_ok hp).1).1.2
  have hn : 0 ≤ n ∧ n ≤ 1073741824 := by omega
  have hRR : rateE p now pos n = 0 → rateR p now pos n = ⟨splitL (atT p now) pos (blk n p.base.block), blk n p.base.block, costOf (splitL (atT p now) pos (blk n p.base.block)), pos + blk n p.base.block⟩ := fun hE => by unfold rateR; rw [if_pos hE]
  have hbn := blk_nn n p.base.block (by omega) hn.1
  have hbs := blk_self n p.base.block (by omega) hn.1
  have hbb : 0 ≤ blk n p.base.block ∧ blk n p.base.block ≤ 1073741824 := ⟨hbn, Int.le_trans hbs hn.2⟩
  have hbk := fun wy => rblocks_ret n p.base.block wy hn hb
  have hso : posOk pos → ∀ tt : Tar, splitO tt pos (blk n p.base.block) = splitL tt pos (blk n p.base.block) := fun hpos tt => by unfold splitO; rw [if_pos hpos]
  have hE1 : posOk pos → rateE p now pos n = 0 := fun hpos => by
    have hno : ¬ (planE p ≠ 0 ∨ now < 0 ∨ ¬ (0 ≤ n ∧ n ≤ 1073741824) ∨ ¬ posOk pos) := fun k => k.elim (fun k => k hp) fun k => k.elim h2 fun k => k.elim (fun k => k hn) fun k => k hpos
    unfold rateE
    rw [if_neg hno]
  have hE0 : ¬ posOk pos → rateE p now pos n = 1 := fun k => by unfold rateE; rw [if_pos (.inr (.inr (.inr k)))]
  rw [← hbl] at hbk hbb hRR hso
  have b4s := b4.size
  refine newB B4 fun g3 w9 g0'' sg'' n9 z9 b9 B9 => boxB B9 g0'' fun w10 h10 B10 z10 => callB B10 (ris_ret p a a2 c c2 now w10) fun w11 b11 B11 => ⟨_, rfl, ?_⟩
  have b11s := b11.size
  have rest : ∀ (tt : Tar) (at' : Option Addr) (ct : Nat), tt = atT p now → (∀ wy, Bs w wy → TsAt 0 wy at' tt.ts) → ∀ wy, Bs w wy → w11.heap.size ≤ wy.heap.size → Calls Try.prog 68 #[.int .i64 n, .int .i64 tt.block] wy fun e_3 w_13 => KeepG [g3, g', g] wy w_13 ∧
            ∃ (x44_0 : Int) (b44_1 : Bool),
            e_3 = .returned (.tuple #[.int .i64 x44_0, .bool b44_1]) ∧
            Calls Try.prog 69 #[tarV tt at' ct, .int .i64 pos, .int .i64 x44_0] w_13 fun e_4 w_14 => KeepG [g3, g', g] w_13 w_14 ∧
            ∃ (a51_0 : Option Addr) (n51_0 : Nat) (c51_0 : Nat) (x51_1 : Int),
            e_4 = .returned (.tuple #[.slice a51_0 n51_0 c51_0, .int .i64 x51_1]) ∧
            br (decide (x51_1 ≠ 0)) (
              ∀ w_15 : World, BoxSt g' w_14 w_15 →
              (∃ a' c', Value.tuple #[.agg #[.slice none 0 0, .int .i64 0, .int .i64 0, .int .i64 0], .int .i64 1] = .tuple #[rtdV (rateR p now pos n) a' c', .int .i64 (rateE p now pos n)] ∧ LsAt w.heap.size w_15 a' (rateR p now pos n).ls) ∧ Below w.heap.size w w_15
            ) (
              Calls Try.prog 37 #[.slice a51_0 n51_0 c51_0] w_14 fun e_5 w_16 => KeepG [g3, g', g] w_14 w_16 ∧
              ∃ (x59_0 : Int) (b59_1 : Bool),
              e_5 = .returned (.tuple #[.int .i64 x59_0, .bool b59_1]) ∧
              ∀ w_17 : World, BoxSt g' w_16 w_17 →
              (∃ a' c', Value.tuple #[.agg #[.slice a51_0 n51_0 c51_0, .int .i64 x44_0, .int .i64 x59_0, .int .i64 (IntKind.i64.wrap (pos + x44_0))], .int .i64 0] = .tuple #[rtdV (rateR p now pos n) a' c', .int .i64 (rateE p now pos n)] ∧ LsAt w.heap.size w_17 a' (rateR p now pos n).ls) ∧ Below w.heap.size w w_17
            ) := by
    intro tt at' ct htt hts wy By hsz
    rw [← htt] at hbk hbb hRR hso hat
    generalize blk n tt.block = m at *
    refine callB By (hbk wy) fun w13 b13 B13 => ⟨_, _, rfl, callQ B13 (r10split_new tt at' ct pos m w13 (hts w13 B13) hat hbb) ?_⟩
    rintro e w14 ⟨a14, c14, rfl, h14⟩ b14 B14
    have b13s := b13.size
    refine ⟨_, _, _, _, rfl, br_dec (fun h5 => boxB B14 g0' fun w15 h15 B15 _ => bad _ B15 (hE0 fun k => h5 (by rw [if_pos k]))) fun h5 => ?_⟩
    have hpos : posOk pos := Decidable.byContradiction fun k => h5 (by rw [if_neg k]; decide)
    have hls := splitO_ok hat pos (n := m) hbb
    rw [hso hpos] at h14 hls ⊢
    rw [hRR (hE1 hpos), hE1 hpos]
    refine callB B14 (r10cost_ret a14 c14 _ w14 (h14.low (Nat.zero_le _)) hls) fun w16 b16 B16 => ⟨_, _, rfl, boxB B16 g0' fun w18 h18 B18 z18 => ⟨⟨a14, c14, ?_, ?_⟩, B18⟩⟩
    · rw [wr64 (by have := hpos.1; omega) (by have := hpos.2; omega)]
      rfl
    · exact ((h14.below b16).box h18 (by omega)).low (by omega)
  refine br_dec (fun ho => boxB B11 g0'' fun w12 h12 B12 z12 => ?_) fun ho => ?_
  · exact rest p.other a2 c2 (by unfold atT; rw [if_pos ho]) (fun wy By => h.other.below By) w12 B12 (by omega)
  · exact rest p.base a c (by unfold atT; rw [if_neg ho]) (fun wy By => h.base.below By) w11 B11 (by omega)
end Go.Proofs.Ytecmpjccdhmeeaa
end
section
/- The laws of rating: the plan that comes in, tamed; what is tried of the program once; RateTells, RateBounded, RateFits; walked. -/
namespace Go.Proofs.Ytecmpjccdhmeeaa
open Go.RowKit
def tameT (t : Tar) : Tar := { t with ts := t.ts.take 9 }
def tameP (p : Pl) : Pl := { p with base := tameT p.base, other := tameT p.other }
theorem min9 (ts : List Tr) : (min ((ts.length : Nat) : Int) 9).toNat = (ts.take 9).length := by rw [List.length_take]; omega
theorem take9 (ts : List Tr) : (ts.take 9).length ≤ 9 := by rw [List.length_take]; omega
def DayIn (p : Pl) : Prop := -9223372036854775808 ≤ p.day ∧ p.day ≤ 9223372036854775807
theorem PlAt.box {w w1 : World} {p : Pl} {a a2 : Option Addr} {n g : Nat} (h1 : TsAt n w a p.base.ts) (h2 : TsAt n w a2 p.other.ts) (l1 : p.base.ts.length ≤ 1000) (l2 : p.other.ts.length ≤ 1000) (hb : BoxSt g w w1) (hg : g < n) : PlAt w1 p a a2 :=
  ⟨(h1.box hb hg).low (Nat.zero_le _), (h2.box hb hg).low (Nat.zero_le _), l1, l2⟩
set_option maxRecDepth 10000 in
theorem tame_new (p : Pl) (a a2 : Option Addr) (c c2 : Nat) (w : World) (h1 : TsAt 0 w a p.base.ts) (h2 : TsAt 0 w a2 p.other.ts) (l1 : p.base.ts.length ≤ c) (l2 : p.other.ts.length ≤ c2) :
    Calls Try.prog 29 #[planV p a c a2 c2] w fun e w' => (∃ a' c' b' d', e = .returned (planV (tameP p) a' c' b' d') ∧ TsAt w.heap.size w' a' (tameP p).base.ts ∧ TsAt w.heap.size w' b' (tameP p).other.ts) ∧ Below w.heap.size w w' := by
  refine (GRateL.tame_calls p.day p.frm p.til p.base.grp p.base.mode p.base.block a p.base.ts.length c p.other.grp p.other.mode p.other.block a2 p.other.ts.length c2 w (fun u w' => (∃ a' c' b' d', u = planV (tameP p) a' c' b' d' ∧ TsAt w.heap.size w' a' (tameP p).base.ts ∧ TsAt w.heap.size w' b' (tameP p).other.ts) ∧ Below w.heap.size w w') ?_).mono (by rintro e w' ⟨v, rfl, ⟨a', c', b', d', rfl, h⟩, h2⟩; exact ⟨⟨a', c', b', d', rfl, h⟩, h2⟩)
  unfold GRateL.tame_vc
  have t1 := take9 p.base.ts
  have t2 := take9 p.other.ts
  refine newB (Bs.refl w) fun g w2 g0 sg n2 z2 b2 B2 => newB B2 fun g' w3 g0' sg' n3 z3 b3 B3 => newB B3 fun g4 w4 g04 sg4 n4 z4 b4 B4 => ⟨by omega, by omega, ?_⟩
  have o4 : Own w4 w3.heap.size 120 2 (.slice (some ⟨g4, 0, none⟩) 0 0) 0 [] := (own_empty 2 n4).base_le fun k hk => by simp [Value.ownBlock] at hk; omega
  have s4 := ((h1.below B4).take 9).src (c := c) Try.underlying22 (by decide) tr_len tr_one
  rw [min9]
  refine appB B4 o4 B3.size (by omega) s4 (by unfold maxLen; omega) (by omega) (fun x hx e => ?_) fun a5 c5 w5 o5 g5 B5 z5 => boxB B5 g0 fun w6 h6 B6 z6 => ?_
  · have := (o4.lt _ e).1
    simp at hx
    omega
  have f5 : TsAt w3.heap.size w5 a5 (p.base.ts.take 9) := Rws.ofOwn (by decide) tr_len (by rw [List.nil_append] at o5; exact o5)
  have f6 := f5.box h6 (by omega)
  refine newB B6 fun g7 w7 g07 sg7 n7 z7 b7 B7 => ⟨by omega, by omega, ?_⟩
  have o7 : Own w7 w6.heap.size 120 2 (.slice (some ⟨g7, 0, none⟩) 0 0) 0 [] := (own_empty 2 n7).base_le fun k hk => by simp [Value.ownBlock] at hk; omega
  have s7 := ((h2.below B7).take 9).src (c := c2) Try.underlying22 (by decide) tr_len tr_one
  rw [min9]
  refine appB B7 o7 B6.size (by omega) s7 (by unfold maxLen; omega) (by omega) (fun x hx e => ?_) fun a8 c8 w8 o8 g8 B8 z8 => boxB B8 g0 fun w9 h9 B9 z9 => boxB B9 g0' fun w10 h10 B10 z10 => ?_
  · have := (o7.lt _ e).1
    simp at hx
    omega
  have f8 : TsAt w3.heap.size w8 a5 (p.base.ts.take 9) := f6.keep fun b _ hb => (g8.block b (by omega) (by simp [Value.ownBlock]; omega)).trans (b7.block b hb)
  have e8 : TsAt w3.heap.size w8 a8 (p.other.ts.take 9) := Rws.low (Rws.ofOwn (by decide) tr_len (by rw [List.nil_append] at o8; exact o8)) (by omega)
  rw [Nat.zero_add, Nat.zero_add]
  exact ⟨⟨a5, c5, a8, c8, rfl, ((f8.box h9 (by omega)).box h10 (by omega)).low (by omega), ((e8.box h9 (by omega)).box h10 (by omega)).low (by omega)⟩, B10⟩
theorem to_ret (p : Pl) (a a2 : Option Addr) (c c2 : Nat) (w : World) : Calls Try.prog 30 #[planV p a c a2 c2] w (Ret (planV p a c a2 c2) w) := by
  refine ret_in (GRateL.lto_calls p.day p.frm p.til p.base.grp p.base.mode p.base.block a p.base.ts.length c p.other.grp p.other.mode p.other.block a2 p.other.ts.length c2 w (fun u w' => u = planV p a c a2 c2 ∧ Below w.heap.size w w') ?_)
  unfold GRateL.lto_vc
  exact newB (Bs.refl w) fun g w2 g0 sg n2 z2 b2 B2 => newB B2 fun g' w3 g0' sg' n3 z3 b3 B3 => boxB B3 g0' fun w4 h4 B4 z4 => ⟨rfl, B4⟩
def plan0 : Pl := ⟨0, 0, 0, ⟨1, 1, 10, [⟨0, 3⟩]⟩, ⟨0, 0, 0, []⟩⟩
theorem plan0_rate : rateE plan0 0 0 11 = 0 ∧ (rateR plan0 0 0 11).blocks = 2 ∧ (rateR plan0 0 0 11).cost = 6 ∧ (rateR plan0 0 0 11).pos = 2 ∧ fitE plan0 7 100 = 0 ∧ fitU plan0 7 100 = 20 ∧ fitC plan0 7 100 = 6 := by decide +kernel
theorem rates_ret (w : World) : Calls Try.prog 35 #[] w (Ret (.bool true) w) := by
  refine ret_in (GRateL.rates_calls w (fun u w' => u = .bool true ∧ Below w.heap.size w w') ?_)
  unfold GRateL.rates_vc
  obtain ⟨q1, q2, q3, q4, q5, q6, q7⟩ := plan0_rate
  refine newB (Bs.refl w) fun g w2 g0 sg n2 z2 b2 B2 => ?_
  have hp : PlAt w2 plan0 (some ⟨g, 0, none⟩) none := ⟨Rws.one (x := (⟨0, 3⟩ : Tr)) n2 (Nat.zero_le _), Rws.nil, by decide, by decide⟩
  refine newB (Bs.refl w2) fun g' w3 g0' sg' n3 z3 b3 B3 => boxB B3 g0' fun w4 h4 B4 z4 => callQ B4 (rate_new plan0 (some ⟨g, 0, none⟩) none 1 0 0 0 11 w4 (hp.to B4) (by decide)) ?_
  rintro e w5 ⟨a5, c5, rfl, l5⟩ b5 B5
  refine ⟨_, _, _, _, _, _, _, rfl, newB B5 fun g6 w6 g06 sg6 n6 z6 b6 B6 => boxB B6 g06 fun w7 h7 B7 z7 => callB B7 (fit_ret plan0 (some ⟨g, 0, none⟩) none 1 0 7 100 w7 (hp.to B7) (by decide) (by decide)) fun w8 b8 B8 => ⟨_, _, _, rfl, ?_⟩⟩
  rw [q1, q2, q3, q4, q5, q6, q7]
  exact br_y rfl (br_y rfl (br_y rfl (br_y rfl (br_y rfl (br_y rfl ⟨rfl, B2.to B8⟩)))))
theorem dearT_at {p : Pl} (now : Int) : dearT (atT p now).ts ≤ dear p := by
  unfold atT dear
  split <;> omega
theorem tells_walk (p : Pl) (a a2 : Option Addr) (c c2 : Nat) (now pos n cr : Int) (w : World) (h1 : TsAt 0 w a p.base.ts) (h2 : TsAt 0 w a2 p.other.ts) (l1 : p.base.ts.length ≤ c) (l2 : p.other.ts.length ≤ c2) (hd : DayIn p) (hc : cr ≤ 9223372036854775807) :
    Calls Try.prog 6 #[planV p a c a2 c2, .agg #[.int .i64 now, .int .i64 pos, .int .i64 n, .int .i64 cr]] w (Ret (.bool true) w) := by
  refine ret_in (GRateL.tells_calls p.day p.frm p.til p.base.grp p.base.mode p.base.block a p.base.ts.length c p.other.grp p.other.mode p.other.block a2 p.other.ts.length c2 now pos n cr w (fun u w' => u = .bool true ∧ Below w.heap.size w w') ?_)
  unfold GRateL.tells_vc
  refine newB (Bs.refl w) fun g w2 g0 sg n2 z2 b2 B2 => newB B2 fun g' w3 g0' sg' n3 z3 b3 B3 => callQ B3 (tame_new p a a2 c c2 w3 (h1.below B3) (h2.below B3) l1 l2) ?_
  rintro e w4 ⟨a', c', b', d', rfl, h3, h4⟩ b4 B4
  refine ⟨_, _, _, _, _, _, _, _, _, _, _, _, _, _, _, rfl, boxB B4 g0 fun w5 h5 B5 z5 => ?_⟩
  have hP : PlAt w5 (tameP p) a' b' := PlAt.box h3 h4 (Nat.le_trans (take9 _) (by decide)) (Nat.le_trans (take9 _) (by decide)) h5 (by omega)
  have hd' : DayIn (tameP p) := hd
  generalize tameP p = q at *
  refine callB (Bs.refl w5) (to_ret q a' b' c' d' w5) fun w6 b6 C6 => ⟨_, _, _, _, _, _, _, _, _, _, _, _, _, _, _, rfl, newB C6 fun g7 w7 g07 sg7 n7 z7 b7 C7 => boxB C7 g07 fun w8 h8 C8 z8 => callQ C8 (rate_new q a' b' c' d' now pos n w8 (hP.to C8) hd') ?_⟩
  rintro e w9 ⟨a9, c9, rfl, l9⟩ b9 C9
  refine ⟨_, _, _, _, _, _, _, rfl, newB (Bs.refl w9) fun g10 w10 g010 sg10 n10 z10 b10 D10 => boxB D10 g010 fun w11 h11 D11 z11 => callQ D11 (rrate_new q a' b' c' d' now pos n w11 (hP.to (C9.to D11))) ?_⟩
  rintro e w12 ⟨a12, c12, rfl, l12⟩ b12 D12
  refine ⟨_, _, _, _, _, _, _, rfl, newB (Bs.refl w12) fun g13 w13 g013 sg13 n13 z13 b13 E13 => boxB E13 g013 fun w14 h14 E14 z14 => ?_⟩
  have C12 := C9.to D12
  refine callB E14 (worst_ret q a' b' c' d' n w14 (hP.to (C12.to E14)) hd') fun w15 b15 E15 => ⟨_, _, rfl, callB E15 (rworst_ret q a' b' c' d' n w15 (hP.to (C12.to E15))) fun w16 b16 E16 => ⟨_, _, rfl, ?_⟩⟩
  refine callB E16 (fit_ret q a' b' c' d' cr n w16 (hP.to (C12.to E16)) hd' hc) fun w17 b17 E17 => ⟨_, _, _, rfl, callB E17 (rfit_ret q a' b' c' d' cr n w17 (hP.to (C12.to E17))) fun w18 b18 E18 => ⟨_, _, _, rfl, ?_⟩⟩
  refine callB E18 (rates_ret w18) fun w19 b19 E19 => ⟨_, rfl, br_t rfl (br_y rfl (callB E19 (lsame_ret a9 a12 c9 c12 _ w19 ((l9.below (D12.to E19)).low (Nat.zero_le _)) ((l12.below E19).low (Nat.zero_le _)) ?_) fun w20 b20 E20 => ⟨_, rfl, ?_⟩))⟩
  · by_cases hE : rateE q now pos n = 0
    · obtain ⟨k1, k2, k3, k4⟩ := rateE_ok hE
      have hat := at_ok k1 now
      have hb := (chk_ok (plan_ok k1).1).1.2
      have := (splitL_ok hat.1 k4.1 (blk_nn n q.base.block (by omega) k3.1)).2.2
      unfold rateR
      rw [if_pos hE]
      exact Nat.le_trans this (by decide)
    · unfold rateR
      rw [if_neg hE]
      exact Nat.zero_le _
  · exact br_t rfl (br_y rfl (br_y rfl (br_y rfl (br_y rfl (br_y rfl (br_y rfl (br_y rfl ⟨by simp, B5.to (C12.to E20)⟩)))))))
end Go.Proofs.Ytecmpjccdhmeeaa
end
section
/- The laws of rating: RateBounded, RateFits; walked. -/
namespace Go.Proofs.Ytecmpjccdhmeeaa
open Go.RowKit
theorem rateR_len (q : Pl) (now pos n : Int) : (rateR q now pos n).ls.length ≤ 1000 := by
  by_cases hE : rateE q now pos n = 0
  · obtain ⟨k1, k2, k3, k4⟩ := rateE_ok hE
    have hat := at_ok k1 now
    have hb := (chk_ok (plan_ok k1).1).1.2
    have := (splitL_ok hat.1 k4.1 (blk_nn n q.base.block (by omega) k3.1)).2.2
    unfold rateR
    rw [if_pos hE]
    exact Nat.le_trans this (by decide)
  · unfold rateR
    rw [if_neg hE]
    exact Nat.zero_le _
theorem rateR_yes {q : Pl} {now pos n : Int} (hE : rateE q now pos n = 0) : rateR q now pos n = ⟨splitL (atT q now) pos (blk n q.base.block), blk n q.base.block, costOf (splitL (atT q now) pos (blk n q.base.block)), pos + blk n q.base.block⟩ := by unfold rateR; rw [if_pos hE]
theorem rate_facts {q : Pl} {now pos n : Int} (hE : rateE q now pos n = 0) :
    LsOk (rateR q now pos n).ls ∧ (rateR q now pos n).cost = costOf (rateR q now pos n).ls ∧ 0 ≤ (rateR q now pos n).cost ∧ (rateR q now pos n).cost ≤ worstN q n ∧ (rateR q now pos n).pos = pos + (rateR q now pos n).blocks ∧ 0 ≤ (rateR q now pos n).blocks ∧ (rateR q now pos n).blocks ≤ 1073741824 ∧ worstE q n = 0 ∧ posOk pos := by
  obtain ⟨k1, k2, k3, k4⟩ := rateE_ok hE
  have hat := at_ok k1 now
  have hb := (chk_ok (plan_ok k1).1).1.2
  have hbn := blk_nn n q.base.block (by omega) k3.1
  have hbs := blk_self n q.base.block (by omega) k3.1
  have hc := splitL_cost hat.1 k4.1 hbn
  have hso : LsOk (splitL (atT q now) pos (blk n q.base.block)) := by
    have := splitO_ok hat.1 pos (n := blk n q.base.block) (by omega)
    unfold splitO at this
    rwa [if_pos k4] at this
  have hw : worstE q n = 0 := by unfold worstE; rw [if_neg (by omega)]
  have hd := Int.mul_le_mul_of_nonneg_left (dearT_at (p := q) now) hbn
  rw [rateR_yes hE]
  unfold worstN
  rw [if_pos hw]
  exact ⟨hso, rfl, hc.1, Int.le_trans hc.2 hd, rfl, hbn, by dsimp only; omega, hw, k4⟩
set_option maxRecDepth 10000 in
theorem bounded_walk (p : Pl) (a a2 : Option Addr) (c c2 : Nat) (now pos n cr : Int) (w : World) (h1 : TsAt 0 w a p.base.ts) (h2 : TsAt 0 w a2 p.other.ts) (l1 : p.base.ts.length ≤ c) (l2 : p.other.ts.length ≤ c2) (hd : DayIn p) :
    Calls Try.prog 7 #[planV p a c a2 c2, .agg #[.int .i64 now, .int .i64 pos, .int .i64 n, .int .i64 cr]] w (Ret (.bool true) w) := by
  refine ret_in (GRateL.bounded_calls p.day p.frm p.til p.base.grp p.base.mode p.base.block a p.base.ts.length c p.other.grp p.other.mode p.other.block a2 p.other.ts.length c2 now pos n cr w (fun u w' => u = .bool true ∧ Below w.heap.size w w') ?_)
  unfold GRateL.bounded_vc
  refine newB (Bs.refl w) fun g w2 g0 sg n2 z2 b2 B2 => newB B2 fun g' w3 g0' sg' n3 z3 b3 B3 => callQ B3 (tame_new p a a2 c c2 w3 (h1.below B3) (h2.below B3) l1 l2) ?_
  rintro e w4 ⟨a', c', b', d', rfl, h3, h4⟩ b4 B4
  refine ⟨_, _, _, _, _, _, _, _, _, _, _, _, _, _, _, rfl, boxB B4 g0 fun w5 h5 B5 z5 => ?_⟩
  have hP : PlAt w5 (tameP p) a' b' := PlAt.box h3 h4 (Nat.le_trans (take9 _) (by decide)) (Nat.le_trans (take9 _) (by decide)) h5 (by omega)
  have hd' : DayIn (tameP p) := hd
  generalize tameP p = q at *
  have fin : ∀ (wy : World) (gx : Nat) (ax : Option Addr) (cx : Nat), Bs w5 wy → LsAt 0 wy ax (rateR q now pos n).ls → GRateL.bounded_k1 (fun u w' => u = .bool true ∧ Below w.heap.size w w') pos n g g' q.day q.frm q.til q.base.grp q.base.mode q.base.block a' q.base.ts.length c' q.other.grp q.other.mode q.other.block b' q.other.ts.length d' (rateE q now pos n) gx ax (rateR q now pos n).ls.length cx (rateR q now pos n).blocks (rateR q now pos n).cost (rateR q now pos n).pos wy := by
    intro wy gx ax cx By hl
    unfold GRateL.bounded_k1
    refine drewB (Bs.refl wy) fun w12 b12 C12 _ => callB C12 (to_ret q a' b' c' d' w12) fun w13 b13 C13 => ⟨_, _, _, _, _, _, _, _, _, _, _, _, _, _, _, rfl, callB C13 (worst_ret q a' b' c' d' n w13 (hP.to (By.to C13)) hd') fun w14 b14 C14 => ⟨_, _, rfl, callB C14 (rates_ret w14) fun w15 b15 C15 => ⟨_, rfl, br_f rfl (br_dec (fun hE => ?_) fun hE => ?_)⟩⟩⟩
    · exact callB C15 (rates_ret w15) fun w16 b16 C16 => ⟨_, rfl, rfl, B5.to (By.to C16)⟩
    · obtain ⟨f1, f2, f3, f4, f5, f6, f7, f8, f9⟩ := rate_facts (Decidable.not_not.1 hE)
      refine callB C15 (r10cost_ret ax cx _ w15 (hl.below C15) f1) fun w18 b18 C18 => ⟨_, _, rfl, br_y f8 (br_y f3 (br_y f4 (br_t rfl (br_y f2.symm ⟨?_, B5.to (By.to C18)⟩))))⟩
      rw [wr64 (by have := f9.1; omega) (by have := f9.2; omega), f5]
      simp
  refine drewB (Bs.refl w5) fun w6 b6 C6 _ => ⟨callB C6 (to_ret q a' b' c' d' w6) fun w7 b7 C7 => ⟨_, _, _, _, _, _, _, _, _, _, _, _, _, _, _, rfl, ⟨callQ C7 (rate_new q a' b' c' d' now pos n w7 (hP.to C7) hd') ?_, newB C7 fun g8 w8 g08 sg8 n8 z8 b8 C8 => callQ C8 (rate_new q a' b' c' d' now pos n w8 (hP.to C8) hd') ?_⟩⟩, newB C6 fun g8 w8 g08 sg8 n8 z8 b8 C8 => callB C8 (to_ret q a' b' c' d' w8) fun w9 b9 C9 => ⟨_, _, _, _, _, _, _, _, _, _, _, _, _, _, _, rfl, callQ C9 (rate_new q a' b' c' d' now pos n w9 (hP.to C9) hd') ?_⟩⟩
  · rintro e w9 ⟨a9, c9, rfl, l9⟩ b9 C9
    exact ⟨_, _, _, _, _, _, _, rfl, newB C9 fun g10 w10 g010 sg10 n10 z10 b10 C10 => boxB C10 g010 fun w11 h11 C11 z11 => fin w11 _ _ _ C11 ((l9.newbox b10 sg10 h11).low (Nat.zero_le _))⟩
  · rintro e w9 ⟨a9, c9, rfl, l9⟩ b9 C9
    exact ⟨_, _, _, _, _, _, _, rfl, boxB C9 g08 fun w11 h11 C11 z11 => fin w11 _ _ _ C11 ((l9.box h11 (by omega)).low (Nat.zero_le _))⟩
  · rintro e w10 ⟨a9, c9, rfl, l9⟩ b10 C10
    have b9s := b9.size
    exact ⟨_, _, _, _, _, _, _, rfl, boxB C10 g08 fun w11 h11 C11 z11 => fin w11 _ _ _ C11 ((l9.box h11 (by omega)).low (Nat.zero_le _))⟩
set_option maxRecDepth 10000 in
theorem fits_walk (p : Pl) (a a2 : Option Addr) (c c2 : Nat) (cr want : Int) (w : World) (h1 : TsAt 0 w a p.base.ts) (h2 : TsAt 0 w a2 p.other.ts) (l1 : p.base.ts.length ≤ c) (l2 : p.other.ts.length ≤ c2) (hd : DayIn p) (hc : cr ≤ 9223372036854775807) :
    Calls Try.prog 8 #[planV p a c a2 c2, .int .i64 cr, .int .i64 want] w (Ret (.bool true) w) := by
  refine ret_in (GRateL.fits_calls p.day p.frm p.til p.base.grp p.base.mode p.base.block a p.base.ts.length c p.other.grp p.other.mode p.other.block a2 p.other.ts.length c2 cr want w (fun u w' => u = .bool true ∧ Below w.heap.size w w') ?_)
  unfold GRateL.fits_vc
  refine newB (Bs.refl w) fun g w2 g0 sg n2 z2 b2 B2 => callQ B2 (tame_new p a a2 c c2 w2 (h1.below B2) (h2.below B2) l1 l2) ?_
  rintro e w4 ⟨a', c', b', d', rfl, h3, h4⟩ b4 B4
  refine ⟨_, _, _, _, _, _, _, _, _, _, _, _, _, _, _, rfl, boxB B4 g0 fun w5 h5 B5 z5 => ?_⟩
  have hP : PlAt w5 (tameP p) a' b' := PlAt.box h3 h4 (Nat.le_trans (take9 _) (by decide)) (Nat.le_trans (take9 _) (by decide)) h5 (by omega)
  have hd' : DayIn (tameP p) := hd
  generalize tameP p = q at *
  refine callB (Bs.refl w5) (to_ret q a' b' c' d' w5) fun w6 b6 C6 => ⟨_, _, _, _, _, _, _, _, _, _, _, _, _, _, _, rfl, callB C6 (fit_ret q a' b' c' d' cr want w6 (hP.to C6) hd' hc) fun w7 b7 C7 => ⟨_, _, _, rfl, callB C7 (rates_ret w7) fun w8 b8 C8 => ⟨_, rfl, br_f rfl (br_dec (fun hE => ?_) fun hE => ?_)⟩⟩⟩
  · have hU : fitU q cr want = 0 := by unfold fitU; rw [if_neg hE]
    have hC : fitC q cr want = 0 := by unfold fitC; rw [if_neg hE]
    rw [hU, hC]
    exact callB C8 (rates_ret w8) fun w9 b9 C9 => ⟨_, rfl, br_t rfl (br_y rfl ⟨rfl, B5.to C9⟩)⟩
  have hE := Decidable.not_not.1 hE
  have hU : fitU q cr want = fitN q.base.block (dear q) cr want := by unfold fitU; rw [if_pos hE]
  have hC : fitC q cr want = blk (fitU q cr want) q.base.block * dear q := by unfold fitC; rw [if_pos hE]
  obtain ⟨k1, k2, k3⟩ : planE q = 0 ∧ (0 ≤ want ∧ want ≤ 1073741824) ∧ 0 ≤ cr := by
    unfold fitE at hE
    split at hE
    · cases hE
    · omega
  have hb := (chk_ok (plan_ok k1).1).1.2
  have hdr := dear_plan k1
  have hnn := fitN_nn q.base.block (dear q) cr want (by omega) k3 k2.1
  rw [← hU] at hnn
  have hle := fun n hn hw => fitN_le q.base.block (dear q) cr want n (by omega) hdr.1 k3 hn hw
  rw [← hU] at hle
  have hw : ∀ n, 0 ≤ n → n ≤ want → worstE q n = 0 := fun n h1 h2 => by unfold worstE; rw [if_neg (by omega)]
  have hN : ∀ n, 0 ≤ n → n ≤ want → worstN q n = blk n q.base.block * dear q := fun n h1 h2 => by unfold worstN; rw [if_pos (hw n h1 h2)]
  refine callB C8 (to_ret q a' b' c' d' w8) fun w10 b10 C10 => ⟨_, _, _, _, _, _, _, _, _, _, _, _, _, _, _, rfl, callB C10 (worst_ret q a' b' c' d' _ w10 (hP.to C10) hd') fun w11 b11 C11 => ⟨_, _, rfl, ?_⟩⟩
  have hcr := (hle _ hnn.1 hnn.2).2 (Int.le_refl _)
  rw [hw _ hnn.1 hnn.2, hN _ hnn.1 hnn.2, hC]
  refine br_n (by omega) (br_n (by omega) (br_n (by omega) (br_n (by omega) (br_n (by omega) (br_dec (fun he => ⟨rfl, B5.to C11⟩) fun he => ?_)))))
  rw [wr64 (by omega) (by omega)]
  refine callB C11 (to_ret q a' b' c' d' w11) fun w12 b12 C12 => ⟨_, _, _, _, _, _, _, _, _, _, _, _, _, _, _, rfl, callB C12 (worst_ret q a' b' c' d' _ w12 (hP.to C12) hd') fun w13 b13 C13 => ⟨_, _, rfl, ?_⟩⟩
  rw [hw _ (by omega) (by omega), hN _ (by omega) (by omega)]
  have hno : ¬ blk (fitU q cr want + 1) q.base.block * dear q ≤ cr := fun k => by have := (hle _ (by omega) (by omega)).1 k; omega
  exact br_y rfl ⟨by rw [decide_eq_true (by omega)], B5.to C13⟩
end Go.Proofs.Ytecmpjccdhmeeaa
end
section
/- The laws of rating: RateApart, RateSteady; walked. -/
namespace Go.Proofs.Ytecmpjccdhmeeaa
open Go.RowKit
theorem tdiv_pos_eq {a b : Int} (ha : 0 ≤ a) : Int.tdiv a b = a / b := Int.tdiv_eq_ediv_of_nonneg ha
/-- A rate of whole blocks. -/
theorem rate_whole {q : Pl} {now pos k : Int} (hp : planE q = 0) (hn : 0 ≤ now) (ho : posOk pos) (hk : 0 ≤ k) (hkb : k * q.base.block ≤ 1073741824) :
    rateE q now pos (k * q.base.block) = 0 ∧ rateR q now pos (k * q.base.block) = ⟨splitL (atT q now) pos k, k, costOf (splitL (atT q now) pos k), pos + k⟩ := by
  have hb := (chk_ok (plan_ok hp).1).1.2
  have h0 : 0 ≤ k * q.base.block := Int.mul_nonneg hk (by omega)
  have hE : rateE q now pos (k * q.base.block) = 0 := by
    unfold rateE
    rw [if_neg]
    intro h
    rcases h with h | h | h | h
    · exact h hp
    · omega
    · exact h ⟨h0, hkb⟩
    · exact h ho
  refine ⟨hE, ?_⟩
  rw [rateR_yes hE, blk_whole k _ (by omega)]
theorem split_sum {t : Tar} (h : chkE t = 0) (hm : t.mode = 1) (pos k1 k2 : Int) (h1 : 0 ≤ k1) (h2 : 0 ≤ k2) : costOf (splitL t pos k1) + costOf (splitL t (pos + k1) k2) = costOf (splitL t pos (k1 + k2)) := by
  have e : ∀ p n, splitL t p n = splitG 0 0 t.ts p (p + n) := fun p n => by unfold splitL; rw [if_neg (fun k => by omega)]
  rw [e, e, e, splitG_apart t.ts 0 0 0 0 pos (pos + k1) (pos + k1 + k2) (chk_ok h).2.2.2 (by omega) (by omega), Int.add_assoc]
set_option maxRecDepth 10000 in
theorem apart_walk (p : Pl) (a a2 : Option Addr) (c c2 : Nat) (now0 pos0 n0 cr more : Int) (w : World) (h1 : TsAt 0 w a p.base.ts) (h2 : TsAt 0 w a2 p.other.ts) (l1 : p.base.ts.length ≤ c) (l2 : p.other.ts.length ≤ c2) (hd : DayIn p) :
    Calls Try.prog 9 #[planV p a c a2 c2, .agg #[.int .i64 now0, .int .i64 pos0, .int .i64 n0, .int .i64 cr], .int .i64 more] w (Ret (.bool true) w) := by
  refine ret_in (GRateL.apart_calls p.day p.frm p.til p.base.grp p.base.mode p.base.block a p.base.ts.length c p.other.grp p.other.mode p.other.block a2 p.other.ts.length c2 now0 pos0 n0 cr more w (fun u w' => u = .bool true ∧ Below w.heap.size w w') ?_)
  unfold GRateL.apart_vc
  refine newB (Bs.refl w) fun g w2 g0 sg n2 z2 b2 B2 => newB B2 fun g' w3 g0' sg' n3 z3 b3 B3 => callQ B3 (tame_new p a a2 c c2 w3 (h1.below B3) (h2.below B3) l1 l2) ?_
  rintro e w4 ⟨a', c', b', d', rfl, h3, h4⟩ b4 B4
  refine ⟨_, _, _, _, _, _, _, _, _, _, _, _, _, _, _, rfl, boxB B4 g0 fun w5 h5 B5 z5 => ?_⟩
  have hP : PlAt w5 (tameP p) a' b' := PlAt.box h3 h4 (Nat.le_trans (take9 _) (by decide)) (Nat.le_trans (take9 _) (by decide)) h5 (by omega)
  have hd' : DayIn (tameP p) := hd
  generalize tameP p = q at *
  refine ⟨fun b wx => (b = false → planE q = 0 ∧ q.base.mode = 1 ∧ (q.day = 0 ∨ q.other.mode = 1)) ∧ Bs w5 wx, callB (Bs.refl w5) (rates_ret w5) fun w6 b6 C6 => ⟨_, rfl, br_f rfl (callB C6 (r9cplan_ret q a' b' c' d' w6 (hP.to C6)) fun w7 b7 C7 => ⟨_, rfl, br_dec (fun k1 => ⟨(fun k => by cases k), C7⟩) fun k1 => br_dec (fun k2 => ⟨(fun k => by cases k), C7⟩) fun k2 => br_dec (fun k3 => ⟨fun k => ?_, C7⟩) fun k3 => ⟨fun k => ?_, C7⟩⟩)⟩, ?_⟩
  · exact ⟨Decidable.not_not.1 k1, by omega, .inr (by have := of_decide_eq_false k; omega)⟩
  · exact ⟨Decidable.not_not.1 k1, by omega, .inl (by omega)⟩
  rintro b w8 ⟨hb, C8⟩
  cases b with
  | true => exact br_t rfl (callB C8 (rates_ret w8) fun w9 b9 C9 => ⟨_, rfl, rfl, B5.to C9⟩)
  | false =>
    obtain ⟨hp, hm1, hm2⟩ := hb rfl
    have hblk := (chk_ok (plan_ok hp).1).1.2
    have hgen : ∀ B : Int, 1 ≤ B → B ≤ 1073741824 → ∃ m : Nat, IntKind.u64.wrap (IntKind.i64.wrap (IntKind.i64.wrap (Int.tdiv 536870912 B) + 1)) = (m : Int) ∧ 0 < m ∧ ((m : Int) - 1) * B ≤ 536870912 := by
      intro B k1 k2
      have q0 : 0 ≤ 536870912 / B := Int.ediv_nonneg (by omega) (by omega)
      have q1 : 536870912 / B ≤ 536870912 := Int.ediv_le_self _ (by omega)
      rw [tdiv_pos_eq (by omega), wr64 (show -9223372036854775808 ≤ 536870912 / B by omega) (by omega), wr64 (by omega) (by omega), wru64 (by omega) (by omega)]
      refine ⟨(536870912 / B + 1).toNat, by omega, by omega, ?_⟩
      rw [show (((536870912 / B + 1).toNat : Nat) : Int) - 1 = 536870912 / B by omega]
      exact Int.ediv_mul_le _ (by omega)
    obtain ⟨m, em, hm0, hmb⟩ := hgen q.base.block hblk.1 hblk.2
    have hun : ∀ z : Int, ∃ k : Int, IntKind.i64.wrap (IntKind.i64.wrap (Int.tmod (IntKind.u64.wrap z) (m : Int)) * q.base.block) = k * q.base.block ∧ 0 ≤ k ∧ k ≤ 536870912 ∧ k * q.base.block ≤ 536870912 := by
      intro z
      obtain ⟨k, hk, ek⟩ := u64_mod z m hm0
      have hk2 : (k : Int) * q.base.block ≤ 536870912 := Int.le_trans (Int.mul_le_mul_of_nonneg_right (by omega) (by omega)) hmb
      have hk3 : (k : Int) ≤ k * q.base.block := by
        have := Int.mul_le_mul_of_nonneg_left (show 1 ≤ q.base.block by omega) (show (0 : Int) ≤ k by omega)
        omega
      have hk0 : 0 ≤ (k : Int) := by omega
      refine ⟨k, ?_, hk0, by omega, hk2⟩
      rw [ek, wr64 (show -9223372036854775808 ≤ (k : Int) by omega) (by omega), wr64 (by omega) (by omega)]
    obtain ⟨k1, e1, p10, p11, p12⟩ := hun n0
    obtain ⟨k2, e2, p20, p21, p22⟩ := hun more
    obtain ⟨ps, hps, eps⟩ := u64_mod pos0 274877906944 (by decide)
    have eps' : IntKind.i64.wrap (Int.tmod (IntKind.u64.wrap pos0) 274877906944) = (ps : Int) := by
      rw [show Int.tmod (IntKind.u64.wrap pos0) 274877906944 = (ps : Int) from eps, wr64 (by omega) (by omega)]
    obtain ⟨nw, hnw, enw⟩ : ∃ nw : Int, 0 ≤ nw ∧ IntKind.i64.wrap (Int.fdiv (IntKind.u64.wrap now0) (2 ^ (min (1 : Int).toNat (IntKind.bits .u64)))) = nw := by
      have h0 : 0 ≤ IntKind.u64.wrap now0 ∧ IntKind.u64.wrap now0 ≤ 18446744073709551615 := by rw [IntKind.wrap_u64]; omega
      have hpw : (2 : Int) ^ (min (1 : Int).toNat (IntKind.bits .u64)) = 2 := by decide
      rw [hpw, Int.fdiv_eq_ediv_of_nonneg _ (by omega)]
      refine ⟨IntKind.u64.wrap now0 / 2, by omega, wr64 (by omega) (by omega)⟩
    have hpo : posOk (ps : Int) := ⟨by omega, by omega⟩
    have hpo2 : posOk ((ps : Int) + k1) := ⟨by omega, by omega⟩
    have hsum : k1 * q.base.block + k2 * q.base.block = (k1 + k2) * q.base.block := (Int.add_mul _ _ _).symm
    obtain ⟨E1, R1⟩ := rate_whole hp hnw hpo p10 (by omega)
    obtain ⟨E2, R2⟩ := rate_whole hp hnw hpo2 p20 (by omega)
    obtain ⟨E3, R3⟩ := rate_whole (k := k1 + k2) hp hnw hpo (by omega) (by omega)
    have hat := at_ok hp nw
    have hmode : (atT q nw).mode = 1 := by
      unfold atT
      split
      · rename_i ho
        rcases hm2 with h | h
        · exact absurd h ho.1
        · exact h
      · exact hm1
    have hcost := split_sum hat.1 hmode ps k1 k2 p10 p20
    have hc3 := splitL_cost hat.1 (pos := (ps : Int)) (n := k1 + k2) (by omega) (by omega)
    have hds := (dear_small hat.1).2
    have hc4 : (k1 + k2) * dearT (atT q nw).ts ≤ 1073741824 * 1048576 := mul_le_mul_i (by omega) hds (dear_small hat.1).1 (by omega)
    have fin : ∀ (wy : World) (g3 g4 : Nat), Bs w5 wy → GRateL.apart_k1 (fun u w' => u = .bool true ∧ Below w.heap.size w w') now0 pos0 n0 more g g' q.day q.frm q.til q.base.grp q.base.mode q.base.block a' q.base.ts.length c' q.other.grp q.other.mode q.other.block b' q.other.ts.length d' k1 (costOf (splitL (atT q nw) ps k1)) 0 g3 0 g4 k2 (costOf (splitL (atT q nw) (ps + k1) k2)) (ps + k1 + k2) wy := by
      intro wy g3 g4 By
      unfold GRateL.apart_k1
      rw [em, e1, e2, eps', enw, wr64 (show -9223372036854775808 ≤ k1 * q.base.block + k2 * q.base.block by have := Int.mul_nonneg p10 (show 0 ≤ q.base.block by omega); have := Int.mul_nonneg p20 (show 0 ≤ q.base.block by omega); omega) (by omega), hsum]
      refine callB By (to_ret q a' b' c' d' wy) fun w22 b22 C22 => ⟨_, _, _, _, _, _, _, _, _, _, _, _, _, _, _, rfl, callQ C22 (rate_new q a' b' c' d' nw ps _ w22 (hP.to C22) hd') ?_⟩
      rintro e w23 ⟨a23, c23, rfl, l23⟩ b23 C23
      rw [E3, R3]
      refine ⟨_, _, _, _, _, _, _, rfl, newB C23 fun g24 w24 g024 sg24 n24 z24 b24 C24 => boxB C24 g024 fun w25 h25 C25 z25 => br_y rfl (br_y rfl (br_y rfl (br_y ?_ (br_y (by dsimp only; omega) ⟨?_, B5.to C25⟩))))⟩
      · rw [hcost, wr64 (by omega) (by omega)]
      · rw [wr64 (by omega) (by omega)]; simp
    refine br_f rfl (drewB C8 fun w10 b10 C10 _ => ?_)
    rw [em, e1, e2, eps', enw]
    refine ⟨by omega, by omega, by omega, by omega, drewB C10 fun w11 b11 C11 _ => ⟨by decide, by decide, callB C11 (to_ret q a' b' c' d' w11) fun w12 b12 C12 => ⟨_, _, _, _, _, _, _, _, _, _, _, _, _, _, _, rfl, callQ C12 (rate_new q a' b' c' d' nw ps _ w12 (hP.to C12) hd') ?_⟩⟩⟩
    rintro e w13 ⟨a13, c13, rfl, l13⟩ b13 C13
    rw [E1, R1]
    refine ⟨_, _, _, _, _, _, _, rfl, newB C13 fun g14 w14 g014 sg14 n14 z14 b14 C14 => boxB C14 g014 fun w15 h15 C15 z15 => drewB C15 fun w16 b16 C16 _ => ?_⟩
    have r2 := fun wy (h : Bs w5 wy) => rate_new q a' b' c' d' nw (ps + k1) (k2 * q.base.block) wy (hP.to h) hd'
    rw [E2, R2] at r2
    refine ⟨callB C16 (to_ret q a' b' c' d' w16) fun w17 b17 C17 => ⟨_, _, _, _, _, _, _, _, _, _, _, _, _, _, _, rfl, ⟨callQ C17 (r2 w17 C17) ?_, newB C17 fun g8 w18 g08 sg8 n8 z8 b8 C18 => callQ C18 (r2 w18 C18) ?_⟩⟩, newB C16 fun g8 w18 g08 sg8 n8 z8 b8 C18 => callB C18 (to_ret q a' b' c' d' w18) fun w19 b19 C19 => ⟨_, _, _, _, _, _, _, _, _, _, _, _, _, _, _, rfl, callQ C19 (r2 w19 C19) ?_⟩⟩
    · rintro e w9 ⟨a9, c9, rfl, l9⟩ b9 C9
      exact ⟨_, _, _, _, _, _, _, rfl, newB C9 fun g10 w10 g010 sg10 n10 z10 b10 C10 => boxB C10 g010 fun w11 h11 C11 z11 => fin w11 _ _ C11⟩
    · rintro e w9 ⟨a9, c9, rfl, l9⟩ b9 C9
      exact ⟨_, _, _, _, _, _, _, rfl, boxB C9 g08 fun w11 h11 C11 z11 => fin w11 _ _ C11⟩
    · rintro e w9 ⟨a9, c9, rfl, l9⟩ b9 C9
      exact ⟨_, _, _, _, _, _, _, rfl, boxB C9 g08 fun w11 h11 C11 z11 => fin w11 _ _ C11⟩
set_option maxRecDepth 10000 in
theorem steady_walk (p : Pl) (a a2 : Option Addr) (c c2 : Nat) (now pos n cr later : Int) (w : World) (h1 : TsAt 0 w a p.base.ts) (h2 : TsAt 0 w a2 p.other.ts) (l1 : p.base.ts.length ≤ c) (l2 : p.other.ts.length ≤ c2) (hd : DayIn p) :
    Calls Try.prog 10 #[planV p a c a2 c2, .agg #[.int .i64 now, .int .i64 pos, .int .i64 n, .int .i64 cr], .int .i64 later] w (Ret (.bool true) w) := by
  refine ret_in (GRateL.steady_calls p.day p.frm p.til p.base.grp p.base.mode p.base.block a p.base.ts.length c p.other.grp p.other.mode p.other.block a2 p.other.ts.length c2 now pos n cr later w (fun u w' => u = .bool true ∧ Below w.heap.size w w') ?_)
  unfold GRateL.steady_vc
  refine newB (Bs.refl w) fun g w2 g0 sg n2 z2 b2 B2 => newB B2 fun g' w3 g0' sg' n3 z3 b3 B3 => callQ B3 (tame_new p a a2 c c2 w3 (h1.below B3) (h2.below B3) l1 l2) ?_
  rintro e w4 ⟨a', c', b', d', rfl, h3, h4⟩ b4 B4
  refine ⟨_, _, _, _, _, _, _, _, _, _, _, _, _, _, _, rfl, boxB B4 g0 fun w5 h5 B5 z5 => ?_⟩
  have hP : PlAt w5 (tameP p) a' b' := PlAt.box h3 h4 (Nat.le_trans (take9 _) (by decide)) (Nat.le_trans (take9 _) (by decide)) h5 (by omega)
  have hd' : DayIn (tameP p) := hd
  generalize tameP p = q at *
  refine ⟨fun b wx => (b = false → 0 ≤ now ∧ 0 ≤ later ∧ (isOther q now ↔ isOther q later)) ∧ Bs w5 wx, drewB (Bs.refl w5) fun w6 b6 C6 _ => callB C6 (rates_ret w6) fun w7 b7 C7 => ⟨_, rfl, br_f rfl (callB C7 (r9cplan_ret q a' b' c' d' w7 (hP.to C7)) fun w8 b8 C8 => ⟨_, rfl, br_dec (fun k1 => ⟨(fun k => by cases k), C8⟩) fun k1 => br_dec (fun k2 => ⟨(fun k => by cases k), C8⟩) fun k2 => br_dec (fun k3 => ⟨(fun k => by cases k), C8⟩) fun k3 => ?_⟩)⟩, ?_⟩
  · refine callB C8 (ris_ret q a' b' c' d' now w8) fun w9 b9 C9 => ⟨_, rfl, callB C9 (ris_ret q a' b' c' d' later w9) fun w10 b10 C10 => ⟨_, rfl, fun k => ⟨by omega, by omega, ?_⟩, C10⟩⟩
    have := Decidable.not_not.1 (of_decide_eq_false k)
    exact decide_eq_decide.1 this
  rintro b w8 ⟨hb, C8⟩
  cases b with
  | true => exact br_t rfl (callB C8 (rates_ret w8) fun w9 b9 C9 => ⟨_, rfl, rfl, B5.to C9⟩)
  | false =>
    obtain ⟨hn1, hn2, hio⟩ := hb rfl
    have hat : atT q later = atT q now := by
      unfold atT
      by_cases h : isOther q now
      · rw [if_pos h, if_pos (hio.1 h)]
      · rw [if_neg h, if_neg fun k => h (hio.2 k)]
    have hE : rateE q later pos n = rateE q now pos n := by
      have e : (later < 0) = (now < 0) := propext ⟨fun k => by omega, fun k => by omega⟩
      unfold rateE
      simp only [e]
    have hR : (rateR q later pos n).ls = (rateR q now pos n).ls ∧ (rateR q later pos n).blocks = (rateR q now pos n).blocks ∧ (rateR q later pos n).cost = (rateR q now pos n).cost := by
      unfold rateR
      rw [hE, hat]
      exact ⟨rfl, rfl, rfl⟩
    obtain ⟨hR1, hR2, hR3⟩ := hR
    have hlen := rateR_len q now pos n
    have r2 := fun wy (h : Bs w5 wy) => rate_new q a' b' c' d' later pos n wy (hP.to h) hd'
    unfold rtdV at r2
    rw [hE, hR1, hR2, hR3] at r2
    have fin2 : ∀ (wy : World) (g3 g4 : Nat) (ax ay : Option Addr) (cx cy : Nat), Bs w5 wy → LsAt 0 wy ax (rateR q now pos n).ls → LsAt 0 wy ay (rateR q now pos n).ls → GRateL.steady_k1 (fun u w' => u = .bool true ∧ Below w.heap.size w w') g g' (rateE q now pos n) g3 ax (rateR q now pos n).ls.length cx (rateR q now pos n).blocks (rateR q now pos n).cost (rateE q now pos n) g4 ay (rateR q now pos n).ls.length cy (rateR q now pos n).blocks (rateR q now pos n).cost wy := by
      intro wy g3 g4 ax ay cx cy By hx hy
      unfold GRateL.steady_k1
      exact br_y rfl (br_y rfl (br_y rfl (callB By (lsame_ret ax ay cx cy _ wy hx hy hlen) fun w26 b26 C26 => ⟨_, rfl, rfl, B5.to C26⟩)))
    have fin : ∀ (wy : World) (g3 : Nat) (ax : Option Addr) (cx : Nat), Bs w5 wy → LsAt 0 wy ax (rateR q now pos n).ls → GRateL.steady_k2 (fun u w' => u = .bool true ∧ Below w.heap.size w w') pos n later g g' q.day q.frm q.til q.base.grp q.base.mode q.base.block a' q.base.ts.length c' q.other.grp q.other.mode q.other.block b' q.other.ts.length d' (rateE q now pos n) g3 ax (rateR q now pos n).ls.length cx (rateR q now pos n).blocks (rateR q now pos n).cost wy := by
      intro wy g3 ax cx By hx
      unfold GRateL.steady_k2
      refine drewB (Bs.refl wy) fun w20 b20 D20 _ => ?_
      refine ⟨callB D20 (to_ret q a' b' c' d' w20) fun w17 b17 D17 => ⟨_, _, _, _, _, _, _, _, _, _, _, _, _, _, _, rfl, ⟨callQ D17 (r2 w17 (By.to D17)) ?_, newB D17 fun g8 w18 g08 sg8 n8 z8 b8 D18 => callQ D18 (r2 w18 (By.to D18)) ?_⟩⟩, newB D20 fun g8 w18 g08 sg8 n8 z8 b8 D18 => callB D18 (to_ret q a' b' c' d' w18) fun w19 b19 D19 => ⟨_, _, _, _, _, _, _, _, _, _, _, _, _, _, _, rfl, callQ D19 (r2 w19 (By.to D19)) ?_⟩⟩
      · rintro e w9 ⟨a9, c9, rfl, l9⟩ b9 D9
        exact ⟨_, _, _, _, _, _, _, rfl, newB D9 fun g10 w10 g010 sg10 n10 z10 b10 D10 => boxB D10 g010 fun w11 h11 D11 z11 => fin2 w11 _ _ _ _ _ _ (By.to D11) (hx.below D11) ((l9.newbox b10 sg10 h11).low (Nat.zero_le _))⟩
      · rintro e w9 ⟨a9, c9, rfl, l9⟩ b9 D9
        exact ⟨_, _, _, _, _, _, _, rfl, boxB D9 g08 fun w11 h11 D11 z11 => fin2 w11 _ _ _ _ _ _ (By.to D11) (hx.below D11) ((l9.box h11 (by omega)).low (Nat.zero_le _))⟩
      · rintro e w10 ⟨a9, c9, rfl, l9⟩ b10 D10
        have b19s := b19.size
        exact ⟨_, _, _, _, _, _, _, rfl, boxB D10 g08 fun w11 h11 D11 z11 => fin2 w11 _ _ _ _ _ _ (By.to D11) (hx.below D11) ((l9.box h11 (by omega)).low (Nat.zero_le _))⟩
    refine br_f rfl (drewB C8 fun w10 b10 C10 _ => ?_)
    refine ⟨callB C10 (to_ret q a' b' c' d' w10) fun w17 b17 C17 => ⟨_, _, _, _, _, _, _, _, _, _, _, _, _, _, _, rfl, ⟨callQ C17 (rate_new q a' b' c' d' now pos n w17 (hP.to C17) hd') ?_, newB C17 fun g8 w18 g08 sg8 n8 z8 b8 C18 => callQ C18 (rate_new q a' b' c' d' now pos n w18 (hP.to C18) hd') ?_⟩⟩, newB C10 fun g8 w18 g08 sg8 n8 z8 b8 C18 => callB C18 (to_ret q a' b' c' d' w18) fun w19 b19 C19 => ⟨_, _, _, _, _, _, _, _, _, _, _, _, _, _, _, rfl, callQ C19 (rate_new q a' b' c' d' now pos n w19 (hP.to C19) hd') ?_⟩⟩
    · rintro e w9 ⟨a9, c9, rfl, l9⟩ b9 C9
      exact ⟨_, _, _, _, _, _, _, rfl, newB C9 fun g10 w10 g010 sg10 n10 z10 b10 C10 => boxB C10 g010 fun w11 h11 C11 z11 => fin w11 _ _ _ C11 ((l9.newbox b10 sg10 h11).low (Nat.zero_le _))⟩
    · rintro e w9 ⟨a9, c9, rfl, l9⟩ b9 C9
      exact ⟨_, _, _, _, _, _, _, rfl, boxB C9 g08 fun w11 h11 C11 z11 => fin w11 _ _ _ C11 ((l9.box h11 (by omega)).low (Nat.zero_le _))⟩
    · rintro e w9 ⟨a9, c9, rfl, l9⟩ b9 C9
      have b19s := b19.size
      exact ⟨_, _, _, _, _, _, _, rfl, boxB C9 g08 fun w11 h11 C11 z11 => fin w11 _ _ _ C11 ((l9.box h11 (by omega)).low (Nat.zero_le _))⟩
end Go.Proofs.Ytecmpjccdhmeeaa
end
section
/- Arrays and structs that came in as values: their numbers. -/
namespace Go.Proofs.Ytecmpjccdhmeeaa
open Go.RowKit Go.WideShapes Go.ChangeShapes
theorem okWide_arr {P : Program} {W : World} {r : Reach} {base : Nat} {t : TypeId} {v : Value} {n : Nat} {e : Sh} {k : Nat} (hf : fitsB P (.arr n e k) t = true) (hv : Value.okWide P W r base t v) : ∃ cs, v = .agg cs ∧ cs.size = P.cellsOf t := by
  unfold fitsB at hf
  split at hf
  · rename_i l et hu
    unfold Value.okWide at hv
    rw [hu] at hv
    obtain ⟨cs, h1, h2, _⟩ := hv
    exact ⟨cs, h1, h2⟩
  · cases hf
theorem open_arrI {H : Type} {enc : TypeId × Value → H} {P : Program} {W : World} {r : Reach} {base : Nat} {t : TypeId} {v : Value} {d : DataW H} {p : List MemPlace} (n : Nat) (hf : fitsB P (.arr n (.int .i64) 1) t = true) (hc : P.cellsOf t = n) (hv : Value.okWide P W r base t v)
    (h : DataW.Trod enc P W 0 (fun _ => true) true t v d p) : ∃ zs : List Int, zs.length = n ∧ v = .agg (zs.map (Value.int .i64)).toArray ∧ ∀ z ∈ zs, -9223372036854775808 ≤ z ∧ z ≤ 9223372036854775807 := by
  obtain ⟨cs, rfl, hs⟩ := okWide_arr hf hv
  have hh := open_sh hf h
  obtain ⟨zs, hz, hp⟩ := exists_list (p := fun i z => cs.toList[i]? = some (Value.int .i64 z) ∧ (Lit.int .i64 z).wf = true) n (fun i hi => by
    obtain ⟨z, h1, h2⟩ := hh i hi
    refine ⟨z, ?_, h2⟩
    have := congrArg (·[0]?) h1
    simpa [Value.cells] using this)
  refine ⟨zs, hz, ?_, fun z hm => ?_⟩
  · congr 1
    apply Array.ext'
    apply List.ext_getElem?
    intro i
    rw [List.getElem?_map]
    by_cases hi : i < n
    · rw [List.getElem?_eq_getElem (show i < zs.length by omega)]
      exact (hp i _ (List.getElem?_eq_getElem (by omega))).1
    · rw [List.getElem?_eq_none (by simp; omega), List.getElem?_eq_none (by omega)]
      rfl
  · obtain ⟨i, hi⟩ := List.getElem?_of_mem hm
    exact i64_range (hp i z hi).2
theorem open_arr2 {H : Type} {enc : TypeId × Value → H} {P : Program} {W : World} {r : Reach} {base : Nat} {t : TypeId} {v : Value} {d : DataW H} {p : List MemPlace} (hf : fitsB P (.arr 2 (.int .i64) 1) t = true) (hc : P.cellsOf t = 2) (hv : Value.okWide P W r base t v)
    (h : DataW.Trod enc P W 0 (fun _ => true) true t v d p) : ∃ x y : Int, v = .agg #[.int .i64 x, .int .i64 y] ∧ (-9223372036854775808 ≤ x ∧ x ≤ 9223372036854775807) ∧ -9223372036854775808 ≤ y ∧ y ≤ 9223372036854775807 := by
  obtain ⟨zs, hz, rfl, hr⟩ := open_arrI 2 hf hc hv h
  match zs, hz with
  | [x, y], _ => exact ⟨x, y, rfl, hr x (by simp), hr y (by simp)⟩
theorem open_arr4 {H : Type} {enc : TypeId × Value → H} {P : Program} {W : World} {r : Reach} {base : Nat} {t : TypeId} {v : Value} {d : DataW H} {p : List MemPlace} (hf : fitsB P (.arr 4 (.int .i64) 1) t = true) (hc : P.cellsOf t = 4) (hv : Value.okWide P W r base t v)
    (h : DataW.Trod enc P W 0 (fun _ => true) true t v d p) : ∃ x y z u : Int, v = .agg #[.int .i64 x, .int .i64 y, .int .i64 z, .int .i64 u] ∧ (-9223372036854775808 ≤ x ∧ x ≤ 9223372036854775807) ∧ (-9223372036854775808 ≤ y ∧ y ≤ 9223372036854775807) ∧ (-9223372036854775808 ≤ z ∧ z ≤ 9223372036854775807) ∧ -9223372036854775808 ≤ u ∧ u ≤ 9223372036854775807 := by
  obtain ⟨zs, hz, rfl, hr⟩ := open_arrI 4 hf hc hv h
  match zs, hz with
  | [x, y, z, u], _ => exact ⟨x, y, z, u, rfl, hr x (by simp), hr y (by simp), hr z (by simp), hr u (by simp)⟩
end Go.Proofs.Ytecmpjccdhmeeaa
end
section
/- Structs that came in as values. No program in sight. -/
namespace Go.Proofs.Ytecmpjccdhmeeaa
open Go.RowKit Go.WideShapes Go.ChangeShapes
theorem okWide_str {P : Program} {W : World} {r : Reach} {base : Nat} {t : TypeId} {v : Value} {fs : Sh} (hf : fitsB P (.agg fs) t = true) (hv : Value.okWide P W r base t v) : ∃ cs, v = .agg cs ∧ cs.size = P.cellsOf t := by
  unfold fitsB at hf
  split at hf
  · rename_i fl hu
    unfold Value.okWide at hv
    rw [hu] at hv
    obtain ⟨cs, h1, h2, _⟩ := hv
    exact ⟨cs, h1, h2⟩
  · cases hf
/-- Structs of ints alone. -/
def intsF : Nat → Nat → Sh
  | _, 0 => .fnil
  | i, n + 1 => .fcons i 1 (.int .i64) (intsF (i + 1) n)
theorem has_intsF {w : World} : ∀ (n i : Nat) (cs : List Value), (intsF i n).Has w cs → i + n = cs.length → ∃ zs : List Int, zs.length = n ∧ cs.drop i = zs.map (Value.int .i64) ∧ ∀ z ∈ zs, -9223372036854775808 ≤ z ∧ z ≤ 9223372036854775807
  | 0, i, cs, _, hl => ⟨[], rfl, by rw [List.drop_eq_nil_iff.2 (by omega)]; rfl, fun z hz => by cases hz⟩
  | n + 1, i, cs, h, hl => by
    obtain ⟨⟨z, hz, hw⟩, hr⟩ := h
    obtain ⟨zs, h1, h2, h3⟩ := has_intsF n (i + 1) cs hr (by omega)
    refine ⟨z :: zs, by simp [h1], ?_, fun y hy => ?_⟩
    · have hi : i < cs.length := by omega
      have h0 : cs[i]? = some (.int .i64 z) := by
        have := congrArg (·[0]?) hz
        simpa [List.getElem?_take, List.getElem?_drop] using this
      rw [List.getElem?_eq_getElem hi] at h0
      injection h0 with h0
      rw [List.drop_eq_getElem_cons hi, h0, h2]; rfl
    · rcases List.mem_cons.1 hy with rfl | hy
      · exact i64_range hw
      · exact h3 y hy
theorem open_strI {H : Type} {enc : TypeId × Value → H} {P : Program} {W : World} {r : Reach} {base : Nat} {t : TypeId} {v : Value} {d : DataW H} {p : List MemPlace} (n : Nat) (hf : fitsB P (.agg (intsF 0 n)) t = true) (hc : P.cellsOf t = n) (hv : Value.okWide P W r base t v)
    (h : DataW.Trod enc P W 0 (fun _ => true) true t v d p) : ∃ zs : List Int, zs.length = n ∧ v = .agg (zs.map (Value.int .i64)).toArray ∧ ∀ z ∈ zs, -9223372036854775808 ≤ z ∧ z ≤ 9223372036854775807 := by
  obtain ⟨cs, rfl, hs⟩ := okWide_str hf hv
  have hh := open_sh hf h
  obtain ⟨zs, h1, h2, h3⟩ := has_intsF n 0 cs.toList (by simpa [Value.cells, Sh.Has] using hh) (by simp; omega)
  refine ⟨zs, h1, ?_, h3⟩
  congr 1
  apply Array.ext'
  rw [← h2]
  simp
theorem open_str4 {H : Type} {enc : TypeId × Value → H} {P : Program} {W : World} {r : Reach} {base : Nat} {t : TypeId} {v : Value} {d : DataW H} {p : List MemPlace} (hf : fitsB P (.agg (intsF 0 4)) t = true) (hc : P.cellsOf t = 4) (hv : Value.okWide P W r base t v)
    (h : DataW.Trod enc P W 0 (fun _ => true) true t v d p) : ∃ x y z u : Int, v = .agg #[.int .i64 x, .int .i64 y, .int .i64 z, .int .i64 u] ∧ (-9223372036854775808 ≤ x ∧ x ≤ 9223372036854775807) ∧ (-9223372036854775808 ≤ y ∧ y ≤ 9223372036854775807) ∧ (-9223372036854775808 ≤ z ∧ z ≤ 9223372036854775807) ∧ -9223372036854775808 ≤ u ∧ u ≤ 9223372036854775807 := by
  obtain ⟨zs, hz, rfl, hr⟩ := open_strI 4 hf hc hv h
  match zs, hz with
  | [x, y, z, u], _ => exact ⟨x, y, z, u, rfl, hr x (by simp), hr y (by simp), hr z (by simp), hr u (by simp)⟩
end Go.Proofs.Ytecmpjccdhmeeaa
end
