/- 'Divide' of the reference, walked: bit by bit. -/
import Derived.Test.YtlgdapgocbmcfaaBigPart
namespace Go.Proofs.Ytlgdapgocbmcfaa
open Go.RowKit
theorem limb_or_one (r : Nat) : ∀ k, limb (2 * r + 1) k = if k = 0 then limb (2 * r) 0 + 1 else limb (2 * r) k := by
  intro k
  unfold limb
  by_cases h : k = 0
  · subst h; simp only [Nat.mul_zero, Nat.pow_zero, Nat.div_one, if_true]; omega
  · rw [if_neg h]
    obtain ⟨j, hj⟩ : ∃ j, 32 * k = j + 1 := ⟨32 * k - 1, by omega⟩
    rw [hj, Nat.pow_succ, Nat.mul_comm (2 ^ j) 2, ← Nat.div_div_eq_div_mul, ← Nat.div_div_eq_div_mul, show (2 * r + 1) / 2 = r by omega, show 2 * r / 2 = r by omega]
theorem limb_even (r : Nat) : limb (2 * r) 0 % 2 = 0 := by unfold limb; simp only [Nat.mul_zero, Nat.pow_zero, Nat.div_one]; omega
theorem or_one_even {x : Nat} (h : x % 2 = 0) (hx : x < 4294967296) : bits BinOp.or IntKind.u64 (x : Int) 1 = ((x + 1 : Nat) : Int) := by
  have h1 := u64_or_nat x 1 (by omega) (by omega)
  rw [show ((1 : Nat) : Int) = 1 from rfl] at h1
  rw [h1, nat_join 1 x 1 (by omega) (by omega)]
/-- The state of the division, in memory. -/
structure DivSt (w wr : World) (n m q r : Nat) : Prop where
  a : Blk wr w.heap.size (arr (limb n) false) 47
  b : Blk wr (w.heap.size + 1) (arr (limb m) false) 47
  z1 : Blk wr (w.heap.size + 1 + 1) (arr (fun _ => 0) false) 47
  z2 : Blk wr (w.heap.size + 1 + 1 + 1) (arr (fun _ => 0) false) 47
  q : Blk wr (w.heap.size + 1 + 1 + 1 + 1) (arr (limb q) false) 47
  r : Blk wr (w.heap.size + 1 + 1 + 1 + 1 + 1) (arr (limb r) false) 47
  bel : Below w.heap.size w wr
section
variable {w wr : World} {n m q r : Nat}
theorem DivSt.call (h : DivSt w wr n m q r) {w' : World} (hb : Below wr.heap.size wr w') : DivSt w w' n m q r :=
  ⟨h.a.below hb (Nat.le_refl _), h.b.below hb (Nat.le_refl _), h.z1.below hb (Nat.le_refl _), h.z2.below hb (Nat.le_refl _), h.q.below hb (Nat.le_refl _), h.r.below hb (Nat.le_refl _), h.bel.trans (hb.mono h.bel.size)⟩
theorem DivSt.setQ (h : DivSt w wr n m q r) (x : Nat) : DivSt w (wr.setRow (w.heap.size + 1 + 1 + 1 + 1) (arr (limb x) false)) n m x r :=
  ⟨h.a.otherRow _ (by omega), h.b.otherRow _ (by omega), h.z1.otherRow _ (by omega), h.z2.otherRow _ (by omega), h.q.setRow _, h.r.otherRow _ (by omega), Below_setRow h.bel (by omega) _⟩
theorem DivSt.setR (h : DivSt w wr n m q r) (x : Nat) : DivSt w (wr.setRow (w.heap.size + 1 + 1 + 1 + 1 + 1) (arr (limb x) false)) n m q x :=
  ⟨h.a.otherRow _ (by omega), h.b.otherRow _ (by omega), h.z1.otherRow _ (by omega), h.z2.otherRow _ (by omega), h.q.otherRow _ (by omega), h.r.setRow _, Below_setRow h.bel (by omega) _⟩
theorem DivSt.drew (h : DivSt w wr n m q r) : DivSt w wr.drew n m q r := ⟨h.a, h.b, h.z1, h.z2, h.q, h.r, h.bel.drew⟩
theorem arr_or (x : Nat) : (arr (limb (2 * x)) false).setIfInBounds 0 (.int .u64 ((limb (2 * x) 0 + 1 : Nat) : Int)) = arr (limb (2 * x + 1)) false := by
  rw [arr_set _ _ _ 0 (by omega)]
  exact arr_congr _ fun k _ => (limb_or_one x k).symm
theorem DivSt.orQ {x : Nat} (h : DivSt w wr n m (2 * x) r) : DivSt w (wr.setCell ⟨w.heap.size + 1 + 1 + 1 + 1, 0, none⟩ (.int .u64 ((limb (2 * x) 0 + 1 : Nat) : Int))) n m (2 * x + 1) r :=
  ⟨h.a.other (by omega), h.b.other (by omega), h.z1.other (by omega), h.z2.other (by omega), by have := h.q.setCell 0 (.int .u64 ((limb (2 * x) 0 + 1 : Nat) : Int)); rw [arr_or] at this; exact this, h.r.other (by omega), h.bel.setCell (p := ⟨w.heap.size + 1 + 1 + 1 + 1, 0, none⟩) (by simp; omega) _⟩
theorem DivSt.orR {x : Nat} (h : DivSt w wr n m q (2 * x)) : DivSt w (wr.setCell ⟨w.heap.size + 1 + 1 + 1 + 1 + 1, 0, none⟩ (.int .u64 ((limb (2 * x) 0 + 1 : Nat) : Int))) n m q (2 * x + 1) :=
  ⟨h.a.other (by omega), h.b.other (by omega), h.z1.other (by omega), h.z2.other (by omega), h.q.other (by omega), by have := h.r.setCell 0 (.int .u64 ((limb (2 * x) 0 + 1 : Nat) : Int)); rw [arr_or] at this; exact this, h.bel.setCell (p := ⟨w.heap.size + 1 + 1 + 1 + 1 + 1, 0, none⟩) (by simp; omega) _⟩
end
theorem ret2Big {fn : Func} {p p2 : Tmp} (h : fn.results = #[.cell p 47, .cell p2 47]) (tmps : Array Value) (w : World) (g g2 : Nat) (f f2 : Nat → Nat) (neg neg2 : Bool) (hp : tmps.getD p undef = .pointer (some ⟨g, 0, none⟩)) (hp2 : tmps.getD p2 undef = .pointer (some ⟨g2, 0, none⟩)) (hg : Blk w g (arr f neg) 47) (hg2 : Blk w g2 (arr f2 neg2) 47) :
    (results fn tmps).run Try.prog w = .ok (.tuple #[.agg (arr f neg), .agg (arr f2 neg2)]) w := by
  have hp' : tmps[p]?.getD undef = .pointer (some ⟨g, 0, none⟩) := by simpa using hp
  have hp2' : tmps[p2]?.getD undef = .pointer (some ⟨g2, 0, none⟩) := by simpa using hp2
  have r1 := run_loadVar_row w g 47 47 (arr f neg) (0, 0) _ hg Try.underlying47 rfl (by kernel_rfl)
  have r2 := run_loadVar_row w g2 47 47 (arr f2 neg2) (0, 0) _ hg2 Try.underlying47 rfl (by kernel_rfl)
  simp [results, h, hp', hp2', asAddr, r1, r2]
theorem bit_limb (n j : Nat) : limb n (j / 32) / 2 ^ (j % 32) % 2 = n / 2 ^ j % 2 := by
  unfold limb
  have h1 := Nat.testBit_mod_two_pow (n / 2 ^ (32 * (j / 32))) 32 (j % 32)
  rw [Nat.testBit_eq_decide_div_mod_eq, Nat.testBit_eq_decide_div_mod_eq, decide_eq_true (show j % 32 < 32 by omega), Bool.true_and, Nat.div_div_eq_div_mul, ← Nat.pow_add, show 32 * (j / 32) + j % 32 = j by omega] at h1
  have h2 : (n / 2 ^ (32 * (j / 32)) % 2 ^ 32 / 2 ^ (j % 32) % 2 = 1) ↔ (n / 2 ^ j % 2 = 1) := by simpa using h1
  rw [show (4294967296 : Nat) = 2 ^ 32 from rfl]
  generalize n / 2 ^ (32 * (j / 32)) % 2 ^ 32 / 2 ^ (j % 32) = x at *
  omega
theorem div_next {n m j N b q r : Nat} (hm : 0 < m) (hN : N = n / 2 ^ (j + 1)) (hb : b = n / 2 ^ j % 2) (hq : q = N / m) (hr : r = N % m) :
    (2 * r + b < m → n / 2 ^ j / m = 2 * q ∧ n / 2 ^ j % m = 2 * r + b) ∧ (m ≤ 2 * r + b → n / 2 ^ j / m = 2 * q + 1 ∧ n / 2 ^ j % m = 2 * r + b - m) := by
  have h1 : n / 2 ^ j = 2 * N + b := by
    rw [hN, hb, Nat.pow_succ, ← Nat.div_div_eq_div_mul]; omega
  have h2 : N = q * m + r := by rw [hq, hr, Nat.mul_comm]; exact (Nat.div_add_mod _ _).symm
  have h3 : r < m := by rw [hr]; exact Nat.mod_lt _ hm
  have hb2 : b ≤ 1 := by rw [hb]; omega
  rw [h1, h2]
  constructor
  · intro h
    have e : 2 * (q * m + r) + b = (2 * r + b) + m * (2 * q) := by rw [Nat.mul_add, Nat.mul_comm m, Nat.mul_assoc]; omega
    rw [e, Nat.add_mul_div_left _ _ hm, Nat.add_mul_mod_self_left, Nat.div_eq_of_lt h, Nat.mod_eq_of_lt h]
    exact ⟨by omega, rfl⟩
  · intro h
    have e : 2 * (q * m + r) + b = (2 * r + b - m) + m * (2 * q + 1) := by rw [Nat.mul_add, Nat.mul_add m, Nat.mul_comm m (2 * q), Nat.mul_assoc]; omega
    have h4 : 2 * r + b - m < m := by omega
    rw [e, Nat.add_mul_div_left _ _ hm, Nat.add_mul_mod_self_left, Nat.div_eq_of_lt h4, Nat.mod_eq_of_lt h4]
    exact ⟨by omega, rfl⟩
def dQ (n m i : Nat) : Nat := n / 2 ^ i / m
def dR (n m i : Nat) : Nat := n / 2 ^ i % m
theorem dQ_top {n m i : Nat} (h : n < lim) (hi : i = 320) : dQ n m i = 0 := by unfold dQ; rw [hi, show 320 = 32 * 10 from rfl, lim_div h, Nat.zero_div]
theorem dR_top {n m i : Nat} (h : n < lim) (hi : i = 320) : dR n m i = 0 := by unfold dR; rw [hi, show 320 = 32 * 10 from rfl, lim_div h, Nat.zero_mod]
theorem dNext {n m j b : Nat} (hm : 0 < m) (hb : b = n / 2 ^ j % 2) :
    (2 * dR n m (j + 1) + b < m → dQ n m j = 2 * dQ n m (j + 1) ∧ dR n m j = 2 * dR n m (j + 1) + b) ∧
    (m ≤ 2 * dR n m (j + 1) + b → dQ n m j = 2 * dQ n m (j + 1) + 1 ∧ dR n m j = 2 * dR n m (j + 1) + b - m) := div_next hm rfl hb rfl rfl
theorem dR_lt {n m i : Nat} (hm : 0 < m) : dR n m i < m := Nat.mod_lt _ hm
set_option maxRecDepth 100000 in
set_option maxHeartbeats 4000000 in
theorem rDivide_any (n m : Nat) (hn : n < lim) (hm0 : 0 < m) (hm : 2 * m < lim) (w : World) :
    Calls Try.prog 72 #[bigM n false, bigM m false] w fun e w' => e = .returned (.tuple #[bigM (n / m) false, bigM (n % m) false]) ∧ Below w.heap.size w w' := by
  have HN := Box.mk hn; have HM0 := Box.mk hm0; have HM := Box.mk hm
  clear hn hm0 hm
  unfold bigM
  go_enter Try.func72, Try.ntmps72
  go_upto_block 0 with (fail)
  rw [← arr_zero]
  have S0 : DivSt w ((((((w.alloc (.cells (arr (limb n) false) 47)).alloc (.cells (arr (limb m) false) 47)).alloc (.cells (arr (fun _ => 0) false) 47)).alloc (.cells (arr (fun _ => 0) false) 47)).alloc (.cells (arr (fun _ => 0) false) 47)).alloc (.cells (arr (fun _ => 0) false) 47)) n m 0 0 := by
    have e0 : arr (limb 0) false = arr (fun _ => 0) false := arr_congr _ fun i _ => limb_zero i
    refine ⟨?_, ?_, ?_, ?_, ?_, ?_, ?_⟩
    · exact al_old (al_old (al_old (al_old (al_old (al_new rfl)))))
    · exact al_old (al_old (al_old (al_old (al_new (by simp)))))
    · exact al_old (al_old (al_old (al_new (by simp))))
    · exact al_old (al_old (al_new (by simp)))
    · rw [e0]; exact al_old (al_new (by simp))
    · rw [e0]; exact al_new (by simp)
    · exact (((((Below_one _).alloc (by simp) _).alloc (by simp; omega) _).alloc (by simp; omega) _).alloc (by simp; omega) _).alloc (by simp; omega) _
  generalize (((((w.alloc (.cells (arr (limb n) false) 47)).alloc (.cells (arr (limb m) false) 47)).alloc (.cells (arr (fun _ => 0) false) 47)).alloc (.cells (arr (fun _ => 0) false) 47)).alloc (.cells (arr (fun _ => 0) false) 47)).alloc (.cells (arr (fun _ => 0) false) 47) = W at *
  have S1 := Box.mk S0; clear S0
  go_wp2_with fail
  go_loopw [8,9,10,11,12,13,14,15,16,17,18,19,20,21,22,23,24,25,26,27,28,29,30,31,32,33,34,35,36,37,38,39,40,41,42,43,44,45,46,47] (fun t8 _ _ _ _ _ _ _ _ _ _ _ _ _ _ _ _ _ _ _ _ _ _ _ _ _ _ _ _ _ _ _ _ _ _ _ _ _ _ _ wr => ∃ (i : Nat) (z : Int), i ≤ 320 ∧ z + 1 = (i : Int) ∧ t8 = .int .i64 z ∧ DivSt w wr n m (dQ n m i) (dR n m i)) (fun t8 _ _ _ _ _ _ _ _ _ _ _ _ _ _ _ _ _ _ _ _ _ _ _ _ _ _ _ _ _ _ _ _ _ _ _ _ _ _ _ _ => (intOf t8 + 1).toNat)
  case atStart => exact ⟨320, 319, by omega, by omega, rfl, by rw [dQ_top HN.out rfl, dR_top HN.out rfl]; exact S1.out⟩
  case round =>
    obtain ⟨i, z, hi, hz, rfl, hS⟩ := hrel
    have HS := Box.mk hS; clear hS
    by_cases hlt : 0 ≤ z
    · obtain ⟨j, rfl⟩ : ∃ j, i = j + 1 := ⟨i - 1, by omega⟩
      obtain rfl : z = (j : Int) := by omega
      have HM1 := Box.mk (show m < lim by have := HM.out; omega)
      have HRm := Box.mk (dR_lt (n := n) (i := j + 1) HM0.out)
      obtain ⟨b, hb⟩ : ∃ b, b = n / 2 ^ j % 2 := ⟨_, rfl⟩
      have NX := Box.mk (dNext (n := n) (m := m) HM0.out hb)
      have hb1 : b = 0 ∨ b = 1 := by omega
      have HBit := Box.mk (bit_limb n j)
      rw [← hb] at HBit
      generalize dQ n m (j + 1) = q at *
      generalize dR n m (j + 1) = r at *
      obtain ⟨q', hq'⟩ : ∃ q', q' = dQ n m j := ⟨_, rfl⟩
      obtain ⟨r', hr'⟩ : ∃ r', r' = dR n m j := ⟨_, rfl⟩
      rw [← hq', ← hr'] at NX
      have HQ' := Box.mk hq'; have HR' := Box.mk hr'
      clear hb hq' hr'
      go_wp2_with (refine loadBig rfl (.tmp 7) rfl (w.heap.size + 1 + 1 + 1 + 1 + 1) rfl (limb r) false HS.out.r ?_)
      refine (radd_any r r false false _).mono ?_
      rintro e W1 ⟨rfl, hb⟩
      rw [← Nat.two_mul]
      have HS1 := Box.mk (HS.out.call hb)
      clear hb HS
      have HS2 := Box.mk (HS1.out.setR (2 * r))
      go_wp2_with (first
        | (refine storeBig rfl (.tmp 7) (.tmp 15) rfl (w.heap.size + 1 + 1 + 1 + 1 + 1) (limb (2 * r)) false rfl rfl _ HS1.out.r rfl ?_)
        | (refine loadBig rfl (.tmp 6) rfl (w.heap.size + 1 + 1 + 1 + 1) rfl (limb q) false HS2.out.q ?_))
      generalize W1.setRow (w.heap.size + 1 + 1 + 1 + 1 + 1) (arr (limb (2 * r)) false) = W2 at *
      refine (radd_any q q false false _).mono ?_
      rintro e W3 ⟨rfl, hb⟩
      rw [← Nat.two_mul]
      have HS3 := Box.mk (HS2.out.call hb)
      clear hb HS1 HS2
      have HS4 := Box.mk (HS3.out.setQ (2 * q))
      go_upto_region 7 with (refine storeBig rfl (.tmp 6) (.tmp 18) rfl (w.heap.size + 1 + 1 + 1 + 1) (limb (2 * q)) false rfl rfl _ HS3.out.q rfl ?_)
      generalize W3.setRow (w.heap.size + 1 + 1 + 1 + 1) (arr (limb (2 * q)) false) = W4 at *
      have hj32 : j / 32 < 10 := by omega
      have hc : W4.cell? ⟨w.heap.size, j / 32, none⟩ = some (.int .u64 (limb n (j / 32) : Nat)) := by rw [HS4.out.a.cell, arr_get _ _ _ hj32]
      have f1 : (j : Int) / 32 = ((j / 32 : Nat) : Int) := by omega
      have f2 : (j : Int) % 32 = ((j % 32 : Nat) : Int) := by omega
      have s32 : j % 32 ≤ 31 := by omega
      have HL := Box.mk (limb_lt n (j / 32))
      generalize j / 32 = c at *
      generalize j % 32 = s at *
      generalize limb n c = x at *
      have f3 : bits BinOp.and IntKind.u64 ((x : Int) / 2 ^ s) 1 = (b : Int) := by
        have hy : x / 2 ^ s ≤ x := Nat.div_le_self _ _
        have hx := HL.out
        rw [shr_cast, ← HBit.out]
        generalize x / 2 ^ s = y at *
        rw [and_one_u64 _ (by omega) (by omega)]
        omega
      have HE := Box.mk (limb_even r)
      have HEl := Box.mk (limb_lt (2 * r) 0)
      have f4 := or_one_even HE.out HEl.out
      go_upto_if 28 with (fail)
      go_cut [8] (fun t8 wx => t8 = .int .i64 (j : Int) ∧ DivSt w wx n m (2 * q) (2 * r + b))
      case first =>
        rcases hb1 with rfl | rfl
        · go_wp2
          go_meet
          case rel => exact ⟨rfl, HS4.out⟩
        · have c0 : W4.cell? ⟨w.heap.size + 1 + 1 + 1 + 1 + 1, 0, none⟩ = some (.int .u64 (limb (2 * r) 0 : Nat)) := by rw [HS4.out.r.cell, arr_get _ _ 0 (by omega)]
          have c1 : W4.frozen? ⟨w.heap.size + 1 + 1 + 1 + 1 + 1, 0, none⟩ = false := HS4.out.r.frozen 0
          go_wp2
          go_meet
          case rel => exact ⟨rfl, HS4.out.orR⟩
      case rest =>
        obtain ⟨rfl, hS⟩ := hcut
        have HS5 := Box.mk hS; clear hS f1 f2 f3 f4 hc HS4 HS3
        have hr1 : 2 * r + b < 2 * m := by have := HRm.out; omega
        generalize 2 * r + b = r1 at *
        have HR1 := Box.mk hr1; clear hr1
        go_wp2_with (first
          | (refine loadBig rfl (.tmp 7) rfl (w.heap.size + 1 + 1 + 1 + 1 + 1) rfl (limb r1) false HS5.out.r ?_)
          | (refine loadBig rfl (.tmp 3) rfl (w.heap.size + 1) rfl (limb m) false HS5.out.b ?_))
        refine (rless_any r1 m false false (by have := HR1.out; have := HM.out; omega) HM1.out _).mono ?_
        rintro e W5 ⟨rfl, hb⟩
        have HS6 := Box.mk (HS5.out.call hb)
        clear hb HS5
        by_cases hcmp : r1 < m
        · obtain ⟨e1, e2⟩ := NX.out.1 hcmp
          have E1 := Box.mk e1; have E2 := Box.mk e2
          rw [decide_eq_true hcmp]
          clear e1 e2 NX hcmp
          go_wp2
          go_roundw
          case rel => exact ⟨j, (j : Int) - 1, by omega, by omega, rfl, by rw [← HQ'.out, ← HR'.out, E1.out, E2.out]; exact HS6.out⟩
          case measure => simp [intOf]
        · obtain ⟨e1, e2⟩ := NX.out.2 (by omega)
          have E1 := Box.mk e1; have E2 := Box.mk e2
          rw [decide_eq_false hcmp]
          have HC := Box.mk hcmp
          clear e1 e2 NX hcmp
          go_wp2_with (first
            | (refine loadBig rfl (.tmp 7) rfl (w.heap.size + 1 + 1 + 1 + 1 + 1) rfl (limb r1) false HS6.out.r ?_)
            | (refine loadBig rfl (.tmp 3) rfl (w.heap.size + 1) rfl (limb m) false HS6.out.b ?_))
          refine (rsub_any r1 m false false (by have := HC.out; omega) _).mono ?_
          rintro e W6 ⟨rfl, hb⟩
          have HS7 := Box.mk (HS6.out.call hb)
          clear hb HS6
          have HS8 := Box.mk (HS7.out.setR (r1 - m))
          have HE := Box.mk (limb_even q)
          have HEl := Box.mk (limb_lt (2 * q) 0)
          have f4 := or_one_even HE.out HEl.out
          go_upto_region 11 with (refine storeBig rfl (.tmp 7) (.tmp 41) rfl (w.heap.size + 1 + 1 + 1 + 1 + 1) (limb (r1 - m)) false rfl rfl _ HS7.out.r rfl ?_)
          generalize W6.setRow (w.heap.size + 1 + 1 + 1 + 1 + 1) (arr (limb (r1 - m)) false) = W7 at *
          have c0 : W7.cell? ⟨w.heap.size + 1 + 1 + 1 + 1, 0, none⟩ = some (.int .u64 (limb (2 * q) 0 : Nat)) := by rw [HS8.out.q.cell, arr_get _ _ 0 (by omega)]
          have c1 : W7.frozen? ⟨w.heap.size + 1 + 1 + 1 + 1, 0, none⟩ = false := HS8.out.q.frozen 0
          go_wp2
          go_roundw
          case rel => exact ⟨j, (j : Int) - 1, by omega, by omega, rfl, by rw [← HQ'.out, ← HR'.out, E1.out, E2.out]; have h := HS8.out.orQ; rwa [show ((limb (2 * q) 0 + 1 : Nat) : Int) = (limb (2 * q) 0 : Int) + 1 from rfl] at h⟩
          case measure => simp [intOf]
    · obtain rfl : i = 0 := by omega
      have e1 : dQ n m 0 = n / m := by unfold dQ; simp
      have e2 : dR n m 0 = n % m := by unfold dR; simp
      rw [e1, e2] at HS
      clear e1 e2
      obtain ⟨q, hq⟩ : ∃ q, q = n / m := ⟨_, rfl⟩
      obtain ⟨r, hr⟩ : ∃ r, r = n % m := ⟨_, rfl⟩
      rw [← hq, ← hr] at HS
      have HQ := Box.mk hq; have HR := Box.mk hr
      clear hq hr
      go_wp2
      refine wp_region_early [0, 1] [2] [3] (fun wx => Blk wx (w.heap.size + 1 + 1 + 1 + 1) (arr (limb q) false) 47 ∧ Blk wx (w.heap.size + 1 + 1 + 1 + 1 + 1) (arr (limb r) false) 47) (by kernel_rfl) (by kernel_rfl) (by kernel_rfl) (by rfl) ⟨HS.out.q, HS.out.r⟩ ?_
      apply Exists.intro
      refine ⟨fun wx hx => ?_, ?_⟩
      · refine seI_loadBig rfl rfl (.tmp 6) rfl (w.heap.size + 1 + 1 + 1 + 1) rfl (limb q) false hx.1 ?_
        refine seI_loadBig rfl rfl (.tmp 7) rfl (w.heap.size + 1 + 1 + 1 + 1 + 1) rfl (limb r) false hx.2 ?_
        exact seI_nil rfl
      refine wpTA_cons rfl ?_
      have HS1 := Box.mk HS.out.drew
      clear HS
      generalize wr.drew = W1 at *
      go_wp2_with (refine storeBig rfl (.tmp 4) (.tmp 48) rfl (w.heap.size + 1 + 1) (limb q) false rfl rfl _ HS1.out.z1 rfl ?_)
      refine ⟨⟨HS1.out.q.otherRow _ (by omega), HS1.out.r.otherRow _ (by omega)⟩, wpTA_nil (.cons rfl .nil) ?_⟩
      have hz2 := Box.mk (HS1.out.z2.otherRow (k := w.heap.size + 1 + 1) (arr (limb q) false) (by omega))
      have hz1 := Box.mk (HS1.out.z1.setRow (arr (limb q) false))
      have hbl := Box.mk (Below_setRow HS1.out.bel (g := w.heap.size + 1 + 1) (by omega) (arr (limb q) false))
      generalize W1.setRow (w.heap.size + 1 + 1) (arr (limb q) false) = W2 at *
      go_wp2_with (refine storeBig rfl (.tmp 5) (.tmp 49) rfl (w.heap.size + 1 + 1 + 1) (limb r) false rfl rfl _ hz2.out rfl ?_)
      refine NoPanic.normal ?_
      go_wp2
      refine bodyPost_ret (ret2Big rfl _ _ (w.heap.size + 1 + 1) (w.heap.size + 1 + 1 + 1) (limb q) (limb r) false false rfl rfl (hz1.out.otherRow _ (by omega)) (hz2.out.setRow _)) rfl ⟨by rw [HQ.out, HR.out], ?_⟩
      exact Below_setRow hbl.out (by omega) _
theorem rPart_no (a b c : Int) (h : a < 0 ∨ b < 0 ∨ c < 1) (w : World) :
    Calls Try.prog 45 #[.int .i64 a, .int .i64 b, .int .i64 c] w fun e w' => e = .returned (.tuple #[.int .i64 0, .int .i64 0, .bool false]) ∧ w' = w := by
  by_cases h1 : a < 0
  · clear h
    go_enter Try.func45, Try.ntmps45
    go_wp2
    go_ret3
    exact ⟨rfl, rfl⟩
  · by_cases h2 : b < 0
    · clear h
      go_enter Try.func45, Try.ntmps45
      go_wp2
      go_ret3
      exact ⟨rfl, rfl⟩
    · have h3 : c < 1 := by omega
      clear h
      go_enter Try.func45, Try.ntmps45
      go_wp2
      go_ret3
      exact ⟨rfl, rfl⟩
theorem fitV_natY {q : Nat} (h : q ≤ 9223372036854775807) : fitV (if false = true then -(q : Int) else q) = .tuple #[.int .i64 q, .bool true] := by
  rw [if_neg (by decide)]; exact fitV_yes (by omega) (by omega)
theorem fitV_natN {q : Nat} (h : 9223372036854775808 ≤ q) : fitV (if false = true then -(q : Int) else q) = .tuple #[.int .i64 0, .bool false] := by
  rw [if_neg (by decide)]; exact fitV_no (by omega)
theorem bigOf_nat (x : Nat) : bigOf (x : Int) = bigM x false := by unfold bigOf; rw [show decide ((x : Int) < 0) = false from decide_eq_false (by omega)]; rfl
set_option maxRecDepth 100000 in
set_option maxHeartbeats 2000000 in
theorem rPart_nat (x y z : Nat) (hx : x ≤ 9223372036854775807) (hy : y ≤ 9223372036854775807) (hz1 : 1 ≤ z) (hz : z ≤ 9223372036854775807) (w : World) (v : Value) (hv : v = partT x y z) :
    Calls Try.prog 45 #[.int .i64 x, .int .i64 y, .int .i64 z] w fun e w' => e = .returned v ∧ Below w.heap.size w w' := by
  have g1 : ¬ (x : Int) < 0 := by omega
  have g2 : ¬ (y : Int) < 0 := by omega
  have g3 : ¬ (z : Int) < 1 := by omega
  have HV := Box.mk hv; have HX := Box.mk hx; have HY := Box.mk hy; have HZ1 := Box.mk hz1; have HZ := Box.mk hz
  have HYES := fun h => Box.mk (partT_yes (x := x) (y := y) (z := z) hz1 h)
  have HNO := fun h => Box.mk (partT_nat (x := x) (y := y) (z := z) h)
  clear hv hx hy hz1 hz
  go_enter Try.func45, Try.ntmps45
  go_wp2_with fail
  refine (rOf_any x _ (by omega) (by have := HX.out; omega)).mono ?_
  rintro e W1 ⟨rfl, hb⟩
  have B1 := Box.mk hb; clear hb
  go_wp2_with fail
  refine (rOf_any y _ (by omega) (by have := HY.out; omega)).mono ?_
  rintro e W2 ⟨rfl, hb⟩
  have B2 := Box.mk (B1.out.trans (hb.mono B1.out.size)); clear hb
  go_wp2_with fail
  rw [bigOf_nat, bigOf_nat]
  refine (rTimes_nat x y (x * y) rfl false false false (by simp) (by have := HX.out; omega) (by have := HY.out; omega) _).mono ?_
  rintro e W3 ⟨rfl, hb⟩
  have B3 := Box.mk (B2.out.trans (hb.mono B2.out.size)); clear hb
  have hm2 : x * y < 2 ^ 126 := Nat.lt_of_lt_of_le (lim_mul (k := 63) (by have := HX.out; omega) (by have := HY.out; omega)) (Nat.le_refl _)
  obtain ⟨m, hm⟩ : ∃ m, m = x * y := ⟨_, rfl⟩
  rw [← hm] at HYES HNO hm2 ⊢
  have HM := Box.mk (lim_big (k := 126) (by omega) hm2)
  clear hm hm2
  go_wp2_with fail
  refine (rOf_any z _ (by omega) (by have := HZ.out; omega)).mono ?_
  rintro e W4 ⟨rfl, hb⟩
  have B4 := Box.mk (B3.out.trans (hb.mono B3.out.size)); clear hb
  rw [bigOf_nat]
  go_wp2_with fail
  refine (rDivide_any m z HM.out HZ1.out (lim_big (k := 64) (by omega) (by have := HZ.out; omega)) _).mono ?_
  rintro e W5 ⟨rfl, hb⟩
  have B5 := Box.mk (B4.out.trans (hb.mono B4.out.size)); clear hb
  obtain ⟨q, hq⟩ : ∃ q, q = m / z := ⟨_, rfl⟩
  obtain ⟨r, hr⟩ : ∃ r, r = m % z := ⟨_, rfl⟩
  rw [← hq] at HYES HNO
  rw [← hr] at HYES
  rw [← hq, ← hr]
  have HQl := Box.mk (show q < lim by rw [hq]; exact Nat.lt_of_le_of_lt (Nat.div_le_self _ _) HM.out)
  have hrz : r < z := by rw [hr]; exact Nat.mod_lt _ HZ1.out
  have HR := Box.mk hrz
  clear hq hr hrz HM g1 g2 g3
  unfold bigM
  have B6 := Box.mk ((B5.out.alloc B5.out.size (.cells (arr (fun _ => 0) false) 47)).alloc (by have := B5.out.size; simp; omega) (.cells (arr (fun _ => 0) false) 47))
  have B7 := Box.mk (Below_setRow (Below_setRow B6.out (g := W5.heap.size) B5.out.size (arr (limb q) false)) (g := W5.heap.size + 1) (by have := B5.out.size; omega) (arr (limb r) false))
  have n1 : Blk ((W5.alloc (.cells (arr (fun _ => 0) false) 47)).alloc (.cells (arr (fun _ => 0) false) 47)) W5.heap.size (arr (fun _ => 0) false) 47 := (Blk.new rfl).alloc _
  have n2 : Blk ((W5.alloc (.cells (arr (fun _ => 0) false) 47)).alloc (.cells (arr (fun _ => 0) false) 47)) (W5.heap.size + 1) (arr (fun _ => 0) false) 47 := Blk.new (by simp)
  have n3 := n2.otherRow (k := W5.heap.size) (arr (limb q) false) (by omega)
  have N1 := Box.mk n1; have N3 := Box.mk n3
  have N4 := Box.mk (n3.setRow (arr (limb r) false))
  have N5 := Box.mk ((n1.setRow (arr (limb q) false)).otherRow (k := W5.heap.size + 1) (arr (limb r) false) (by omega))
  rw [arr_zero] at N1 N3 N4 N5 B7
  clear n1 n2 n3 B6
  go_upto_region 4 with (first
    | (refine storeBig rfl (.tmp 9) (.tmp 34) rfl W5.heap.size (limb q) false rfl rfl _ N1.out rfl ?_)
    | (refine storeBig rfl (.tmp 10) (.tmp 35) rfl (W5.heap.size + 1) (limb r) false rfl rfl _ N3.out rfl ?_))
  generalize (((W5.alloc _).alloc _).setRow W5.heap.size (arr (limb q) false)).setRow (W5.heap.size + 1) (arr (limb r) false) = W6 at *
  clear N1 N3
  go_wp2_with (refine loadBig rfl (.tmp 9) rfl W5.heap.size rfl (limb q) false N5.out ?_)
  refine (rInt_any q false HQl.out _ _ rfl).mono ?_
  rintro e W7 ⟨rfl, hb⟩
  have N6 := Box.mk (N4.out.below hb (Nat.le_refl _))
  have B8 := Box.mk (B7.out.trans (hb.mono B7.out.size)); clear hb N4 N5 B7
  have hr := fitV_natY (q := r) (by have := HR.out; have := HZ.out; omega)
  have HFR := Box.mk hr; clear hr
  by_cases hq : 9223372036854775808 ≤ q
  · have hv := HV.out.trans (HNO hq).out
    subst hv
    rw [fitV_natN hq]
    clear HNO HYES HV hq
    go_wp2_with (refine loadBig rfl (.tmp 10) rfl (W5.heap.size + 1) rfl (limb r) false N6.out ?_)
    refine (rInt_any r false (lim_big (k := 64) (by omega) (by have := HR.out; have := HZ.out; omega)) _ _ HFR.out.symm).mono ?_
    rintro e W8 ⟨rfl, hb⟩
    have B9 := Box.mk (B8.out.trans (hb.mono B8.out.size)); clear hb
    go_wp2
    go_ret3
    exact ⟨rfl, B9.out⟩
  · have hv := HV.out.trans (HYES (by omega)).out
    subst hv
    rw [fitV_natY (q := q) (by omega)]
    clear HNO HYES HV hq
    go_wp2_with (refine loadBig rfl (.tmp 10) rfl (W5.heap.size + 1) rfl (limb r) false N6.out ?_)
    refine (rInt_any r false (lim_big (k := 64) (by omega) (by have := HR.out; have := HZ.out; omega)) _ _ HFR.out.symm).mono ?_
    rintro e W8 ⟨rfl, hb⟩
    have B9 := Box.mk (B8.out.trans (hb.mono B8.out.size)); clear hb
    go_wp2
    go_ret3
    exact ⟨rfl, B9.out⟩
theorem rPart_any (a b c : Int) (ha : -9223372036854775808 ≤ a ∧ a ≤ 9223372036854775807) (hb : -9223372036854775808 ≤ b ∧ b ≤ 9223372036854775807) (hc : -9223372036854775808 ≤ c ∧ c ≤ 9223372036854775807) (w : World) (v : Value) (hv : v = partT a b c) :
    Calls Try.prog 45 #[.int .i64 a, .int .i64 b, .int .i64 c] w fun e w' => e = .returned v ∧ Below w.heap.size w w' := by
  by_cases h : a < 0 ∨ b < 0 ∨ c < 1
  · rw [hv, partT_no (by omega)]
    exact (rPart_no a b c h w).mono fun e w' ⟨h1, h2⟩ => ⟨h1, by subst h2; exact Below.refl _ _⟩
  · obtain ⟨x, rfl⟩ := Int.eq_ofNat_of_zero_le (show 0 ≤ a by omega)
    obtain ⟨y, rfl⟩ := Int.eq_ofNat_of_zero_le (show 0 ≤ b by omega)
    obtain ⟨z, rfl⟩ := Int.eq_ofNat_of_zero_le (show 0 ≤ c by omega)
    exact rPart_nat x y z (by omega) (by omega) (by omega) (by omega) w v hv
end Go.Proofs.Ytlgdapgocbmcfaa
