/- 'Of', 'Minus', 'Int' of the reference, walked. -/
import Derived.Test.YtjjmhmbmjpedkaaBigPlus
import Derived.Deep.Cut
namespace Go.Proofs.Ytjjmhmbmjpedkaa
open Go.RowKit
theorem ofArr (u : Nat) (h : u < 18446744073709551616) (neg : Bool) : arr (limb u) neg = #[.int .u64 ((u % 4294967296 : Nat) : Int), .int .u64 ((u / 4294967296 : Nat) : Int), .int .u64 0, .int .u64 0, .int .u64 0, .int .u64 0, .int .u64 0, .int .u64 0, .int .u64 0, .int .u64 0, .bool neg] := by
  have hz : ∀ i, 2 ≤ i → limb u i = 0 := fun i hi => limb_small (Nat.lt_of_lt_of_le h (Nat.pow_le_pow_right (n := 2) (by omega) (show 64 ≤ 32 * i by omega)))
  have h0 : limb u 0 = u % 4294967296 := by unfold limb; simp
  have h1 : limb u 1 = u / 4294967296 := by unfold limb; rw [show 2 ^ (32 * 1) = 4294967296 from rfl]; omega
  unfold arr uV
  rw [h0, h1, hz 2 (by omega), hz 3 (by omega), hz 4 (by omega), hz 5 (by omega), hz 6 (by omega), hz 7 (by omega), hz 8 (by omega), hz 9 (by omega)]
  rfl
set_option maxRecDepth 100000 in
set_option maxHeartbeats 1000000 in
theorem rOf_any (n : Int) (w : World) (h1 : -9223372036854775808 ≤ n) (h2 : n ≤ 9223372036854775807) :
    Calls Try.prog 61 #[.int .i64 n] w fun e w' => e = .returned (bigOf n) ∧ Below w.heap.size w w' := by
  by_cases hn : 0 ≤ n
  · obtain ⟨u, rfl⟩ := Int.eq_ofNat_of_zero_le hn
    have ha := hid (ofArr u (by omega) false)
    have hm := u64_mask u (by omega)
    have hf : ¬ ((u : Int) < 0) := by omega
    go_enter Try.func61, Try.ntmps61
    go_wp2
    refine bodyPost_ret (retBig rfl _ _ w.heap.size (limb u) false rfl ?_) rfl ⟨?_, (Below_one _).alloc (by simp) _⟩
    · rw [ha.out]
      exact al_old (al_new rfl)
    · unfold bigOf bigM
      rw [show ((u : Int)).natAbs = u by omega, show decide ((u : Int) < 0) = false by simp]
  · obtain ⟨u, rfl⟩ : ∃ u : Nat, n = -(u : Int) := ⟨n.natAbs, by omega⟩
    have ha := hid (ofArr u (by omega) true)
    have hm := u64_mask u (by omega)
    have hw : IntKind.u64.wrap (-(u : Int)) = 18446744073709551616 - (u : Int) := by rw [IntKind.wrap_u64]; omega
    have hw2 : IntKind.u64.wrap (-(18446744073709551616 - (u : Int))) = (u : Int) := by rw [IntKind.wrap_u64]; omega
    have hlt : (-(u : Int) < 0) = True := by simp; omega
    go_enter Try.func61, Try.ntmps61
    go_wp2
    refine bodyPost_ret (retBig rfl _ _ w.heap.size (limb u) true rfl ?_) rfl ⟨?_, (Below_one _).alloc (by simp) _⟩
    · rw [ha.out]
      exact al_old (al_new rfl)
    · unfold bigOf bigM
      rw [show (-(u : Int)).natAbs = u by omega, show decide (-(u : Int) < 0) = true by simp; omega]
def fitB (z : Int) : Bool := decide (-9223372036854775808 ≤ z ∧ z ≤ 9223372036854775807)
/-- A number and whether it is an int. -/
def fitV (z : Int) : Value := .tuple #[.int .i64 (if fitB z = true then z else 0), .bool (fitB z)]
theorem fitV_yes {z : Int} (h1 : -9223372036854775808 ≤ z) (h2 : z ≤ 9223372036854775807) : fitV z = .tuple #[.int .i64 z, .bool true] := by
  have : fitB z = true := by unfold fitB; simp [h1, h2]
  unfold fitV; rw [this]; rfl
theorem fitV_no {z : Int} (h : z < -9223372036854775808 ∨ 9223372036854775807 < z) : fitV z = .tuple #[.int .i64 0, .bool false] := by
  have : fitB z = false := by unfold fitB; simp; omega
  unfold fitV; rw [this]; rfl
theorem high_zero {n : Nat} (hn : n < lim) (h : ∀ k, 2 ≤ k → k < 10 → limb n k = 0) : n < 18446744073709551616 := by
  have e : ∀ k, k ≤ 8 → n / 2 ^ (32 * (10 - k)) = 0 := by
    intro k
    induction k with
    | zero => intro _; rw [Nat.sub_zero]; exact lim_div hn
    | succ k ih =>
      intro hk
      rw [div_limb, show 10 - (k + 1) + 1 = 10 - k by omega, ih (by omega), h _ (by omega) (by omega)]
  have := e 8 (by omega)
  have h2 : n / 18446744073709551616 = 0 := this
  omega
theorem or_limbs (n : Nat) (h : n < 18446744073709551616) : bits BinOp.or IntKind.u64 ((limb n 0 : Nat) : Int) (((limb n 1 : Nat) : Int) * 4294967296) = (n : Int) := by
  have h0 : limb n 0 = n % 4294967296 := by unfold limb; simp
  have h1 : limb n 1 = n / 4294967296 := by unfold limb; rw [show 2 ^ (32 * 1) = 4294967296 from rfl]; omega
  rw [h0, h1, show ((n / 4294967296 : Nat) : Int) * 4294967296 = ((n / 4294967296 * 4294967296 : Nat) : Int) by omega, u64_or_nat _ _ (by omega) (by omega), Nat.or_comm, nat_join 32 _ _ (by omega) (by omega)]
  omega
set_option maxRecDepth 100000 in
set_option maxHeartbeats 1000000 in
theorem rInt_any (n : Nat) (neg : Bool) (hn : n < lim) (w : World) (v : Value) (hv : v = fitV (if neg = true then -(n : Int) else n)) :
    Calls Try.prog 58 #[bigM n neg] w fun e w' => e = .returned v ∧ Below w.heap.size w w' := by
  unfold bigM
  have HV := hid hv; have HN := hid hn
  clear hv hn
  go_enter Try.func58, Try.ntmps58
  go_wp2
  have hB := hid (Blk.new (w := w) (cs := arr (limb n) neg) (t := 107) rfl)
  have hb := hid (Below_one (w := w) (.cells (arr (limb n) neg) 107))
  generalize w.alloc (.cells (arr (limb n) neg) 107) = W at *
  go_loop [4,6,7,8,9,10,11,12,13,14] (fun t4 _ _ _ _ _ _ _ _ _ => ∃ i : Nat, 2 ≤ i ∧ i ≤ 10 ∧ t4 = .int .i64 i ∧ ∀ k, 2 ≤ k → k < i → limb n k = 0) (fun t4 _ _ _ _ _ _ _ _ _ => 10 - (intOf t4).toNat)
  case atStart => exact ⟨2, by omega, by omega, rfl, fun k _ _ => by omega⟩
  case round =>
    obtain ⟨i, hi2, hi, rfl, hz⟩ := hrel
    have HZ := hid hz; clear hz
    by_cases hlt : i < 10
    · have hc : W.cell? ⟨w.heap.size, i, none⟩ = some (.int .u64 (limb n i : Nat)) := by rw [hB.out.cell, arr_get _ _ i hlt]
      by_cases h0 : limb n i = 0
      · rw [h0] at hc
        have H0 := hid h0; clear h0
        go_wp2
        go_round
        case rel => exact ⟨i + 1, by omega, by omega, by go_num, fun k hk hk2 => by
          by_cases hki : k = i
          · rw [hki]; exact H0.out
          · exact HZ.out k hk (by omega)⟩
        case measure => simp [intOf]; omega
      · have hne : (((limb n i : Nat) : Int) != 0) = true := by simp; omega
        have hbig : 18446744073709551616 ≤ n := by
          refine Classical.byContradiction fun hc => h0 (limb_small (Nat.lt_of_lt_of_le (show n < 2 ^ 64 by omega) (Nat.pow_le_pow_right (by omega) (by omega))))
        obtain rfl : v = .tuple #[.int .i64 0, .bool false] := by rw [HV.out]; split <;> exact fitV_no (by omega)
        clear HV h0 hbig
        generalize limb n i = x at *
        go_wp2
        go_ret2
        exact ⟨rfl, hb.out⟩
    · obtain rfl : i = 10 := by omega
      have hsm := high_zero HN.out HZ.out
      have c0 : W.cell? ⟨w.heap.size, 0, none⟩ = some (.int .u64 (limb n 0 : Nat)) := by rw [hB.out.cell, arr_get _ _ 0 (by omega)]
      have c1 : W.cell? ⟨w.heap.size, 1, none⟩ = some (.int .u64 (limb n 1 : Nat)) := by rw [hB.out.cell, arr_get _ _ 1 (by omega)]
      have c2 : W.cell? ⟨w.heap.size, 10, none⟩ = some (.bool neg) := by rw [hB.out.cell, arr_neg]
      have l0 := limb_lt n 0
      have l1 := limb_lt n 1
      have hor := or_limbs n hsm
      have HSM := hid hsm; clear hsm
      generalize limb n 0 = x0 at *
      generalize limb n 1 = x1 at *
      cases neg with
      | true =>
        by_cases hbig : (9223372036854775808 : Int) < (n : Int)
        · obtain rfl : v = .tuple #[.int .i64 0, .bool false] := by rw [HV.out]; simp; exact fitV_no (by omega)
          go_wp2
          go_ret2
          exact ⟨rfl, hb.out⟩
        · obtain rfl : v = .tuple #[.int .i64 (-(n : Int)), .bool true] := by rw [HV.out]; simp; exact fitV_yes (by omega) (by omega)
          have hw : wrap64 (IntKind.u64.wrap (-(n : Int))) = -(n : Int) := by rw [IntKind.wrap_u64]; unfold wrap64; omega
          go_wp2
          go_ret2
          exact ⟨rfl, hb.out⟩
      | false =>
        by_cases hbig : (9223372036854775808 : Int) ≤ (n : Int)
        · obtain rfl : v = .tuple #[.int .i64 0, .bool false] := by rw [HV.out]; simp; exact fitV_no (by omega)
          go_wp2
          go_ret2
          exact ⟨rfl, hb.out⟩
        · obtain rfl : v = .tuple #[.int .i64 (n : Int), .bool true] := by rw [HV.out]; simp; exact fitV_yes (by omega) (by omega)
          go_wp2
          go_ret2
          exact ⟨rfl, hb.out⟩
theorem rIntZ_any (z : Int) (hz : z.natAbs < lim) (w : World) : Calls Try.prog 58 #[bigOf z] w fun e w' => e = .returned (fitV z) ∧ Below w.heap.size w w' :=
  rInt_any z.natAbs (decide (z < 0)) hz w (fitV z) (by
    by_cases h : z < 0
    · rw [decide_eq_true h, if_pos rfl, show -((z.natAbs : Nat) : Int) = z by omega]
    · rw [decide_eq_false h, if_neg (by simp), show ((z.natAbs : Nat) : Int) = z by omega])
/-- The same load behind a guard that lets it run. -/
theorem loadBigG {ops : Array Oper} {rest : List Oper} {o : Oper} {a : Act} {w : World} {Q : Exit → Act → World → Prop} (hgd : Region.wanted o (yielded ops a.tmps) = true) (x : Operand) (ho : o.op = .load 107 x) (g : Nat) (hx : a.eval x = .pointer (some ⟨g, 0, none⟩))
    (f : Nat → Nat) (neg : Bool) (hg : Blk w g (arr f neg) 107) (h : wpList Try.prog ops Q rest (a.put o.dst (.agg (arr f neg))) w) : wpList Try.prog ops Q (o :: rest) a w :=
  wpList_step fun _ hK => by
    rw [if_pos hgd]
    exact wp_load_row 107 x ho g hx 107 (arr f neg) (0, 0) _ hg Try.underlying107 rfl (by kernel_rfl) (hK _ _ h)
end Go.Proofs.Ytjjmhmbmjpedkaa
