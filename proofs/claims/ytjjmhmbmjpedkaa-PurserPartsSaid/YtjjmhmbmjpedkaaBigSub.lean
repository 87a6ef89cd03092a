/- 'sub', 'less', 'zero' of the reference, walked. -/
import Derived.Test.YtjjmhmbmjpedkaaBigAdd
import Derived.Test.YtjjmhmbmjpedkaaLibArr
namespace Go.Proofs.Ytjjmhmbmjpedkaa
open Go.RowKit
def mixS (n m i k : Nat) : Nat := if k < i then limb (n - m) k else limb n k
set_option maxRecDepth 100000 in
set_option maxHeartbeats 1000000 in
theorem rsub_any (n m : Nat) (na nb : Bool) (hmn : m ≤ n) (w : World) :
    Calls Try.prog 89 #[bigM n na, bigM m nb] w fun e w' => e = .returned (bigM (n - m) na) ∧ Below w.heap.size w w' := by
  unfold bigM
  have HMN := hid hmn; clear hmn
  go_enter Try.func89, Try.ntmps89
  go_wp2
  rw [← arr_zero]
  obtain ⟨h1, h2, h3, hb⟩ := al3 w (.cells (arr (limb n) na) 107) (.cells (arr (limb m) nb) 107) (.cells (arr (fun _ => 0) false) 107)
  generalize ((w.alloc (.cells (arr (limb n) na) 107)).alloc (.cells (arr (limb m) nb) 107)).alloc (.cells (arr (fun _ => 0) false) 107) = W at *
  have H1 := hid h1; have H2 := hid h2; have H3 := hid h3; have HB := hid hb
  clear h1 h2 h3 hb
  go_loopw [5,6,7,8,9,10,11,12,13,14,15,16,17,18,19,20,21,22,23,24,25,26,27,28,29,30,31] (fun t5 t6 _ _ _ _ _ _ _ _ _ _ _ _ _ _ _ _ _ _ _ _ _ _ _ _ _ wr => ∃ i : Nat, i ≤ 10 ∧ t6 = .int .i64 i ∧ t5 = uV (borrow n m i) ∧ Blk wr w.heap.size (arr (mixS n m i) na) 107 ∧ Blk wr (w.heap.size + 1) (arr (limb m) nb) 107 ∧ Blk wr (w.heap.size + 1 + 1) (arr (fun _ => 0) false) 107 ∧ Below w.heap.size w wr) (fun t5 t6 _ _ _ _ _ _ _ _ _ _ _ _ _ _ _ _ _ _ _ _ _ _ _ _ _ wr => 10 - (intOf t6).toNat)
  case atStart => exact ⟨0, by omega, rfl, by rw [borrow_zero]; rfl, by rw [arr_congr (g := limb n) na (fun i _ => by unfold mixS; rw [if_neg (by omega)])]; exact H1.out, H2.out, H3.out, HB.out⟩
  case round =>
    obtain ⟨i, hi, rfl, rfl, hA, hB, hC, hW⟩ := hrel
    have HA := hid hA; have HBb := hid hB; have HC := hid hC; have HW := hid hW
    clear hA hB hC hW
    by_cases hlt : i < 10
    · have c1 : wr.cell? ⟨w.heap.size, i, none⟩ = some (.int .u64 (limb n i : Nat)) := by rw [HA.out.cell, arr_get _ _ i hlt]; unfold mixS; rw [if_neg (by omega)]
      have c2 : wr.cell? ⟨w.heap.size + 1, i, none⟩ = some (.int .u64 (limb m i : Nat)) := by rw [HBb.out.cell, arr_get _ _ i hlt]
      have hst := sub_step n m i HMN.out
      have l1 := limb_lt n i
      have l2 := limb_lt m i
      have l3 := borrow_le n m i
      generalize limb n i = x at *
      generalize limb m i = y at *
      generalize borrow n m i = o at *
      obtain ⟨s1, s2⟩ := hst
      have S1 := hid s1; have S2 := hid s2
      clear s1 s2
      have q0 : IntKind.u64.wrap ((x : Int) + 4294967296) = (x : Int) + 4294967296 := by rw [IntKind.wrap_u64]; omega
      have q1 : IntKind.u64.wrap ((x : Int) + 4294967296 - (y : Int)) = (x : Int) + 4294967296 - (y : Int) := by rw [IntKind.wrap_u64]; omega
      have q2 : IntKind.u64.wrap ((x : Int) + 4294967296 - (y : Int) - (o : Int)) = (x : Int) + 4294967296 - (y : Int) - (o : Int) := by rw [IntKind.wrap_u64]; omega
      have i0 : (0 : Int) ≤ (i : Int) := by omega
      have i1 : (i : Int) < 10 := by omega
      unfold uV
      go_wp2
      refine wp_region_early [0, 1, 2, 3, 4, 5, 6, 7, 8, 9, 10, 11, 12] [] [] (fun wx => wx.cell? ⟨w.heap.size, i, none⟩ = some (.int .u64 (x : Int)) ∧ wx.cell? ⟨w.heap.size + 1, i, none⟩ = some (.int .u64 (y : Int))) (by kernel_rfl) (by kernel_rfl) (by kernel_rfl) (by rfl) ⟨c1, c2⟩ ?_
      apply Exists.intro
      refine ⟨fun wx hx => ?_, ?_⟩
      · obtain ⟨x1, x2⟩ := hx
        repeat (refine seI_step rfl (fun K hK => ?_); go_simp; refine hK _ ?_; clear hK K)
        exact seI_nil rfl
      refine wpTA_nil .nil ?_
      go_wp2
      refine NoPanic.normal ?_
      have f1 : wr.frozen? ⟨w.heap.size, i, none⟩ = false := HA.out.frozen i
      clear q0 q1 q2
      go_wp2
      go_roundw
      case rel =>
        refine ⟨i + 1, by omega, by go_num, by rw [← S1.out]; congr 1; omega, ?_, HBb.out.other (by omega), HC.out.other (by omega), (HW.out.setCell (p := ⟨w.heap.size, i, none⟩) (Nat.le_refl _) _).drew⟩
        have h1 := HA.out.setCell i (.int .u64 (((x + 4294967296 - y - o) % 4294967296 : Nat) : Int))
        rw [arr_set _ _ _ i hlt, S2.out] at h1
        rw [arr_congr (g := fun k => if k = i then limb (n - m) i else mixS n m i k) na (fun k _ => by
          unfold mixS
          by_cases hk : k = i
          · subst hk; simp
          · by_cases hk2 : k < i
            · simp [hk, hk2, show k < i + 1 by omega]
            · simp [hk, hk2, show ¬ k < i + 1 by omega])]
        have q4 : bits BinOp.and IntKind.u64 ((x : Int) + 4294967296 - (y : Int) - (o : Int)) 4294967295 = ((limb (n - m) i : Nat) : Int) := by rw [show (x : Int) + 4294967296 - (y : Int) - (o : Int) = ((x + 4294967296 - y - o : Nat) : Int) by omega, u64_mask _ (by omega), S2.out]
        rw [q4]
        exact h1
      case measure => simp [intOf]; omega
    · obtain rfl : i = 10 := by omega
      have hA : Blk wr w.heap.size (arr (limb (n - m)) na) 107 := by
        have := HA.out
        rw [arr_congr (g := limb (n - m)) na (fun k hk => by unfold mixS; rw [if_pos hk])] at this
        exact this
      have HA := hid hA
      clear hA
      go_wp2_with (first | (refine wpList_load_row rfl 107 (.tmp 2) rfl w.heap.size rfl 107 (arr (limb (n - m)) na) (0, 0) _ HA.out Try.underlying107 rfl (by kernel_rfl) ?_) | (refine wpList_store_row rfl 107 (.tmp 4) (.tmp 32) rfl (w.heap.size + 1 + 1) (arr (limb (n - m)) na) rfl rfl 107 (arr (fun _ => 0) false) HC.out (by kernel_rfl) rfl (arr_one _ _) ?_))
      refine bodyPost_ret (results_cell_row rfl _ _ (w.heap.size + 1 + 1) 107 (arr (limb (n - m)) na) (0, 0) _ rfl (HC.out.setRow _) Try.underlying107 rfl (by kernel_rfl)) rfl ⟨rfl, ?_⟩
      exact HW.out.trans (Below_setRow (Below.refl _ _) (by omega) _)
theorem al2 (w : World) (A B : Obj) : ((w.alloc A).alloc B).heap[w.heap.size]? = some A ∧ ((w.alloc A).alloc B).heap[w.heap.size + 1]? = some B ∧ Below w.heap.size w ((w.alloc A).alloc B) :=
  ⟨al_old (al_new rfl), al_new (by simp), (Below_one A).alloc (by simp) B⟩
set_option maxRecDepth 100000 in
set_option maxHeartbeats 1000000 in
theorem rless_any (n m : Nat) (na nb : Bool) (hn : n < lim) (hm : m < lim) (w : World) :
    Calls Try.prog 88 #[bigM n na, bigM m nb] w fun e w' => e = .returned (.bool (decide (n < m))) ∧ Below w.heap.size w w' := by
  unfold bigM
  have HT := hid (show n / 2 ^ (32 * (9 + 1)) = m / 2 ^ (32 * (9 + 1)) by rw [top_zero hn, top_zero hm])
  clear hn hm
  go_enter Try.func88, Try.ntmps88
  go_wp2
  obtain ⟨h1, h2, hb⟩ := al2 w (.cells (arr (limb n) na) 107) (.cells (arr (limb m) nb) 107)
  generalize (w.alloc (.cells (arr (limb n) na) 107)).alloc (.cells (arr (limb m) nb) 107) = W at *
  have H1 := hid h1; have H2 := hid h2; have HB := hid hb
  clear h1 h2 hb
  go_loopw [5,6,7,8,9,10,11,12,13,14,15,16,17,18,19,20,21,22,23,24,25,26,27] (fun t5 _ _ _ _ _ _ _ _ _ _ _ _ _ _ _ _ _ _ _ _ _ _ wr => ∃ j : Int, -1 ≤ j ∧ j ≤ 9 ∧ t5 = .int .i64 j ∧ n / 2 ^ (32 * (j + 1).toNat) = m / 2 ^ (32 * (j + 1).toNat) ∧ Blk wr w.heap.size (arr (limb n) na) 107 ∧ Blk wr (w.heap.size + 1) (arr (limb m) nb) 107 ∧ Below w.heap.size w wr) (fun t5 _ _ _ _ _ _ _ _ _ _ _ _ _ _ _ _ _ _ _ _ _ _ wr => (intOf t5 + 1).toNat)
  case atStart => exact ⟨9, by omega, by omega, rfl, (by rw [show ((9 : Int) + 1).toNat = 9 + 1 from rfl]; exact HT.out), H1.out, H2.out, HB.out⟩
  case round =>
    obtain ⟨j, hj1, hj2, rfl, hup, hA, hB, hW⟩ := hrel
    have HU := hid hup; have HA := hid hA; have HBb := hid hB; have HW := hid hW
    clear hup hA hB hW
    by_cases hlt : 0 ≤ j
    · obtain ⟨i, rfl⟩ := Int.eq_ofNat_of_zero_le hlt
      have hU := HU.out
      rw [show ((i : Int) + 1).toNat = i + 1 by omega] at hU
      have hlt : i < 10 := by omega
      have c1 : wr.cell? ⟨w.heap.size, i, none⟩ = some (.int .u64 (limb n i : Nat)) := by rw [HA.out.cell, arr_get _ _ i hlt]
      have c2 : wr.cell? ⟨w.heap.size + 1, i, none⟩ = some (.int .u64 (limb m i : Nat)) := by rw [HBb.out.cell, arr_get _ _ i hlt]
      have i0 : (0 : Int) ≤ (i : Int) := by omega
      have i1 : (i : Int) < 10 := by omega
      have HU2 := hid hU
      clear hU HU
      by_cases hxy : limb n i = limb m i
      · have hs := hid (less_same HU2.out hxy)
        rw [hxy] at c1
        clear hxy
        generalize limb m i = y at *
        have hne : ((y : Int) != (y : Int)) = false := by simp
        go_wp2
        refine wp_region_early [0, 1, 2, 3, 4, 5, 6, 7, 8] [] [] (fun wx => wx.cell? ⟨w.heap.size, i, none⟩ = some (.int .u64 (y : Int)) ∧ wx.cell? ⟨w.heap.size + 1, i, none⟩ = some (.int .u64 (y : Int))) (by kernel_rfl) (by kernel_rfl) (by kernel_rfl) (by rfl) ⟨c1, c2⟩ ?_
        apply Exists.intro
        refine ⟨fun wx hx => ?_, ?_⟩
        · obtain ⟨x1, x2⟩ := hx
          repeat (refine seI_step rfl (fun K hK => ?_); go_simp; refine hK _ ?_; clear hK K)
          exact seI_nil rfl
        refine wpTA_nil .nil ?_
        go_wp2
        refine NoPanic.normal ?_
        go_wp2
        go_roundw
        case rel => exact ⟨(i : Int) - 1, by omega, by omega, rfl, by rw [show ((i : Int) - 1 + 1).toNat = i by omega]; exact hs.out, HA.out, HBb.out, HW.out.drew⟩
        case measure => simp [intOf]
      · have hs := hid (less_apart HU2.out hxy)
        have hne : ((limb n i : Int) != (limb m i : Int)) = true := by simp; omega
        generalize limb n i = x at *
        generalize limb m i = y at *
        clear hxy
        go_wp2
        refine wp_region_early [0, 1, 2, 3, 4, 5, 6, 7, 8] [] [] (fun wx => wx.cell? ⟨w.heap.size, i, none⟩ = some (.int .u64 (x : Int)) ∧ wx.cell? ⟨w.heap.size + 1, i, none⟩ = some (.int .u64 (y : Int))) (by kernel_rfl) (by kernel_rfl) (by kernel_rfl) (by rfl) ⟨c1, c2⟩ ?_
        apply Exists.intro
        refine ⟨fun wx hx => ?_, ?_⟩
        · obtain ⟨x1, x2⟩ := hx
          repeat (refine seI_step rfl (fun K hK => ?_); go_simp; refine hK _ ?_; clear hK K)
          exact seI_nil rfl
        refine wpTA_nil .nil ?_
        go_wp2
        refine NoPanic.normal ?_
        go_wp2
        refine wp_region_early [0, 1, 2, 3, 4, 5, 6, 7, 8, 9] [] [] (fun wx => wx.cell? ⟨w.heap.size, i, none⟩ = some (.int .u64 (x : Int)) ∧ wx.cell? ⟨w.heap.size + 1, i, none⟩ = some (.int .u64 (y : Int))) (by kernel_rfl) (by kernel_rfl) (by kernel_rfl) (by rfl) ⟨c1, c2⟩ ?_
        apply Exists.intro
        refine ⟨fun wx hx => ?_, ?_⟩
        · obtain ⟨x1, x2⟩ := hx
          repeat (refine seI_step rfl (fun K hK => ?_); go_simp; refine hK _ ?_; clear hK K)
          exact seI_nil rfl
        refine wpTA_nil .nil ?_
        go_wp2
        refine NoPanic.normal ?_
        go_wp2
        go_ret
        exact ⟨by rw [← hs.out]; simp, HW.out.drew.drew⟩
    · obtain rfl : j = -1 := by omega
      have hs := hid (show n = m from all_same HU.out)
      go_wp2
      go_ret
      exact ⟨by rw [hs.out]; simp, HW.out⟩
theorem all_limbs (n : Nat) (hn : n < lim) : ((List.range 10).all fun i => ((limb n i : Nat) : Int) == 0) = decide (n = 0) := by
  by_cases h : n = 0
  · subst h
    rw [decide_eq_true rfl, List.all_eq_true]
    intro i _
    rw [limb_zero]; rfl
  · rw [decide_eq_false h, List.all_eq_false]
    refine Classical.byContradiction fun hc => h (limb_all_zero hn fun i hi => Classical.byContradiction fun h0 => hc ⟨i, List.mem_range.2 hi, ?_⟩)
    simp; omega
set_option maxRecDepth 100000 in
set_option maxHeartbeats 1000000 in
theorem rzero_any (n : Nat) (na : Bool) (hn : n < lim) (w : World) :
    Calls Try.prog 90 #[bigM n na] w fun e w' => e = .returned (.bool (decide (n = 0))) ∧ Below w.heap.size w w' := by
  have heq : ∀ W : World, (Op.equalIn 10000 105 (.agg #[uV (limb n 0), uV (limb n 1), uV (limb n 2), uV (limb n 3), uV (limb n 4), uV (limb n 5), uV (limb n 6), uV (limb n 7), uV (limb n 8), uV (limb n 9)])
      (.agg #[.int .u64 0, .int .u64 0, .int .u64 0, .int .u64 0, .int .u64 0, .int .u64 0, .int .u64 0, .int .u64 0, .int .u64 0, .int .u64 0])).run Try.prog W = .ok (decide (n = 0)) W := fun W => by
    have h := run_equalIn_arr (P := Try.prog) 9998 Try.underlying105 Try.underlying23 (fun w => by kernel_rfl) #[uV (limb n 0), uV (limb n 1), uV (limb n 2), uV (limb n 3), uV (limb n 4), uV (limb n 5), uV (limb n 6), uV (limb n 7), uV (limb n 8), uV (limb n 9)]
      #[.int .u64 0, .int .u64 0, .int .u64 0, .int .u64 0, .int .u64 0, .int .u64 0, .int .u64 0, .int .u64 0, .int .u64 0, .int .u64 0] (fun i => ((limb n i : Nat) : Int)) (fun _ => 0) (cases10 ⟨rfl, rfl⟩ ⟨rfl, rfl⟩ ⟨rfl, rfl⟩ ⟨rfl, rfl⟩ ⟨rfl, rfl⟩ ⟨rfl, rfl⟩ ⟨rfl, rfl⟩ ⟨rfl, rfl⟩ ⟨rfl, rfl⟩ ⟨rfl, rfl⟩) W
    rw [all_limbs n hn] at h
    exact h
  unfold bigM arr
  clear hn
  generalize decide (n = 0) = r at *
  go_enter Try.func90, Try.ntmps90
  go_wp2
  go_ret
  exact ⟨by simp, Below_one _⟩
end Go.Proofs.Ytjjmhmbmjpedkaa
