/- 'More' and 'Sum' of crc: what they come to. -/
import Derived.Test.YtjjmhmbmjpedkaaCrcTable
namespace Go.Proofs.Ytjjmhmbmjpedkaa
open Go.RowKit
theorem tabCells_get (k : Nat) (h : k < 16) : (tabCells 16)[k]? = some (V32 (tbl.getD k 0)) := by
  unfold tabCells
  rw [List.getElem?_toArray, List.getElem?_map, show (tbl.take 16 ++ List.replicate (16 - 16) 0) = tbl from rfl, List.getD_eq_getElem?_getD]
  rcases hq : tbl[k]? with _ | x
  · rw [List.getElem?_eq_none_iff] at hq
    have : tbl.length = 16 := rfl
    omega
  · rfl
theorem crcL_snoc (n : Nat) (bs : List UInt8) (k : Nat) (h : k < bs.length) : crcL n (bs.take (k + 1)) = cb (crcL n (bs.take k)) bs[k].toNat := by
  rw [List.take_succ_eq_append_getElem h, crcL_append]; rfl
theorem u32_xor_step (y t : Nat) (hy : y < 4294967296) (ht : t < 4294967296) : bits BinOp.xor IntKind.u32 ((y : Int) / 16) (t : Int) = (((y / 16) ^^^ t : Nat) : Int) := by
  rw [show (y : Int) / 16 = ((y / 16 : Nat) : Int) from rfl, u32_xor_nat _ _ (by omega) ht]
theorem u32_not (n : Nat) (h : n < 4294967296) : bits BinOp.xor IntKind.u32 IntKind.u32.max (n : Int) = ((cpl n : Nat) : Int) := by
  rw [show IntKind.u32.max = ((4294967295 : Nat) : Int) from rfl, u32_xor_nat _ _ (by omega) h]; rfl
set_option maxHeartbeats 400000 in
theorem more_any (n : Nat) (a : Option Addr) (cap : Nat) (bs : List UInt8) (w : World) (hn : n < 4294967296) (hl : bs.length ≤ maxLen) (hr : RowAt w a (bs.map bV)) :
    Calls Try.prog 72 #[.int .u32 n, .slice a bs.length cap] w fun e w' => e = .returned (.int .u32 (more n bs)) ∧ Below w.heap.size w w' := by
  unfold maxLen at hl
  have HR := hid hr; clear hr
  go_enter Try.func72, Try.ntmps72
  go_wp2_with (first | (go_at_call 91; refine (table_any _).mono ?_; rintro e W ⟨rfl, hb⟩) | (rw [← tabCells_zero]; refine wpList_store_row rfl 136 (.tmp 5) (.tmp 9) rfl _ (tabCells 16) rfl rfl 136 (tabCells 0) (heap_alloc_new _ _) (by kernel_rfl) rfl (by kernel_rfl) ?_))
  have hg : ((W.alloc (Obj.cells (tabCells 0) 136)).setRow W.heap.size (tabCells 16)).heap[W.heap.size]? = some (.cells (tabCells 16) 136 (0, 0)) := setRow_heap _ _ _ _ _ _ (heap_alloc_new _ _)
  have hw : Below w.heap.size w ((W.alloc (Obj.cells (tabCells 0) 136)).setRow W.heap.size (tabCells 16)) := Below_setRow (hb.alloc hb.size _) hb.size _
  generalize (W.alloc (Obj.cells (tabCells 0) 136)).setRow W.heap.size (tabCells 16) = W2 at *
  generalize W.heap.size = g at *
  have HG := hid hg; clear hg
  have HW := hid hw; clear hw hb
  have HR2 := hid (HR.out.below HW.out (Nat.le_refl _)); clear HR
  have hc := u32_not n hn
  rw [hc]; clear hc
  go_loop [6,8,15,16,17,18,19,20,21,22,23,24,25,26,27,28,29,30,31,32,33,34,35,14] (fun t6 _ _ _ _ _ _ _ _ _ _ _ _ _ _ _ _ _ _ _ _ _ _ t14 => ∃ k : Nat, k ≤ bs.length ∧ t14 = .int .i64 k ∧ t6 = V32 (crcL (cpl n) (bs.take k))) (fun t6 _ _ _ _ _ _ _ _ _ _ _ _ _ _ _ _ _ _ _ _ _ _ t14 => bs.length - (intOf t14).toNat)
  case atStart => exact ⟨0, by omega, rfl, rfl⟩
  case round =>
    obtain ⟨k, hk, rfl, rfl⟩ := hrel
    have h0 : crcL (cpl n) (bs.take k) < 4294967296 := crcL_lt _ (cpl_lt hn)
    by_cases hlt : k < bs.length
    · have hsn := hid (crcL_snoc (cpl n) bs k hlt)
      generalize hm : crcL (cpl n) (bs.take k) = m at *
      have Hm := hid hm; clear hm
      obtain ⟨b, off, rfl, hc⟩ := HR2.out.byte hlt
      have hx := (bs[k]).toNat_lt
      generalize hxx : (bs[k]).toNat = x at *
      have e1 := u32_xor_nat m x h0 (by omega)
      have l1 := xlt h0 (show x < 4294967296 by omega)
      generalize hy1 : m ^^^ x = y at *
      have c1 : W2.cell? ⟨g, y % 16, none⟩ = some (.int .u32 (tbl.getD (y % 16) 0 : Nat)) := (cell_of_row _ _ _ _ _ _ HG.out).trans (tabCells_get _ (Nat.mod_lt _ (by omega)))
      have e2 := u32_xor_step y (tbl.getD (y % 16) 0) l1 (tbl_lt _)
      have l2 := nib_lt l1
      have hy2 : nib y = (y / 16) ^^^ tbl.getD (y % 16) 0 := rfl
      rw [← hy2] at e2
      generalize hy3 : tbl.getD (y % 16) 0 = t1 at *
      generalize hy4 : nib y = z at *
      have c2 : W2.cell? ⟨g, z % 16, none⟩ = some (.int .u32 (tbl.getD (z % 16) 0 : Nat)) := (cell_of_row _ _ _ _ _ _ HG.out).trans (tabCells_get _ (Nat.mod_lt _ (by omega)))
      have e3 := u32_xor_step z (tbl.getD (z % 16) 0) l2 (tbl_lt _)
      have hy5 : nib z = (z / 16) ^^^ tbl.getD (z % 16) 0 := rfl
      rw [← hy5] at e3
      generalize hy6 : tbl.getD (z % 16) 0 = t2 at *
      have hfin : cb m x = nib z := by unfold cb; rw [hy1, hy4]
      rw [hfin] at hsn
      generalize nib z = z3 at *
      clear hxx hy1 hy2 hy3 hy4 hy5 hy6 hfin
      unfold V32
      go_wp2
      go_round
      case rel => exact ⟨k + 1, by omega, by go_num, by rw [hsn.out]⟩
      case measure => simp [intOf]; omega
    · obtain rfl : k = bs.length := by omega
      rw [List.take_length] at h0 ⊢
      have hfin : more n bs = cpl (crcL (cpl n) bs) := rfl
      generalize crcL (cpl n) bs = m at *
      have hc := u32_not m h0
      have Hf := hid hfin; clear hfin
      unfold V32
      go_wp2
      go_ret
      exact ⟨by rw [Hf.out]; rfl, HW.out⟩
theorem crcP_snoc (n : Nat) (ps : List (List UInt8)) (k : Nat) (h : k < ps.length) : crcP n (ps.take (k + 1)) = more (crcP n (ps.take k)) ps[k] := by
  rw [List.take_succ_eq_append_getElem h]; unfold crcP; rw [List.foldl_append]; rfl
set_option maxHeartbeats 400000 in
theorem csum_any (a : Option Addr) (cap : Nat) (ps : List (List UInt8)) (w : World) (hl : ps.length ≤ maxLen) (hr : PartsAt w a ps) :
    Calls Try.prog 45 #[.slice a ps.length cap] w fun e w' => e = .returned (.int .u32 (crcP 0 ps)) ∧ Below w.heap.size w w' := by
  unfold maxLen at hl
  have HR := hid hr; clear hr
  go_enter Try.func45, Try.ntmps45
  go_wp2
  go_loopw [3,5,9,10,11,12,13,14,15,8] (fun t3 _ _ _ _ _ _ _ _ t8 wr => ∃ k : Nat, k ≤ ps.length ∧ t8 = .int .i64 k ∧ t3 = V32 (crcP 0 (ps.take k)) ∧ Below w.heap.size w wr) (fun t3 _ _ _ _ _ _ _ _ t8 wr => ps.length - (intOf t8).toNat)
  case atStart => exact ⟨0, by omega, rfl, rfl, Below.refl _ _⟩
  case round =>
    obtain ⟨k, hk, rfl, rfl, hb⟩ := hrel
    have h0 : crcP 0 (ps.take k) < 4294967296 := crcP_lt _ (by omega)
    by_cases hlt : k < ps.length
    · obtain ⟨b, off, v, c, rfl, hc, hr, hvc, hm⟩ := (HR.out.below hb (Nat.le_refl _)).part hlt
      have hsn := hid (crcP_snoc 0 ps k hlt)
      generalize crcP 0 (ps.take k) = m at *
      generalize ps[k] = p at *
      have HP := hid hr; clear hr
      have HB := hid hb; clear hb
      unfold V32
      go_wp2_with (go_at_call 72; refine (more_any _ _ _ _ _ h0 hm HP.out).mono ?_; rintro e W ⟨rfl, hbW⟩)
      go_roundw
      case rel => exact ⟨k + 1, by omega, by go_num, by rw [hsn.out], HB.out.trans (hbW.mono HB.out.size)⟩
      case measure => simp [intOf]; omega
    · obtain rfl : k = ps.length := by omega
      rw [List.take_length] at h0 ⊢
      unfold V32
      go_wp2
      go_ret
      exact ⟨rfl, hb⟩
end Go.Proofs.Ytjjmhmbmjpedkaa
