/- The table of nibbles, as the program makes it. -/
import Derived.Test.YtjjmhmbmjpedkaaRows
import Derived.Test.YtjjmhmbmjpedkaaCrcPure
import Derived.Test.YtjjmhmbmjpedkaaLib
namespace Go.Proofs.Ytjjmhmbmjpedkaa
open Go.RowKit
def V32 (n : Nat) : Value := .int .u32 n
def tabCells (k : Nat) : Array Value := ((tbl.take k ++ List.replicate (16 - k) 0).map V32).toArray
theorem tabCells_zero : tabCells 0 = #[Value.int IntKind.u32 0, Value.int IntKind.u32 0, Value.int IntKind.u32 0, Value.int IntKind.u32 0,
            Value.int IntKind.u32 0, Value.int IntKind.u32 0, Value.int IntKind.u32 0, Value.int IntKind.u32 0,
            Value.int IntKind.u32 0, Value.int IntKind.u32 0, Value.int IntKind.u32 0, Value.int IntKind.u32 0,
            Value.int IntKind.u32 0, Value.int IntKind.u32 0, Value.int IntKind.u32 0, Value.int IntKind.u32 0] := by rfl
theorem tabCells_16 : tabCells 16 = #[Value.int IntKind.u32 0, Value.int IntKind.u32 498536548, Value.int IntKind.u32 997073096, Value.int IntKind.u32 651767980, Value.int IntKind.u32 1994146192, Value.int IntKind.u32 1802195444, Value.int IntKind.u32 1303535960, Value.int IntKind.u32 1342533948, Value.int IntKind.u32 3988292384, Value.int IntKind.u32 4027552580, Value.int IntKind.u32 3604390888, Value.int IntKind.u32 3412177804, Value.int IntKind.u32 2607071920, Value.int IntKind.u32 2262029012, Value.int IntKind.u32 2685067896, Value.int IntKind.u32 3183342108] := by rfl
theorem tabCells_at (k : Nat) (h : k < 16) : (tabCells k)[k]? = some (.int .u32 0) := by
  have e : (tbl.take k ++ List.replicate (16 - k) 0)[k]? = some 0 := (by decide : ∀ k, k < 16 → (tbl.take k ++ List.replicate (16 - k) 0)[k]? = some 0) k h
  unfold tabCells
  rw [List.getElem?_toArray, List.getElem?_map, e]; rfl
theorem tabCells_step (k : Nat) (h : k < 16) : (tabCells k).setIfInBounds k (V32 (iter st 4 k)) = tabCells (k + 1) := by
  have e : (tbl.take k ++ List.replicate (16 - k) 0).set k (iter st 4 k) = tbl.take (k + 1) ++ List.replicate (16 - (k + 1)) 0 := (by decide : ∀ k, k < 16 → (tbl.take k ++ List.replicate (16 - k) 0).set k (iter st 4 k) = tbl.take (k + 1) ++ List.replicate (16 - (k + 1)) 0) k h
  unfold tabCells
  rw [← e, List.map_set]; simp
set_option maxHeartbeats 400000 in
theorem table_any (w : World) :
    Calls Try.prog 91 #[] w fun e w' => e = .returned (.agg (tabCells 16)) ∧ Below w.heap.size w w' := by
  go_enter Try.func91, Try.ntmps91
  go_wp2
  go_loopw [2,3,4,5,6,7,8] (fun t2 t3 t4 t5 t6 t7 t8 wr => ∃ k : Nat, k ≤ 16 ∧ t4 = .int .i64 k ∧ wr = (w.alloc (Obj.cells (tabCells 0) 136)).alloc (Obj.cells (tabCells k) 136)) (fun t2 t3 t4 t5 t6 t7 t8 wr => 16 - (intOf t4).toNat)
  case atStart => 
    exact ⟨0, by omega, rfl, by simp only [tabCells_zero]⟩
  case round =>
    obtain ⟨k, hk, rfl, rfl⟩ := hrel
    by_cases hlt : k < 16
    · have hcell := tabCells_at k hlt
      go_wp2
      go_loop [3,9,10,11,12,13,14,15,16,17,18,19] (fun t3 t9 t10 t11 t12 t13 t14 t15 t16 t17 t18 t19 => ∃ j : Nat, j ≤ 4 ∧ t9 = .int .i64 j ∧ t3 = V32 (iter st j k)) (fun t3 t9 t10 t11 t12 t13 t14 t15 t16 t17 t18 t19 => 4 - (intOf t9).toNat)
      case atStart => exact ⟨0, by omega, rfl, rfl⟩
      case round => 
        obtain ⟨j, hj, rfl, rfl⟩ := hrel
        have h0 : iter st j k < 4294967296 := iter_lt j (by omega)
        have h1 : iter st (j + 1) k = st (iter st j k) := rfl
        have H1 := hid h1; clear h1
        generalize hn : iter st j k = n at *
        have Hn := hid hn; clear hn
        unfold V32
        by_cases hltj : j < 4
        · have hb : bits BinOp.and IntKind.u32 (n : Int) 1 = ((n % 2 : Nat) : Int) := by rw [show (1 : Int) = ((1 : Nat) : Int) from rfl, u32_and_nat _ _ h0 (by omega), nat_mask1]
          have hx : bits BinOp.xor IntKind.u32 (n / 2) 3988292384 = ((n / 2 ^^^ 3988292384 : Nat) : Int) := by rw [show (3988292384 : Int) = ((3988292384 : Nat) : Int) from rfl, show (n : Int) / 2 = ((n / 2 : Nat) : Int) from rfl, u32_xor_nat _ _ (by omega) (by omega)]
          have HB := hid hb; clear hb
          have HX := hid hx; clear hx
          go_wp2
          · go_round
            case rel => 
              refine ⟨j + 1, by omega, by go_num, ?_⟩
              have hb1 : (bits BinOp.and IntKind.u32 (n : Int) 1 == 1) = true := by assumption
              rw [HB.out] at hb1
              rw [H1.out, HX.out]; unfold st; rw [if_pos (by simp at hb1; omega)]
            case measure => simp [intOf]; omega
          · go_round
            case rel => 
              refine ⟨j + 1, by omega, by go_num, ?_⟩
              have hb1 : (bits BinOp.and IntKind.u32 (n : Int) 1 == 1) = false := by assumption
              rw [HB.out] at hb1
              rw [H1.out]; unfold st; rw [if_neg (by simp at hb1; omega)]; rfl
            case measure => simp [intOf]; omega
        · go_wp2
          have hstep := tabCells_step k hlt
          rw [show (4 : Nat) = j by omega, Hn.out] at hstep
          go_roundw
          case rel => 
              refine ⟨k + 1, by omega, by go_num, ?_⟩
              rw [← hstep]; rfl
          case measure => simp [intOf]; omega
    · obtain rfl : k = 16 := by omega
      have hw1 := heap_alloc2_new w (Obj.cells (tabCells 0) 136) (Obj.cells (tabCells 16) 136)
      have hw0 := heap_alloc2_old w (Obj.cells (tabCells 0) 136) (Obj.cells (tabCells 16) 136)
      have hb : Below w.heap.size w ((w.alloc (Obj.cells (tabCells 0) 136)).alloc (Obj.cells (tabCells 16) 136)) := ((Below.refl _ _).alloc (Nat.le_refl _) _).alloc (by simp) _
      generalize (w.alloc (Obj.cells (tabCells 0) 136)).alloc (Obj.cells (tabCells 16) 136) = W at *
      have H1 := hid hw1
      have H0 := hid hw0
      clear hw1 hw0
      go_wp2_with (first | (refine wpList_load_row rfl 136 (.tmp 1) rfl (w.heap.size + 1) rfl 136 (tabCells 16) (0, 0) _ H1.out Try.underlying136 rfl (by kernel_rfl) ?_) | (refine wpList_store_row rfl 136 (.tmp 0) (.tmp 24) rfl w.heap.size (tabCells 16) rfl rfl 136 (tabCells 0) H0.out (by kernel_rfl) rfl (by kernel_rfl) ?_))
      refine bodyPost_ret (results_cell_row rfl _ _ w.heap.size 136 (tabCells 16) (0, 0) _ rfl (setRow_heap _ _ _ _ _ _ H0.out) Try.underlying136 rfl (by kernel_rfl)) rfl ⟨rfl, ?_⟩
      exact hb.trans ⟨rfl, rfl, rfl, by simp, fun k hk => by simp [World.setRow, Array.getElem?_modify]; omega⟩
end Go.Proofs.Ytjjmhmbmjpedkaa
