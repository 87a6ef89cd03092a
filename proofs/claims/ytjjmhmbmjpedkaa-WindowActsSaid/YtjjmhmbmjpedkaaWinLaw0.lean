/- Is one that is too old stale? (windows), walked. -/
import Derived.Test.YtjjmhmbmjpedkaaWinKeep
namespace Go.Proofs.Ytjjmhmbmjpedkaa
open Go.RowKit
/-- A window behind so many Keeps of the numbers from 0 on. -/
def rowWin (m : Int) (f : Nat → List UInt8) : Nat → Win
  | 0 => ⟨m, true, -1, []⟩
  | n + 1 => ((rowWin m f n).keep n [UInt8.ofNat n] (f n)).2
theorem win3_keep : ∀ i, i < 3 → (rowWin 2 (fun _ => [9]) i).keep i [UInt8.ofNat i] [9] = (0, rowWin 2 (fun _ => [9]) (i + 1))
  | 0, _ => by rfl
  | 1, _ => by rfl
  | 2, _ => by rfl
theorem win3_a : (rowWin 2 (fun _ => [9]) 3).look 0 [0] = ([], 13) := by rfl
theorem win3_b : (rowWin 2 (fun _ => [9]) 3).look 2 [0] = ([], 14) := by rfl
theorem win3_c : (rowWin 2 (fun _ => [9]) 3).look 2 [2] = ([9], 0) := by rfl
theorem win3_d : (rowWin 2 (fun _ => [9]) 3).ents.length = 2 := by rfl
theorem one_row {w : World} {g : Nat} (b : UInt8) (h : w.heap[g]? = some (.cells #[bV b] 5 (0, 0))) : RowAt w (some ⟨g, 0, none⟩) ([b].map bV) := RowAt.ofWhole (vs := [bV b]) h
set_option maxRecDepth 100000 in
set_option maxHeartbeats 8000000 in
theorem windows_any (w : World) : Calls Try.prog 14 #[] w fun e w' => e = .returned (.bool true) ∧ Below w.heap.size w w' := by
  go_enter Try.func14, Try.ntmps14
  go_wp2_with fail
  refine (wNew_any 2 true w (by decide) (by decide)).mono ?_
  rintro e w1 ⟨rfl, hw1, hb1⟩
  obtain ⟨p, hp⟩ : ∃ p, p = w.heap.size := ⟨_, rfl⟩
  rw [← hp] at hw1 ⊢
  have HP := Bx.mk hp; have H1 := Bx.mk hw1; have B1 := Bx.mk hb1
  clear hp hw1 hb1
  go_upto_block 0 with fail
  go_cut [] (fun wx => ∃ L, WinAt wx L p (rowWin 2 (fun _ => [9]) 3) ∧ Below w.heap.size w wx)
  case first =>
    go_wp2_with fail
    go_loopw [3,20,21,22,23,24,25,26,27,28,29,30,31] (fun t3 _ _ _ _ _ _ _ _ _ _ _ _ wr => ∃ (i : Nat) (L : List Nat), i ≤ 3 ∧ t3 = .int .i64 i ∧ WinAt wr L p (rowWin 2 (fun _ => [9]) i) ∧ Below w.heap.size w wr ∧ From w.heap.size L) (fun t3 _ _ _ _ _ _ _ _ _ _ _ _ _ => 3 - (intOf t3).toNat)
    case atStart => exact ⟨0, [p], by omega, rfl, H1.out, B1.out, fun k hk => by rw [List.mem_singleton] at hk; rw [hk, HP.out]; exact Nat.le_refl _⟩
    case round =>
      obtain ⟨i, L, hi, rfl, hw, hb, hf⟩ := hrel
      have HW := Bx.mk hw; have HB := Bx.mk hb; have HF := Bx.mk hf
      clear hw hb hf
      by_cases hlt : i < 3
      · have hby := bV_nat i (by omega)
        have f1 : IntKind.u8.wrap (i : Int) = (i : Int) := by rw [IntKind.wrap_u8]; omega
        have HK := Bx.mk (win3_keep i hlt)
        have G0 := HW.out.under
        have hs : (wr.alloc (.cells #[.int .u8 (i : Int)] 5)).heap.size = wr.heap.size + 1 := by simp
        have hrw : RowAt ((wr.alloc (.cells #[.int .u8 (i : Int)] 5)).alloc (.cells #[.int .u8 9] 5)) (some ⟨wr.heap.size, 0, none⟩) ([UInt8.ofNat i].map bV) := by
          rw [← hby]
          exact (one_row _ (al_new rfl)).alloc _
        have hrw2 : RowAt ((wr.alloc (.cells #[.int .u8 (i : Int)] 5)).alloc (.cells #[.int .u8 9] 5)) (some ⟨wr.heap.size + 1, 0, none⟩) ([9].map bV) := one_row 9 (al_new (by simp))
        have HR := Bx.mk hrw; have HR2 := Bx.mk hrw2
        have b2 : Below wr.heap.size wr ((wr.alloc (.cells #[.int .u8 (i : Int)] 5)).alloc (.cells #[.int .u8 9] 5)) := ((Below.refl _ _).alloc (Nat.le_refl _) _).alloc (by simp) _
        have HW2 := Bx.mk (HW.out.below b2); have B2 := Bx.mk b2
        clear hrw hrw2 b2 G0 hby hs
        go_wp2_with fail
        refine (wKeep_any p _ L i (some ⟨wr.heap.size, 0, none⟩) 1 [UInt8.ofNat i] (some ⟨wr.heap.size + 1, 0, none⟩) 1 [9] _ HW2.out HR.out HR2.out).mono ?_
        rw [HK.out]
        rintro r w2 ⟨rfl, L2, hw2, hf2, hg2⟩
        have HW3 := Bx.mk hw2
        have HB3 := Bx.mk (HB.out.trans ((B2.out.mono HB.out.size).trans (hf2.below HF.out (Nat.le_trans HB.out.size B2.out.size))))
        have HF3 := Bx.mk (hg2.from HF.out (Nat.le_trans HB.out.size B2.out.size))
        clear hw2 hf2 hg2
        go_wp2
        go_roundw
        case rel => exact ⟨i + 1, L2, by omega, by go_num, HW3.out, HB3.out, HF3.out⟩
        case measure => simp [intOf]; omega
      · obtain rfl : i = 3 := by omega
        go_wp2
        go_meet
        case rel => exact ⟨L, HW.out, HB.out⟩
  case rest =>
    obtain ⟨L, hw, hb⟩ := hcut
    have HW := Bx.mk hw; have HB := Bx.mk hb
    clear hw hb
    have step : ∀ (wx : World), WinAt wx L p (rowWin 2 (fun _ => [9]) 3) → ∀ (n : Int) (b : UInt8), Bx (Calls Try.prog 16 #[.pointer (some ⟨p, 0, none⟩), .int .i64 n, .slice (some ⟨wx.heap.size, 0, none⟩) 1 1] (wx.alloc (.cells #[bV b] 5)) fun e w' => ∃ v, e = .returned (.tuple #[v, .int .i64 ((rowWin 2 (fun _ => [9]) 3).look n [b]).2]) ∧ Own w' wx.heap.size 5 1 v ((rowWin 2 (fun _ => [9]) 3).look n [b]).1.length (((rowWin 2 (fun _ => [9]) 3).look n [b]).1.map bV) ∧ Below wx.heap.size wx w') := fun wx h n b => ⟨(wLook_any p _ L n (some ⟨wx.heap.size, 0, none⟩) 1 [b] _ (h.below (Below_one _)) (one_row b (al_new rfl))).mono fun e w' ⟨v, h1, h2, h3⟩ => ⟨v, h1, h2.base_le fun k hk => by have := (h2.lt k hk).1; simp at this; omega, (Below_one _).trans (h3.mono (by simp))⟩⟩
    go_wp2_with fail
    refine (step wc HW.out 0 0).out.mono ?_
    rw [win3_a]
    rintro r w2 ⟨v1, rfl, _, hb2⟩
    have HW2 := Bx.mk (HW.out.below hb2); have HB2 := Bx.mk (HB.out.trans (hb2.mono HB.out.size))
    clear hb2
    go_wp2_with fail
    refine (step w2 HW2.out 2 0).out.mono ?_
    rw [win3_b]
    rintro r w3 ⟨v2, rfl, _, hb3⟩
    have HW3 := Bx.mk (HW2.out.below hb3); have HB3 := Bx.mk (HB2.out.trans (hb3.mono HB2.out.size))
    clear hb3
    go_wp2_with fail
    refine (step w3 HW3.out 2 2).out.mono ?_
    rw [win3_c]
    rintro r w4 ⟨v3, rfl, ho4, hb4⟩
    have HW4 := Bx.mk (HW3.out.below hb4); have HB4 := Bx.mk (HB3.out.trans (hb4.mono HB3.out.size))
    obtain ⟨a4, c4, rfl⟩ := ho4.isSlice
    have k1 : (convert 30 9 (.slice a4 1 c4)).run Try.prog w4 = .ok (.string ⟨#[9]⟩) w4 := conv_str (P := Try.prog) 30 9 Try.underlying30 Try.underlying5 Try.underlying9 w4 a4 c4 [9] ho4.row
    clear hb4 ho4
    go_wp2_with fail
    refine (wLen_any p _ L w4 HW4.out).mono ?_
    rw [win3_d]
    rintro r w5 ⟨rfl, rfl⟩
    go_wp2
    go_ret
    exact ⟨rfl, HB4.out⟩
end Go.Proofs.Ytjjmhmbmjpedkaa
