/- WindowKnown: what was kept is answered as before, as long as fewer came behind it than are kept. -/
import Derived.Test.YtjjmhmbmjpedkaaGWinLaw
import Derived.Test.YtjjmhmbmjpedkaaVcUse
import Derived.Test.YtjjmhmbmjpedkaaWinLaw0
import Derived.Test.YtjjmhmbmjpedkaaWinRow
import Derived.Test.YtjjmhmbmjpedkaaCrcLaws
namespace Go.Proofs.Ytjjmhmbmjpedkaa
open Go.RowKit
def ans50 (ps : List (List UInt8)) (i : Nat) : List UInt8 := (ps.getD i []).take 50
theorem ans50_eq {ps : List (List UInt8)} {i : Nat} (h : i < ps.length) : ans50 ps i = ps[i].take 50 := by unfold ans50; rw [List.getD_eq_getElem?_getD, List.getElem?_eq_getElem h]; rfl
theorem ans50_len (ps : List (List UInt8)) (i : Nat) : (ans50 ps i).length ≤ 50 := by unfold ans50; rw [List.length_take]; omega
theorem take_toNat (bs : List UInt8) : (min ((bs.length : Nat) : Int) 50).toNat = (bs.take 50).length := by rw [List.length_take]; omega
theorem lKnown_walk (z : Int) (a : Option Addr) (ca : Nat) (ps : List (List UInt8)) (t : Int) (w : World) (hl : ps.length ≤ maxLen) (ht : -9223372036854775808 ≤ t ∧ t ≤ 9223372036854775807) (hr : PartsAt w a ps) :
    Calls Try.prog 3 #[.int .i64 z, .slice a ps.length ca, .int .i64 t] w fun e w' => e = .returned (.bool true) ∧ Below w.heap.size w w' := by
  refine (GWinLaw.lKnown_calls z a ps.length ca t w (fun v w' => v = .bool true ∧ Below w.heap.size w w') ?_).mono (by rintro e w' ⟨v, rfl, rfl, hb⟩; exact ⟨rfl, hb⟩)
  unfold GWinLaw.lKnown_vc
  obtain ⟨m0, hm0, hm⟩ := u64_mod z 8 (by decide)
  have hmost : IntKind.i64.wrap (1 + IntKind.i64.wrap (Int.tmod (IntKind.u64.wrap z) 8)) = ((m0 + 1 : Nat) : Int) := by
    rw [show (8 : Int) = ((8 : Nat) : Int) from rfl, hm, wr64 (z := (m0 : Int)) (by omega) (by omega), wr64 (by omega) (by omega)]; omega
  obtain ⟨m, rfl⟩ : ∃ m, m = m0 + 1 := ⟨_, rfl⟩
  simp only [hmost]
  obtain ⟨N, hN⟩ : ∃ N, N = min ps.length 20 := ⟨_, rfl⟩
  have hNI : min ((ps.length : Nat) : Int) 20 = (N : Int) := by rw [hN]; omega
  simp only [hNI]
  generalize hm1 : m0 + 1 = m
  refine ⟨by decide, ?_⟩
  refine (wNew_any m true w (by omega) (by omega)).mono ?_
  rintro e w1 ⟨rfl, hw1, hb1⟩
  refine ⟨keepG_nil _ _, _, _, rfl, ?_⟩
  refine (windows_any w1).mono ?_
  rintro e w2 ⟨rfl, hb2⟩
  refine ⟨keepG_nil _ _, _, rfl, ?_⟩
  refine br_f rfl (br_n (by decide) ?_)
  have B2 := hb1.trans (hb2.mono hb1.size)
  have hK0 : (⟨m, true, -1, []⟩ : Win) = known m (ans50 ps) 0 := by simp [known, lastWin, upTo]
  refine ⟨fun x wx => ∃ (i : Nat) (L : List Nat), x = i ∧ i ≤ N ∧ WinAt wx L w.heap.size (known m (ans50 ps) i) ∧ Below w.heap.size w wx ∧ From w.heap.size L, fun x _ => N - x.toNat, ?_, ?_⟩
  · exact ⟨0, [w.heap.size], rfl, by omega, hK0 ▸ hw1.below (hb2.mono (Nat.le_refl _)), B2, fun k hk => by rw [List.mem_singleton] at hk; rw [hk]; exact Nat.le_refl _⟩
  rintro x w4 ⟨i, L, rfl, hi, hw, hb, hf⟩
  refine br_dec (fun hlt => ?_) fun hge => ?_
  · have hips : i < ps.length := by omega
    refine drewO_in fun w5 hb5 _ => ?_
    have W5 := hw.below hb5
    have B5 := hb.trans (hb5.mono hb.size)
    obtain ⟨b, off, v, c, rfl, hc, hv, hvl, _⟩ := (hr.below B5 (Nat.le_refl _)).part hips
    refine ⟨by omega, by omega, v, ps[i].length, c, by simpa using hc, by omega, by omega, v, ps[i].length, c, by simpa using hc, by omega, by omega, ?_⟩
    refine newO_in fun w6 h6 b6 s6 => ?_
    have c6 := (b6.cell (p := ⟨b, off + (i : Int).toNat * 1, none⟩) (by have := block_lt_of_cell hc; simpa using this)).trans (by simpa using hc)
    refine ⟨c6, c6, ?_⟩
    rw [take_toNat]
    have hby := bV_nat i (by omega)
    rw [wru8 (by omega) (by omega)] at h6
    refine (wKeep_any _ _ L i (some ⟨w5.heap.size, 0, none⟩) 1 [UInt8.ofNat i] v c (ps[i].take 50) w6 (W5.below b6) (by rw [← hby] at h6; exact one_row _ h6) ((slice_row hv 50).below b6 (Nat.le_refl _))).mono ?_
    rw [← ans50_eq hips, known_keep (by omega) (ans50 ps) i (by omega) (Nat.le_trans (ans50_len _ _) (by decide))]
    rintro e w7 ⟨rfl, L2, hw2, hf2, hg2⟩
    have hsz : w.heap.size ≤ w6.heap.size := Nat.le_trans B5.size b6.size
    refine ⟨keepG_nil _ _, _, rfl, br_n (by simp) ?_⟩
    rw [wr64 (by omega) (by omega)]
    exact ⟨⟨i + 1, L2, by omega, by omega, hw2, B5.trans ((b6.mono B5.size).trans (hf2.below hf hsz)), hg2.from hf hsz⟩, by dsimp only; omega⟩
  · obtain rfl : i = N := by omega
    refine ⟨fun x wx => ∃ j : Nat, x = j ∧ j ≤ i ∧ WinAt wx L w.heap.size (known m (ans50 ps) i) ∧ Below w.heap.size w wx, fun x _ => i - x.toNat, ⟨0, rfl, by omega, hw, hb⟩, ?_⟩
    rintro x w8 ⟨j, rfl, hj, hw8, hb8⟩
    refine br_dec (fun hlt => ?_) fun hge => ?_
    · have hips : j < ps.length := by omega
      refine newO_in fun w9 h9 b9 s9 => ?_
      rw [wru8 (by omega) (by omega), ← bV_nat j (by omega)] at h9
      refine (wLook_any _ _ L j (some ⟨w8.heap.size, 0, none⟩) 1 [UInt8.ofNat j] w9 (hw8.below b9) (one_row _ h9)).mono ?_
      rw [known_look (ans50 ps) i j (by omega) (by omega)]
      rintro e w10 ⟨v3, rfl, ho3, hb10⟩
      obtain ⟨a3, c3, rfl⟩ := ho3.isSlice
      refine ⟨keepG_nil _ _, _, _, _, _, rfl, ?_⟩
      refine drewO_in fun w11 hb11 e11 => ?_
      have B10 := hb8.trans ((b9.mono hb8.size).trans (hb10.mono (Nat.le_trans hb8.size b9.size)))
      have B11 := B10.trans (hb11.mono B10.size)
      have W11 := ((hw8.below b9).below hb10).below hb11
      have O11 := ho3.below hb11 (Nat.le_refl _)
      have hnext : (∃ j' : Nat, IntKind.i64.wrap ((j : Int) + 1) = j' ∧ j' ≤ i ∧ WinAt w11 L w.heap.size (known m (ans50 ps) i) ∧ Below w.heap.size w w11) ∧ i - (IntKind.i64.wrap ((j : Int) + 1)).toNat < i - (j : Int).toNat := by
        rw [wr64 (by omega) (by omega)]
        exact ⟨⟨j + 1, by omega, by omega, W11, B11⟩, by omega⟩
      have hwr : IntKind.i64.wrap ((i : Int) - (m : Int)) = (i : Int) - m := wr64 (by omega) (by omega)
      simp only [hwr]
      by_cases hin : i - m ≤ j
      · rw [if_pos hin] at O11 ⊢
        have R11 := O11.row
        obtain ⟨b, off, v, c, rfl, hc, hv, hvl, _⟩ := (hr.below B11 (Nat.le_refl _)).part hips
        refine br_y (by omega) (br_n (by simp) ⟨ans50 ps j, rfl, R11, by omega, by omega, v, ps[j].length, c, by simpa using hc, by omega, by omega, v, ps[j].length, c, by simpa using hc, by omega, by omega, ans50 ps j, ?_, ?_, br_n (by simp) (br_n (by omega) hnext)⟩)
        · rw [ans50_eq hips, take_toNat]
        · rw [ans50_eq hips]; exact slice_row hv 50
      · rw [if_neg hin] at O11 ⊢
        exact br_n (by omega) (br_y (by omega) (br_n (by simp) hnext))
    · refine (wLook_any _ _ L i none 0 [] w8 hw8 (.inl rfl)).mono ?_
      rintro e w12 ⟨v1, rfl, ho1, hb1⟩
      obtain ⟨a1, c1, rfl⟩ := ho1.isSlice
      refine ⟨keepG_nil _ _, _, _, _, _, rfl, ?_⟩
      have W12 := hw8.below hb1
      have B12 := hb8.trans (hb1.mono hb8.size)
      refine (wLook_any _ _ L t none 0 [] w12 W12 (.inl rfl)).mono ?_
      rintro e w13 ⟨v2, rfl, ho2, hb2⟩
      obtain ⟨a2, c2, rfl⟩ := ho2.isSlice
      have B13 := B12.trans (hb2.mono B12.size)
      refine ⟨keepG_nil _ _, _, _, _, _, rfl, ?_⟩
      rw [known_far (ans50 ps) i i [] (Int.le_refl _) (by omega), if_pos rfl]
      refine br_y rfl ?_
      refine br_dec (fun h1 => ⟨trivial, B13⟩) fun h1 => br_dec (fun h2 => ⟨trivial, B13⟩) fun h2 => ?_
      rw [known_far (ans50 ps) i t [] (by omega) (by omega), if_neg (by omega)]
      exact ⟨rfl, B13⟩
end Go.Proofs.Ytjjmhmbmjpedkaa
