/- The law of shares, walked. -/
import Derived.Test.YtlgdapgocbmcfaaShareWalk
namespace Go.Proofs.Ytlgdapgocbmcfaa
open Go.RowKit
set_option maxRecDepth 100000 in
set_option maxHeartbeats 4000000 in
theorem lShares_walk (t : Int) (a : Option Addr) (ca : Nat) (zl : List Int) (w : World) (ht : -9223372036854775808 ≤ t ∧ t ≤ 9223372036854775807) (hla : zl.length ≤ ca) (hra : RowAt w a (zl.map iV)) (hin : ints zl) :
    Calls Try.prog 14 #[.int .i64 t, .slice a zl.length ca] w fun e w' => e = .returned (.bool true) ∧ Below w.heap.size w w' := by
  have ma : min (zl.length : Int) 30 = ((zl.take 30).length : Int) := min_takeI zl 30
  have ra : RowAt w a ((zl.take 30).map iV) := by rw [List.map_take]; exact hra.take 30
  have ri : ints (zl.take 30) := fun z hz => hin z (List.mem_of_mem_take hz)
  have la : (zl.take 30).length ≤ ca ∧ (zl.take 30).length ≤ 30 := by rw [List.length_take]; omega
  generalize zl.take 30 = zs at *
  have RA := Box.mk ra; have RI := Box.mk ri; have HT := Box.mk ht
  clear ra ri hra hla hin ht
  obtain ⟨la, la5⟩ := la
  have qa0 : (0 : Int) ≤ (zs.length : Int) := by omega
  have qa1 : (zs.length : Int) ≤ (ca : Int) := by omega
  have LA := Box.mk la5
  obtain ⟨i0, hi, hz0, hz1, hz2⟩ := info_parts Try.infoInt
  have Hi := Box.mk hi; clear hi
  have Hz0 := Box.mk hz0; clear hz0
  have Hz1 := Box.mk hz1; clear hz1
  have Hz2 := Box.mk hz2; clear hz2
  have hs0 := fun W a c (h : RowAt W a (zs.map iV)) => Src.ofRow (P := Try.prog) (tx := 22) (w := W) Try.underlying22 a c (zs.map iV) h one_iV
  simp only [List.length_map] at hs0
  have HS := Box.mk hs0; clear hs0
  have M1 := Box.mk (show 0 + zs.length ≤ maxLen by unfold maxLen; omega)
  have M2 := Box.mk (show (0 + zs.length) * 8 ≤ 140737488355328 by omega)
  clear la5 la
  go_enter Try.func14, Try.ntmps14
  go_wp2_with (refine wpList_app rfl (.tmp 12) (.tmp 17) 22 22 rfl i0 _ 8 Try.underlying22 Hi.out Hz0.out Hz1.out Hz2.out rfl rfl (Own.fresh0 (w := w) (Nat.le_refl _)) _ rfl zs.length (zs.map iV) (HS.out _ a ca (RA.out.alloc _)) M1.out M2.out ?_ ?_)
  · simp
  intro v1 w1 ho1 hg1 hn1
  obtain ⟨a1, c1, rfl⟩ := ho1.isSlice
  have B1 := Box.mk ((Below_one (.cells #[] 3)).grown hg1 (by simp) (fun g hg => by have h3 : w.heap.size = g := Option.some.inj hg; omega))
  have R1 := Box.mk ho1.row
  clear ho1 hg1 hn1 ma
  go_wp2_with (refine wpList_app rfl (.tmp 19) (.tmp 20) 22 22 rfl i0 _ 8 Try.underlying22 Hi.out Hz0.out Hz1.out Hz2.out rfl rfl (Own.fresh0 (w := w1) (Nat.le_refl _)) _ rfl zs.length (zs.map iV) (HS.out _ a1 c1 (R1.out.alloc _)) M1.out M2.out ?_ ?_)
  · simp
  intro v2 w2 ho2 hg2 hn2
  obtain ⟨a2, c2, rfl⟩ := ho2.isSlice
  have B12 := Box.mk ((Below_one (.cells #[] 3)).grown hg2 (by simp) (fun g hg => by have h3 : w1.heap.size = g := Option.some.inj hg; omega))
  have B2 := Box.mk (B1.out.trans (B12.out.mono B1.out.size))
  have R2 := Box.mk ho2.row
  have R12 := Box.mk (R1.out.below B12.out (Nat.le_refl _))
  clear ho2 hg2 hn2 R1 B12
  by_cases hok : shareOk t zs
  · have HOK := Box.mk hok; clear hok
    go_wp2_with fail
    refine (aShare_yes t HT.out.2 a1 c1 zs w2 RI.out (by have := LA.out; omega) R12.out HOK.out).mono ?_
    rintro e W3 ⟨v3, rfl, ho3, hb3⟩
    obtain ⟨a3, c3, rfl⟩ := ho3.isSlice
    have R3 := Box.mk ho3.row
    have B3 := Box.mk (B2.out.trans (hb3.mono B2.out.size))
    have R13 := Box.mk (R12.out.below hb3 (Nat.le_refl _))
    have R23 := Box.mk (R2.out.below hb3 (Nat.le_refl _))
    clear hb3 ho3 R12 R2
    go_wp2_with fail
    refine (rShare_yes t HT.out.2 a2 c2 zs W3 RI.out (by have := LA.out; omega) R23.out HOK.out).mono ?_
    rintro e W4 ⟨v4, rfl, ho4, hb4⟩
    obtain ⟨a4, c4, rfl⟩ := ho4.isSlice
    have R4 := Box.mk ho4.row
    have B4 := Box.mk (B3.out.trans (hb4.mono B3.out.size))
    have R14 := Box.mk (R13.out.below hb4 (Nat.le_refl _))
    have R24 := Box.mk (R23.out.below hb4 (Nat.le_refl _))
    have R34 := Box.mk (R3.out.below hb4 (Nat.le_refl _))
    clear hb4 ho4 R13 R23 R3
    have hlen := share_len t zs
    have HI3 := Box.mk (share_ints HOK.out HT.out.2)
    have HSUM := Box.mk (show fitV (total (shareL t zs)) = .tuple #[.int .i64 t, .bool true] by rw [total_sum, share_sum HOK.out]; exact fitV_yes HT.out.1 HT.out.2)
    generalize shareL t zs = ys at *
    have CS := rSame_any a3 a4 c3 c4 ys
    have CT := aSum_any a3 c3 ys
    simp only [hlen] at CS CT
    have HCS := Box.mk CS; have HCT := Box.mk CT
    have LY : Box (zs.length ≤ 1000000) := ⟨by have := LA.out; omega⟩
    clear hlen CS CT
    go_wp2_with fail
    refine (sums1_any _).mono ?_
    rintro e W ⟨rfl, rfl⟩
    go_wp2_with fail
    refine (HCS.out _ LY.out R34.out R4.out).mono ?_
    rintro e W5 ⟨rfl, hb5⟩
    have B5 := Box.mk (B4.out.trans (hb5.mono B4.out.size))
    have R15 := Box.mk (R14.out.below hb5 (Nat.le_refl _))
    have R25 := Box.mk (R24.out.below hb5 (Nat.le_refl _))
    have R35 := Box.mk (R34.out.below hb5 (Nat.le_refl _))
    clear hb5 R14 R24 R34 R4
    go_wp2_with fail
    refine (rSame_any a1 a2 c1 c2 zs _ (by have := LA.out; omega) R15.out R25.out).mono ?_
    rintro e W6 ⟨rfl, hb6⟩
    have B6 := Box.mk (B5.out.trans (hb6.mono B5.out.size))
    have R36 := Box.mk (R35.out.below hb6 (Nat.le_refl _))
    clear hb6 R15 R25 R35
    go_wp2_with fail
    refine (HCT.out _ _ HSUM.out.symm HI3.out LY.out R36.out).mono ?_
    rintro e W7 ⟨rfl, rfl⟩
    go_wp2
    go_ret
    exact ⟨by simp, B6.out⟩
  · have HOK := Box.mk hok; clear hok
    go_wp2_with fail
    refine (aShare_no t a1 c1 zs w2 RI.out (by have := LA.out; omega) R12.out HOK.out).mono ?_
    rintro e W ⟨rfl, rfl⟩
    go_wp2_with fail
    refine (rShare_no t a2 c2 zs _ RI.out (by have := LA.out; omega) R2.out HOK.out).mono ?_
    rintro e W4 ⟨rfl, hb4⟩
    have B4 := Box.mk (B2.out.trans (hb4.mono B2.out.size))
    have R14 := Box.mk (R12.out.below hb4 (Nat.le_refl _))
    have R24 := Box.mk (R2.out.below hb4 (Nat.le_refl _))
    clear hb4 R12 R2
    go_wp2_with fail
    refine (sums1_any _).mono ?_
    rintro e W ⟨rfl, rfl⟩
    go_wp2_with fail
    refine (rSame_any none none 0 0 [] _ (by simp) (.inl rfl) (.inl rfl)).mono ?_
    rintro e W5 ⟨rfl, hb5⟩
    have B5 := Box.mk (B4.out.trans (hb5.mono B4.out.size))
    have R15 := Box.mk (R14.out.below hb5 (Nat.le_refl _))
    have R25 := Box.mk (R24.out.below hb5 (Nat.le_refl _))
    clear hb5 R14 R24
    go_wp2_with fail
    refine (rSame_any a1 a2 c1 c2 zs _ (by have := LA.out; omega) R15.out R25.out).mono ?_
    rintro e W6 ⟨rfl, hb6⟩
    have B6 := Box.mk (B5.out.trans (hb6.mono B5.out.size))
    clear hb6 R15 R25
    go_wp2_with fail
    refine (aSum_any none 0 [] _ (.tuple #[.int .i64 0, .bool true]) (by rw [total_sum]; exact (fitV_yes (z := 0) (by omega) (by omega)).symm) (fun _ h => by cases h) (by simp) (.inl rfl)).mono ?_
    rintro e W7 ⟨rfl, rfl⟩
    go_wp2
    go_ret
    exact ⟨by simp, B6.out⟩
end Go.Proofs.Ytlgdapgocbmcfaa
