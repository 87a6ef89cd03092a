/- The law of sums, walked. -/
import Derived.Test.YtlgdapgocbmcfaaBigSum
namespace Go.Proofs.Ytlgdapgocbmcfaa
open Go.RowKit
theorem Try.infoInt : (Try.prog.info? 3).map (fun i => (i.zero, i.size, i.bytes)) = some (some (.int .i64 0), 1, 8) := by kernel_rfl
set_option maxRecDepth 100000 in
set_option maxHeartbeats 2000000 in
theorem lSums_walk (a : Option Addr) (ca : Nat) (zl : List Int) (w : World) (hla : zl.length ≤ ca) (hra : RowAt w a (zl.map iV)) (hin : ints zl) :
    Calls Try.prog 3 #[.slice a zl.length ca] w fun e w' => e = .returned (.bool true) ∧ Below w.heap.size w w' := by
  have ma : min (zl.length : Int) 100 = ((zl.take 100).length : Int) := min_takeI zl 100
  have ra : RowAt w a ((zl.take 100).map iV) := by rw [List.map_take]; exact hra.take 100
  have ri : ints (zl.take 100) := fun z hz => hin z (List.mem_of_mem_take hz)
  have la : (zl.take 100).length ≤ ca ∧ (zl.take 100).length ≤ 100 := by rw [List.length_take]; omega
  generalize zl.take 100 = zs at *
  have RA := hid ra; have RI := hid ri
  clear ra ri hra hla hin
  obtain ⟨la, la5⟩ := la
  have qa0 : (0 : Int) ≤ (zs.length : Int) := by omega
  have qa1 : (zs.length : Int) ≤ (ca : Int) := by omega
  have LA := hid la5
  obtain ⟨i0, hi, hz0, hz1, hz2⟩ := info_parts Try.infoInt
  have Hi := hid hi; clear hi
  have Hz0 := hid hz0; clear hz0
  have Hz1 := hid hz1; clear hz1
  have Hz2 := hid hz2; clear hz2
  have hs0 := fun W a c (h : RowAt W a (zs.map iV)) => Src.ofRow (P := Try.prog) (tx := 22) (w := W) Try.underlying22 a c (zs.map iV) h one_iV
  simp only [List.length_map] at hs0
  have HS := hid hs0; clear hs0
  have M1 := hid (show 0 + zs.length ≤ maxLen by unfold maxLen; omega)
  have M2 := hid (show (0 + zs.length) * 8 ≤ 140737488355328 by omega)
  obtain ⟨x, o, hf⟩ : ∃ x o, fitV (total zs) = .tuple #[.int .i64 x, .bool o] := ⟨_, _, rfl⟩
  have HF := hid hf
  clear la5 la hf
  go_enter Try.func3, Try.ntmps3
  go_wp2_with (refine wpList_app rfl (.tmp 8) (.tmp 13) 22 22 rfl i0 _ 8 Try.underlying22 Hi.out Hz0.out Hz1.out Hz2.out rfl rfl (Own.fresh0 (w := w) (Nat.le_refl _)) _ rfl zs.length (zs.map iV) (HS.out _ a ca (RA.out.alloc _)) M1.out M2.out ?_ ?_)
  · simp
  intro v1 w1 ho1 hg1 hn1
  obtain ⟨a1, c1, rfl⟩ := ho1.isSlice
  have B1 := hid ((Below_one (.cells #[] 3)).grown hg1 (by simp) (fun g hg => by have h3 : w.heap.size = g := Option.some.inj hg; omega))
  have R1 := hid ho1.row
  clear ho1 hg1 hn1 ma
  go_wp2_with (refine wpList_app rfl (.tmp 15) (.tmp 16) 22 22 rfl i0 _ 8 Try.underlying22 Hi.out Hz0.out Hz1.out Hz2.out rfl rfl (Own.fresh0 (w := w1) (Nat.le_refl _)) _ rfl zs.length (zs.map iV) (HS.out _ a1 c1 (R1.out.alloc _)) M1.out M2.out ?_ ?_)
  · simp
  intro v2 w2 ho2 hg2 hn2
  obtain ⟨a2, c2, rfl⟩ := ho2.isSlice
  have B12 := hid ((Below_one (.cells #[] 3)).grown hg2 (by simp) (fun g hg => by have h3 : w1.heap.size = g := Option.some.inj hg; omega))
  have B2 := hid (B1.out.trans (B12.out.mono B1.out.size))
  have R2 := hid ho2.row
  have R12 := hid (R1.out.below B12.out (Nat.le_refl _))
  clear ho2 hg2 hn2
  go_wp2_with fail
  refine (aSum_any a1 c1 zs w2 _ rfl RI.out (by have := LA.out; omega) R12.out).mono ?_
  rintro e W ⟨rfl, rfl⟩
  rw [HF.out]
  go_wp2_with fail
  refine (rSum_any a1 c1 zs _ _ rfl RI.out (by have := LA.out; omega) R12.out).mono ?_
  rintro e W3 ⟨rfl, hb3⟩
  rw [HF.out]
  have B3 := hid (B2.out.trans (hb3.mono B2.out.size))
  have R13 := hid (R12.out.below hb3 (Nat.le_refl _))
  have R23 := hid (R2.out.below hb3 (Nat.le_refl _))
  clear hb3
  go_wp2_with fail
  refine (sums1_any _).mono ?_
  rintro e W4 ⟨rfl, rfl⟩
  go_wp2_with fail
  refine (rSame_any a1 a2 c1 c2 zs _ (by have := LA.out; omega) R13.out R23.out).mono ?_
  rintro e W5 ⟨rfl, hb5⟩
  have B5 := hid (B3.out.trans (hb5.mono B3.out.size))
  clear hb5
  go_wp2
  go_ret
  exact ⟨rfl, B5.out⟩
end Go.Proofs.Ytlgdapgocbmcfaa
