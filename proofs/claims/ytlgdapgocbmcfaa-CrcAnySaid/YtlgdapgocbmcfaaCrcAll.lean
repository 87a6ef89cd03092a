/- All parts behind each other, as a string; few parts. -/
import Derived.Test.YtlgdapgocbmcfaaCrcMore
import Derived.Test.YtlgdapgocbmcfaaLibOwn
namespace Go.Proofs.Ytlgdapgocbmcfaa
open Go.RowKit
theorem Try.infoU8 : (Try.prog.info? 5).map (fun i => (i.zero, i.size, i.bytes)) = some (some (.int .u8 0), 1, 1) := by kernel_rfl
theorem take_flat (ps : List (List UInt8)) (k : Nat) (h : k < ps.length) : (ps.take (k + 1)).flatten = (ps.take k).flatten ++ ps[k] := by
  rw [List.take_succ_eq_append_getElem h, List.flatten_append]; simp
theorem take_flat_le (ps : List (List UInt8)) (k : Nat) : (ps.take k).flatten.length ≤ ps.flatten.length := by
  conv => rhs; rw [← List.take_append_drop k ps]
  rw [List.flatten_append, List.length_append]; omega
set_option maxHeartbeats 400000 in
theorem rall_any (a : Option Addr) (cap : Nat) (ps : List (List UInt8)) (w : World) (hl : ps.length ≤ maxLen) (hb : ps.flatten.length ≤ 140737488355328) (hr : PartsAt w a ps) :
    Calls Try.prog 20 #[.slice a ps.length cap] w fun e w' => e = .returned (.string (strOf ps.flatten)) ∧ Below w.heap.size w w' := by
  unfold maxLen at hl
  have HR := hid hr; clear hr
  go_enter Try.func20, Try.ntmps20
  go_wp2
  go_loopw [3,4,5,6,7,8,9,10,11,12,13,14,15,16] (fun t3 t4 _ _ _ _ _ _ _ _ _ _ _ _ wr => ∃ k : Nat, k ≤ ps.length ∧ t4 = .int .i64 k ∧ Own wr w.heap.size 5 1 t3 (ps.take k).flatten.length ((ps.take k).flatten.map bV) ∧ Below w.heap.size w wr) (fun t3 t4 _ _ _ _ _ _ _ _ _ _ _ _ wr => ps.length - (intOf t4).toNat)
  case atStart => exact ⟨0, by omega, rfl, Own.nil _ _ _ _, Below.refl _ _⟩
  case round =>
    obtain ⟨k, hk, rfl, ho, hbw⟩ := hrel
    by_cases hlt : k < ps.length
    · obtain ⟨b, off, v, c, rfl, hc, hr, hvc, hm⟩ := (HR.out.below hbw (Nat.le_refl _)).part hlt
      have hsn := take_flat ps k hlt
      have hle := take_flat_le ps (k + 1)
      rw [hsn, List.length_append] at hle
      have Hs := hid hsn; clear hsn
      generalize (ps.take k).flatten = qs at *
      generalize ps[k] = p at *
      have HP := hid hr; clear hr
      have HB := hid hbw; clear hbw
      have HO := hid ho; clear ho
      obtain ⟨i0, hi, hz0, hz1, hz2⟩ := info_parts Try.infoU8
      have Hi := hid hi; clear hi
      have Hz0 := hid hz0; clear hz0
      have Hz1 := hid hz1; clear hz1
      have Hz2 := hid hz2; clear hz2
      have hs0 := Src.ofRow (P := Try.prog) (tx := 36) Try.underlying36 v c (p.map bV) HP.out one_bV
      rw [List.length_map] at hs0
      have HS := hid hs0; clear hs0
      have HBS := hid HB.out.size
      go_wp2_with (refine wpList_app rfl (.tmp 11) (.tmp 15) 36 36 rfl i0 _ 1 Try.underlying36 Hi.out Hz0.out Hz1.out Hz2.out rfl rfl HO.out _ rfl p.length (p.map bV) HS.out ?_ ?_ HBS.out ?_)
      · unfold maxLen; omega
      · omega
      intro v' w' ho' hg' _
      have HO' := hid ho'; clear ho'
      have HB' := hid (HB.out.grown hg' HB.out.size (fun k hk => (HO.out.lt k hk).1)); clear hg'
      go_wp2
      go_roundw
      case rel => exact ⟨k + 1, by omega, by go_num, by rw [Hs.out, List.length_append, List.map_append]; exact HO'.out, HB'.out⟩
      case measure => simp [intOf]; omega
    · obtain rfl : k = ps.length := by omega
      rw [List.take_length] at ho
      obtain ⟨a', cap', rfl, hra, hln⟩ := ho.row1
      clear hln
      generalize hq : ps.flatten = q at *
      have Hq := hid hq; clear hq
      have hcs := conv_str (P := Try.prog) 36 9 Try.underlying36 Try.underlying5 Try.underlying9 wr a' cap' q hra
      have HB := hid hbw; clear hbw ho hra
      have HB2 := hid hb; clear hb
      go_wp2_with fail
      go_ret
      exact ⟨by rw [Hq.out]; rfl, HB.out⟩
end Go.Proofs.Ytlgdapgocbmcfaa
