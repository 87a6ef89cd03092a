/- The known text has its sum. -/
import Derived.Test.YtlgdapgocbmcfaaCrcMore
namespace Go.Proofs.Ytlgdapgocbmcfaa
open Go.RowKit
theorem known_sum : crcP 0 [[49, 50, 51, 52], [53, 54, 55, 56, 57]] = 3421780262 := by decide +kernel
set_option maxRecDepth 100000 in
set_option maxHeartbeats 400000 in
theorem sums2_any (w : World) :
    Calls Try.prog 21 #[] w fun e w' => e = .returned (.bool true) ∧ Below w.heap.size w w' := by
  have kc := conv_const (P := Try.prog) 36 5 Try.underlying36 Try.underlying5
  go_enter Try.func21, Try.ntmps21
  go_wp2_with fail
  clear kc
  have hb := ((Below_one (w := w) (.cells #[.int .u8 49, .int .u8 50, .int .u8 51, .int .u8 52] 5 (4, 5))).alloc (by simp) (.cells #[.int .u8 53, .int .u8 54, .int .u8 55, .int .u8 56, .int .u8 57] 5 (5, 6))).alloc (by simp; omega) (.cells #[.slice (some ⟨w.heap.size, 0, none⟩) 4 4, .slice (some ⟨w.heap.size + 1, 0, none⟩) 5 5] 36)
  refine (csum_any _ _ [[49, 50, 51, 52], [53, 54, 55, 56, 57]] _ (by decide) (.ofWhole [(some ⟨w.heap.size, 0, none⟩, 4), (some ⟨w.heap.size + 1, 0, none⟩, 5)] _ (al_new (by simp)) rfl
    (zip2 ⟨.ofWhole (al_old (al_old (al_new rfl))), Nat.le_refl _, by decide⟩ ⟨.ofWhole (al_old (al_new (by simp))), Nat.le_refl _, by decide⟩))).mono ?_
  rintro e W ⟨rfl, hw⟩
  rw [known_sum]
  have HB := hid (hb.trans (hw.mono (by simp; omega))); clear hb hw
  go_wp2_with fail
  go_ret
  exact ⟨rfl, HB.out⟩
end Go.Proofs.Ytlgdapgocbmcfaa
