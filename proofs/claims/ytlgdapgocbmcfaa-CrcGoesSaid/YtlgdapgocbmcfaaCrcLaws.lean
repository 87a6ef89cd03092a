/- The four laws of crc, walked. -/
import Derived.Test.YtlgdapgocbmcfaaCrcSums2
import Derived.Test.YtlgdapgocbmcfaaCrcRef
import Derived.Test.YtlgdapgocbmcfaaCrcFew
namespace Go.Proofs.Ytlgdapgocbmcfaa
open Go.RowKit
theorem few_length (ps : List (List UInt8)) (most size : Nat) : (few ps most size).length ≤ most := by unfold few; simp; omega
theorem few_flat (ps : List (List UInt8)) (most size : Nat) : (few ps most size).flatten.length ≤ most * size := by
  unfold few
  have h : ∀ l : List (List UInt8), ((l.map (·.take size)).flatten).length ≤ l.length * size := by
    intro l
    induction l with
    | nil => simp
    | cons x l ih => simp only [List.map_cons, List.flatten_cons, List.length_append, List.length_take, List.length_cons, Nat.add_mul]; omega
  refine Nat.le_trans (h _) (Nat.mul_le_mul_right _ ?_)
  simp; omega
set_option maxRecDepth 100000 in
set_option maxHeartbeats 400000 in
theorem lsums_walk (a : Option Addr) (cap : Nat) (ps : List (List UInt8)) (w : World) (hl : ps.length ≤ maxLen) (hr : PartsAt w a ps) :
    Calls Try.prog 4 #[.slice a ps.length cap] w fun e w' => e = .returned (.bool true) ∧ Below w.heap.size w w' := by
  have HR := hid hr; clear hr
  have HL := hid hl; clear hl
  go_enter Try.func4, Try.ntmps4
  go_wp2_with fail
  refine (rfew_any a cap 8 500 ps _ HL.out (by decide) (by decide) HR.out).mono ?_
  rintro e W1 ⟨a1, c1, rfl, hp1, hb1⟩
  have hq := few_length ps 8 500
  have hf := few_flat ps 8 500
  generalize few ps 8 500 = qs at *
  have HP := hid hp1; have HB := hid hb1; have HQ := hid hq; have HF := hid hf
  clear hp1 hb1 hq hf
  have HM := hid (show qs.length ≤ maxLen by have := HQ.out; unfold maxLen; omega)
  have HN := hid (show qs.flatten.length ≤ 140737488355328 by have := HF.out; omega)
  go_wp2_with fail
  refine (rall_any a1 c1 qs _ HM.out HN.out HP.out).mono ?_
  rintro e W2 ⟨rfl, hb2⟩
  have HP2 := hid (HP.out.below hb2 (Nat.le_refl _))
  have HB2 := hid (HB.out.trans (hb2.mono HB.out.size)); clear hb2
  go_wp2_with fail
  refine (sums2_any _).mono ?_
  rintro e W3 ⟨rfl, hb3⟩
  have HP3 := hid (HP2.out.below hb3 (Nat.le_refl _))
  have HB3 := hid (HB2.out.trans (hb3.mono HB2.out.size)); clear hb3
  go_wp2_with fail
  refine (csum_any a1 c1 qs _ HM.out HP3.out).mono ?_
  rintro e W4 ⟨rfl, hb4⟩
  have HP4 := hid (HP3.out.below hb4 (Nat.le_refl _))
  have HB4 := hid (HB3.out.trans (hb4.mono HB3.out.size)); clear hb4
  go_wp2_with fail
  refine (rsum_any (strOf qs.flatten) _ (by rw [strOf_size]; have := HF.out; unfold maxLen; omega)).mono ?_
  rintro e w' ⟨rfl, rfl⟩
  rw [strOf_list, crcP_join]
  generalize more 0 qs.flatten = m
  go_wp2_with fail
  refine (rall_any a1 c1 qs _ HM.out HN.out HP4.out).mono ?_
  rintro e W5 ⟨rfl, hb5⟩
  have HB5 := hid (HB4.out.trans (hb5.mono HB4.out.size)); clear hb5
  generalize strOf qs.flatten = s
  go_wp2_with fail
  go_ret
  exact ⟨rfl, HB5.out⟩
theorem slice_row {w : World} {a : Option Addr} {bs : List UInt8} (h : RowAt w a (bs.map bV)) (n : Nat) : RowAt w a ((bs.take n).map bV) := by rw [List.map_take]; exact h.take n
theorem parts1 {w : World} {a : Option Addr} {c : Nat} {xs : List UInt8} (E : TypeId) (hr : RowAt w a (xs.map bV)) (h1 : xs.length ≤ c) (h2 : xs.length ≤ 500) : PartsAt (w.alloc (.cells #[.slice a xs.length c] E)) (some ⟨w.heap.size, 0, none⟩) [xs] :=
  .ofWhole [(a, c)] _ (al_new rfl) rfl (zip1 ⟨hr.alloc _, h1, by unfold maxLen; omega⟩)
theorem parts2 {w : World} {a b : Option Addr} {c d : Nat} {xs ys : List UInt8} (E : TypeId) (hr : RowAt w a (xs.map bV)) (h1 : xs.length ≤ c) (h2 : xs.length ≤ 500) (hs : RowAt w b (ys.map bV)) (k1 : ys.length ≤ d) (k2 : ys.length ≤ 500) :
    PartsAt (w.alloc (.cells #[.slice a xs.length c, .slice b ys.length d] E)) (some ⟨w.heap.size, 0, none⟩) [xs, ys] :=
  .ofWhole [(a, c), (b, d)] _ (al_new rfl) rfl (zip2 ⟨hr.alloc _, h1, by unfold maxLen; omega⟩ ⟨hs.alloc _, k1, by unfold maxLen; omega⟩)
theorem len_one : ([([] : List UInt8)]).length ≤ maxLen := by decide
theorem len1 (xs : List UInt8) : [xs].length ≤ maxLen := by unfold maxLen; simp
theorem len2 (xs ys : List UInt8) : [xs, ys].length ≤ maxLen := by unfold maxLen; simp
theorem crcP_one (n : Nat) (a : List UInt8) : crcP n [a] = more n a := rfl
theorem crcP_two (n : Nat) (a b : List UInt8) : crcP n [a, b] = more (more n a) b := rfl
set_option maxRecDepth 100000 in
set_option maxHeartbeats 1000000 in
theorem lgoes_walk (a b : Option Addr) (ca cb' : Nat) (al bl : List UInt8) (w : World) (hla : al.length ≤ ca) (hlb : bl.length ≤ cb') (hra : RowAt w a (al.map bV)) (hrb : RowAt w b (bl.map bV)) :
    Calls Try.prog 5 #[.slice a al.length ca, .slice b bl.length cb'] w fun e w' => e = .returned (.bool true) ∧ Below w.heap.size w w' := by
  have ma : min (al.length : Int) 500 = ((al.take 500).length : Int) := min_take al 500
  have mb : min (bl.length : Int) 500 = ((bl.take 500).length : Int) := min_take bl 500
  have ra := slice_row hra 500
  have rb := slice_row hrb 500
  have la : (al.take 500).length ≤ ca ∧ (al.take 500).length ≤ 500 := by rw [List.length_take]; omega
  have lb : (bl.take 500).length ≤ cb' ∧ (bl.take 500).length ≤ 500 := by rw [List.length_take]; omega
  generalize al.take 500 = xs at *
  generalize bl.take 500 = ys at *
  have RA := hid ra; have RB := hid rb
  clear ra rb hra hrb hla hlb
  obtain ⟨la, la5⟩ := la
  obtain ⟨lb, lb5⟩ := lb
  have qa0 : (0 : Int) ≤ (xs.length : Int) := by omega
  have qa1 : (xs.length : Int) ≤ (ca : Int) := by omega
  have qb0 : (0 : Int) ≤ (ys.length : Int) := by omega
  have qb1 : (ys.length : Int) ≤ (cb' : Int) := by omega
  have LA := hid la5; have LB := hid lb5
  clear la lb la5 lb5
  go_enter Try.func5, Try.ntmps5
  go_wp2
  refine wp_region_early [0, 1, 2, 3, 4, 5, 6, 7, 8, 9, 10, 11] [] [] (fun _ => True) (by kernel_rfl) (by kernel_rfl) (by kernel_rfl) (by rfl) trivial ?_
  apply Exists.intro
  refine ⟨fun wx _ => ?_, ?_⟩
  · repeat (refine seI_step rfl (fun K hK => ?_); go_simp; refine hK _ ?_; clear hK K)
    exact seI_nil rfl
  refine wpTA_nil .nil ?_
  go_wp2
  refine NoPanic.normal ?_
  have CA := hid (show xs.length ≤ ca by omega)
  have CB := hid (show ys.length ≤ cb' by omega)
  clear ma mb qa0 qa1 qb0 qb1
  go_wp2_with fail
  refine (sums2_any _).mono ?_
  rintro e W1 ⟨rfl, hb1⟩
  have B1 := hid ((Below.refl w.heap.size w).drew.trans (hb1.mono (Nat.le_refl _)))
  have RA1 := hid (RA.out.below B1.out (Nat.le_refl _)); have RB1 := hid (RB.out.below B1.out (Nat.le_refl _)); clear hb1
  go_wp2_with fail
  refine (csum_any _ _ [xs] _ (len1 xs) (parts1 36 RA1.out CA.out LA.out)).mono ?_
  rintro e W2 ⟨rfl, hb2⟩
  rw [crcP_one]
  have h0 : more 0 xs < 4294967296 := more_lt xs (by decide)
  generalize hm1 : more 0 xs = m1 at *
  have HM1 := hid hm1; clear hm1
  have B2 := hid ((B1.out.alloc B1.out.size _).trans (hb2.mono (by have := B1.out.size; simp; omega)))
  have RA2 := hid (RA.out.below B2.out (Nat.le_refl _)); have RB2 := hid (RB.out.below B2.out (Nat.le_refl _)); clear hb2
  go_wp2_with fail
  refine (more_any m1 b cb' ys _ h0 (by have := LB.out; unfold maxLen; omega) RB2.out).mono ?_
  rintro e W3 ⟨rfl, hb3⟩
  have B3 := hid (B2.out.trans (hb3.mono B2.out.size))
  have RA3 := hid (RA.out.below B3.out (Nat.le_refl _)); have RB3 := hid (RB.out.below B3.out (Nat.le_refl _)); clear hb3
  generalize hm2 : more m1 ys = m2 at *
  have HM2 := hid hm2; clear hm2
  go_wp2_with fail
  refine (csum_any _ _ [xs, ys] _ (len2 xs ys) (parts2 36 RA3.out CA.out LA.out RB3.out CB.out LB.out)).mono ?_
  rintro e W4 ⟨rfl, hb4⟩
  rw [crcP_two, HM1.out, HM2.out]
  have B4 := hid ((B3.out.alloc B3.out.size _).trans (hb4.mono (by have := B3.out.size; simp; omega)))
  have RA4 := hid (RA.out.below B4.out (Nat.le_refl _)); have RB4 := hid (RB.out.below B4.out (Nat.le_refl _)); clear hb4
  go_wp2_with fail
  refine (more_any 0 b cb' ys _ (by decide) (by have := LB.out; unfold maxLen; omega) RB4.out).mono ?_
  rintro e W5 ⟨rfl, hb5⟩
  have B5 := hid (B4.out.trans (hb5.mono B4.out.size))
  have RA5 := hid (RA.out.below B5.out (Nat.le_refl _)); have RB5 := hid (RB.out.below B5.out (Nat.le_refl _)); clear hb5
  generalize hm3 : more 0 ys = m3 at *
  have HM3 := hid hm3; clear hm3
  go_wp2_with fail
  refine (csum_any _ _ [ys] _ (len1 ys) (parts1 36 RB5.out CB.out LB.out)).mono ?_
  rintro e W6 ⟨rfl, hb6⟩
  rw [crcP_one, HM3.out]
  have B6 := hid ((B5.out.alloc B5.out.size _).trans (hb6.mono (by have := B5.out.size; simp; omega)))
  have RA6 := hid (RA.out.below B6.out (Nat.le_refl _)); clear hb6
  go_wp2_with fail
  refine (csum_any _ _ [xs, []] _ (len2 xs []) (parts2 36 RA6.out CA.out LA.out (.inl rfl) (Nat.le_refl _) (Nat.zero_le _))).mono ?_
  rintro e W7 ⟨rfl, hb7⟩
  rw [crcP_two, HM1.out, more_nil]
  have B7 := hid ((B6.out.alloc B6.out.size _).trans (hb7.mono (by have := B6.out.size; simp; omega)))
  have RA7 := hid (RA.out.below B7.out (Nat.le_refl _)); clear hb7
  go_wp2_with fail
  refine (csum_any _ _ [xs] _ (len1 xs) (parts1 36 RA7.out CA.out LA.out)).mono ?_
  rintro e W8 ⟨rfl, hb8⟩
  rw [crcP_one, HM1.out]
  have B8 := hid ((B7.out.alloc B7.out.size _).trans (hb8.mono (by have := B7.out.size; simp; omega)))
  clear hb8
  go_wp2_with fail
  go_ret
  exact ⟨rfl, B8.out⟩
end Go.Proofs.Ytlgdapgocbmcfaa
