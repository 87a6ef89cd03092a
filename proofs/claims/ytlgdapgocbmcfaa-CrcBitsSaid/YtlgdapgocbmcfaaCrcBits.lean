/- The law of four bytes, walked. -/
import Derived.Test.YtlgdapgocbmcfaaCrcLaws2
namespace Go.Proofs.Ytlgdapgocbmcfaa
open Go.RowKit
def fl (xs : List UInt8) (kk n : Nat) : Nat → List UInt8
  | 0 => xs
  | j + 1 => (fl xs kk n j).set (kk + j) (UInt8.ofNat (((fl xs kk n j).getD (kk + j) 0).toNat ^^^ (n / 2 ^ (8 * j) % 256)))
theorem fl_len (xs : List UInt8) (kk n j : Nat) : (fl xs kk n j).length = xs.length := by
  induction j with
  | zero => rfl
  | succ j ih => show ((fl xs kk n j).set _ _).length = _; rw [List.length_set, ih]
theorem byte_val (x n j : Nat) (hx : x < 256) : bV (UInt8.ofNat (x ^^^ (n / 2 ^ (8 * j) % 256))) = .int .u8 (bits BinOp.xor IntKind.u8 (x : Int) ((n : Int) / 2 ^ (8 * j) % 256)) := by
  have h1 : (n : Int) / 2 ^ (8 * j) % 256 = ((n / 2 ^ (8 * j) % 256 : Nat) : Int) := by simp
  have h2 : x ^^^ (n / 2 ^ (8 * j) % 256) < 2 ^ 8 := Nat.xor_lt_two_pow hx (by omega)
  rw [h1, u8_xor_nat _ _ hx (Nat.mod_lt _ (by omega))]
  unfold bV
  rw [show (UInt8.ofNat (x ^^^ n / 2 ^ (8 * j) % 256)).toNat = x ^^^ n / 2 ^ (8 * j) % 256 from by rw [UInt8.toNat_ofNat']; exact Nat.mod_eq_of_lt h2]
theorem place (at' : Int) (l : Nat) (h : 4 ≤ l) (h2 : l ≤ 300) : ∃ kk : Nat, (IntKind.u64.wrap at').tmod ((l : Int) - 3) = (kk : Int) ∧ wrap64 (kk : Int) = (kk : Int) ∧ kk + 4 ≤ l := by
  have e3 : IntKind.u64.wrap at' = at' % 18446744073709551616 := IntKind.wrap_u64 _
  rw [e3]
  have e4 : (at' % 18446744073709551616).tmod ((l : Int) - 3) = (at' % 18446744073709551616) % ((l : Int) - 3) := Int.tmod_eq_emod_of_nonneg (by omega)
  rw [e4]
  have p1 := Int.emod_nonneg (at' % 18446744073709551616) (show ((l : Int) - 3) ≠ 0 by omega)
  have p2 := Int.emod_lt_of_pos (at' % 18446744073709551616) (show 0 < ((l : Int) - 3) by omega)
  generalize (at' % 18446744073709551616) % ((l : Int) - 3) = r at *
  exact ⟨r.toNat, by omega, by unfold wrap64; omega, by omega⟩
theorem fl_four (xs : List UInt8) (kk n : Nat) (h : kk + 4 ≤ xs.length) (hn : n < 4294967296) (h0 : n ≠ 0) : more 0 xs ≠ more 0 (fl xs kk n 4) := by
  obtain ⟨x0, x1, x2, x3, post, hd⟩ : ∃ x0 x1 x2 x3 post, xs.drop kk = x0 :: x1 :: x2 :: x3 :: post := by
    have hl : (xs.drop kk).length ≥ 4 := by simp; omega
    match hq : xs.drop kk with
    | x0 :: x1 :: x2 :: x3 :: post => exact ⟨x0, x1, x2, x3, post, rfl⟩
    | [] => rw [hq] at hl; simp at hl
    | [_] => rw [hq] at hl; simp at hl
    | [_, _] => rw [hq] at hl; simp at hl
    | [_, _, _] => rw [hq] at hl; simp at hl
  have hx : xs = xs.take kk ++ [x0, x1, x2, x3] ++ post := by
    conv => lhs; rw [← List.take_append_drop kk xs, hd]
    simp
  have hk : (xs.take kk).length = kk := by simp; omega
  generalize xs.take kk = pre at *
  subst hx
  subst hk
  have ob : ∀ x : UInt8, ∀ d : Nat, (UInt8.ofNat (x.toNat ^^^ d % 256)).toNat = x.toNat ^^^ (d % 256) := fun x d => by
    have : x.toNat ^^^ (d % 256) < 2 ^ 8 := Nat.xor_lt_two_pow x.toNat_lt (by omega)
    simp
  have hf : fl (pre ++ [x0, x1, x2, x3] ++ post) pre.length n 4 = pre ++ [UInt8.ofNat (x0.toNat ^^^ n / 2 ^ (8 * 0) % 256), UInt8.ofNat (x1.toNat ^^^ n / 2 ^ (8 * 1) % 256), UInt8.ofNat (x2.toNat ^^^ n / 2 ^ (8 * 2) % 256), UInt8.ofNat (x3.toNat ^^^ n / 2 ^ (8 * 3) % 256)] ++ post := by
    simp [fl]
  rw [hf]
  refine crc_differs pre post x0 x1 x2 x3 _ _ _ _ _ _ _ _ (Nat.mod_lt _ (by omega)) (Nat.mod_lt _ (by omega)) (Nat.mod_lt _ (by omega)) (Nat.mod_lt _ (by omega)) (ob x0 _) (ob x1 _) (ob x2 _) (ob x3 _) ?_
  rintro ⟨a, b, c, d⟩
  simp only [Nat.mul_zero, Nat.pow_zero, Nat.div_one, Nat.mul_one, show 8 * 2 = 16 from rfl, show 8 * 3 = 24 from rfl, show 2 ^ 8 = 256 from rfl, show 2 ^ 16 = 65536 from rfl, show 2 ^ 24 = 16777216 from rfl] at a b c d
  omega
set_option maxRecDepth 100000 in
set_option maxHeartbeats 1000000 in
theorem lbits_walk (a : Option Addr) (ca : Nat) (al : List UInt8) (at' : Int) (n : Nat) (w : World) (hn : n < 4294967296) (hla : al.length ≤ ca) (hra : RowAt w a (al.map bV)) :
    Calls Try.prog 6 #[.slice a al.length ca, .int .i64 at', .int .u32 n] w fun e w' => e = .returned (.bool true) ∧ Below w.heap.size w w' := by
  have ma : min (al.length : Int) 300 = ((al.take 300).length : Int) := min_take al 300
  have ra := slice_row hra 300
  have la : (al.take 300).length ≤ ca ∧ (al.take 300).length ≤ 300 := by rw [List.length_take]; omega
  generalize al.take 300 = xs at *
  have RA := hid ra
  clear ra hra hla
  obtain ⟨la, la5⟩ := la
  have qa0 : (0 : Int) ≤ (xs.length : Int) := by omega
  have qa1 : (xs.length : Int) ≤ (ca : Int) := by omega
  have LA := hid la5
  obtain ⟨i0, hi, hz0, hz1, hz2⟩ := info_parts Try.infoU8
  have Hi := hid hi; clear hi
  have Hz0 := hid hz0; clear hz0
  have Hz1 := hid hz1; clear hz1
  have Hz2 := hid hz2; clear hz2
  have hs0 := fun W (h : RowAt W a (xs.map bV)) => Src.ofRow (P := Try.prog) (tx := 36) (w := W) Try.underlying36 a ca (xs.map bV) h one_bV
  simp only [List.length_map] at hs0
  have HS := hid hs0; clear hs0
  have M1 := hid (show 0 + xs.length ≤ maxLen by unfold maxLen; omega)
  have M2 := hid (show (0 + xs.length) * 1 ≤ 140737488355328 by omega)
  clear la5 la
  go_enter Try.func6, Try.ntmps6
  go_wp2_with (refine wpList_app rfl (.tmp 10) (.tmp 15) 36 36 rfl i0 _ 1 Try.underlying36 Hi.out Hz0.out Hz1.out Hz2.out rfl rfl (Own.fresh0 (w := w) (Nat.le_refl _)) _ rfl xs.length (xs.map bV) (HS.out _ (RA.out.alloc _)) M1.out M2.out ?_ ?_)
  · simp
  intro v1 w1 ho1 hg1 hn1
  obtain ⟨a1, c1, rfl⟩ := ho1.isSlice
  have B1 := hid ((Below_one (.cells #[] 5)).grown hg1 (by simp) (fun g hg => by have h3 : w.heap.size = g := Option.some.inj hg; omega))
  have O1 := hid ho1
  clear ho1 hg1 hn1 ma
  go_wp2_with fail
  refine (sums2_any _).mono ?_
  rintro e W2 ⟨rfl, hb2⟩
  have O2 := hid (O1.out.below hb2 (Nat.le_refl _))
  have B2 := hid (B1.out.trans (hb2.mono B1.out.size)); clear hb2
  by_cases hc : xs.length < 4 ∨ n = 0
  · by_cases hc0 : xs.length < 4
    · have hc1 : decide ((xs.length : Int) < 4) = true := by simp; omega
      go_wp2_with fail
      refine (sums2_any _).mono ?_
      rintro e W3 ⟨rfl, hb3⟩
      have B3 := hid (B2.out.trans (hb3.mono B2.out.size)); clear hb3
      go_wp2_with fail
      go_ret
      exact ⟨rfl, B3.out⟩
    · obtain rfl : n = 0 := by omega
      have hc1 : decide ((xs.length : Int) < 4) = false := by simp; omega
      go_wp2_with fail
      refine (sums2_any _).mono ?_
      rintro e W3 ⟨rfl, hb3⟩
      have B3 := hid (B2.out.trans (hb3.mono B2.out.size)); clear hb3
      go_wp2_with fail
      go_ret
      exact ⟨rfl, B3.out⟩
  · have hc1 : ((xs.length : Int) < 4) = False := by simp; omega
    have hc2 : ((n : Int) == 0) = false := by simp; omega
    have hs1 := fun W (h : RowAt W a1 (xs.map bV)) => Src.ofRow (P := Try.prog) (tx := 36) (w := W) Try.underlying36 a1 c1 (xs.map bV) h one_bV
    simp only [List.length_map] at hs1
    have HS1 := hid hs1; clear hs1
    go_wp2_with (refine wpList_app rfl (.tmp 29) (.tmp 30) 36 36 rfl i0 _ 1 Try.underlying36 Hi.out Hz0.out Hz1.out Hz2.out rfl rfl (Own.fresh0 (w := W2) (Nat.le_refl _)) _ rfl xs.length (xs.map bV) (HS1.out _ (O2.out.row.alloc _)) M1.out M2.out ?_ ?_)
    · simp
    intro v3 w3 ho3 hg3 hn3
    have O3 := hid ((O2.out.alloc (.cells #[] 5)).kept hg3 (.inr fun h => by have := (O2.out.lt W2.heap.size h).2; omega))
    have B3 := hid ((B2.out.alloc B2.out.size (.cells #[] 5)).grown hg3 (by have := B2.out.size; simp; omega) (fun g hg => by have h3 : W2.heap.size = g := Option.some.inj hg; have := B2.out.size; omega))
    obtain ⟨a3, c3, rfl⟩ := ho3.isSlice
    obtain ⟨g3, off3, rfl, hb3, hl3⟩ := ho3.someAddr (by omega)
    have P3 := hid ho3
    have HO2 := hid (show ∀ k, (Value.slice a1 xs.length c1).ownBlock = some k → k < g3 from fun k hk => Nat.lt_of_lt_of_le (O2.out.lt k hk).2 hb3)
    clear ho3 hg3 hn3
    have l4 : 4 ≤ xs.length := by omega
    have hl3 := LA.out
    go_wp2
    obtain ⟨kk, hkk, hkw, hkl⟩ := place at' xs.length (by omega) LA.out
    rw [hkk, hkw]
    clear hkk hkw
    go_loopw [9,40,41,42,43,44,45,46,47,48,49,50,51,52,53,54,55,56] (fun t9 _ _ _ _ _ _ _ _ _ _ _ _ _ _ _ _ _ wr => ∃ j : Nat, j ≤ 4 ∧ t9 = .int .i64 j ∧ Own wr W2.heap.size 5 1 (.slice (some ⟨g3, off3, none⟩) xs.length c3) xs.length ((fl xs kk n j).map bV) ∧ Own wr w.heap.size 5 1 (.slice a1 xs.length c1) xs.length (xs.map bV) ∧ Below w.heap.size w wr) (fun t9 _ _ _ _ _ _ _ _ _ _ _ _ _ _ _ _ _ wr => 4 - (intOf t9).toNat)
    case atStart => exact ⟨0, by omega, rfl, P3.out, O3.out, B3.out⟩
    case round =>
      obtain ⟨j, hj, rfl, hp, ho, hb⟩ := hrel
      have HP := hid hp
      have HO := hid ho
      have HB := hid hb
      clear hb ho hp
      by_cases hlj : j < 4
      · have hln := fl_len xs kk n j
        have hc : wr.cell? ⟨g3, off3 + (kk + j), none⟩ = some (.int .u8 (((fl xs kk n j).getD (kk + j) 0).toNat : Int)) := HP.out.cells g3 off3 c3 rfl (kk + j) _ (by rw [List.getElem?_map, List.getD_eq_getElem?_getD, List.getElem?_eq_getElem (by omega)]; rfl)
        have hx := ((fl xs kk n j).getD (kk + j) 0).toNat_lt
        have Hfl := hid (show fl xs kk n (j + 1) = (fl xs kk n j).set (kk + j) (UInt8.ofNat (((fl xs kk n j).getD (kk + j) 0).toNat ^^^ (n / 2 ^ (8 * j) % 256))) from rfl)
        generalize ((fl xs kk n j).getD (kk + j) 0).toNat = x at *
        have i0 : (0 : Int) ≤ (kk : Int) + (j : Int) := by omega
        have i1 : (kk : Int) + (j : Int) < (xs.length : Int) := by omega
        have w1' : IntKind.i64.wrap ((kk : Int) + (j : Int)) = (kk : Int) + (j : Int) := by rw [IntKind.wrap_i64]; omega
        have w2' : ((kk : Int) + (j : Int)).toNat = kk + j := by omega
        have w3' : IntKind.i64.wrap (8 * (j : Int)) = 8 * (j : Int) := by rw [IntKind.wrap_i64]; omega
        have w4' : (8 * (j : Int)).toNat = 8 * j := by omega
        have w5' : (0 : Int) ≤ 8 * (j : Int) := by omega
        go_wp2
        refine wp_region_early [0, 1, 2, 3, 4, 5, 6, 7, 8, 9, 10, 11, 12] [] [13] (fun wx => wx.cell? ⟨g3, off3 + (kk + j), none⟩ = some (.int .u8 (x : Int))) (by kernel_rfl) (by kernel_rfl) (by kernel_rfl) (by rfl) hc ?_
        apply Exists.intro
        refine ⟨fun wx hx => ?_, ?_⟩
        · repeat (refine seI_step rfl (fun K hK => ?_); go_simp; refine hK _ ?_; clear hK K)
          exact seI_nil rfl
        refine wpTA_nil (.cons rfl .nil) ?_
        have hfz : wr.frozen? ⟨g3, off3 + (kk + j), none⟩ = false := HP.out.notFrozen _
        go_wp2
        refine NoPanic.normal ?_
        clear w1' w2' w3' w4' w5' i0 i1 hc hfz
        go_wp2
        go_roundw
        case rel =>
          refine ⟨j + 1, by omega, by go_num, ?_, ?_, ?_⟩
          · have h1 := HP.out.setCell1 (i := kk + j) (bV (UInt8.ofNat (x ^^^ (n / 2 ^ (8 * j) % 256))))
            rw [← List.map_set, ← Hfl.out, byte_val x n j hx] at h1
            exact h1
          · exact HO.out.keep fun k hk => heap_setCell_other _ _ _ _ fun e => by have h5 : k = g3 := e; have := HO2.out k hk; omega
          · exact (HB.out.setCell (p := ⟨g3, off3 + (kk + j), none⟩) (Nat.le_trans B2.out.size hb3) _).drew
        case measure => simp [intOf]; omega
      · obtain rfl : j = 4 := by omega
        have hne := hid (fl_four xs kk n hkl hn (by omega))
        have hln := fl_len xs kk n 4
        generalize fl xs kk n 4 = ys at *
        have HL := hid hln; clear hln
        have h1 : more 0 xs < 4294967296 := more_lt xs (by decide)
        have h2 : more 0 ys < 4294967296 := more_lt ys (by decide)
        go_wp2_with fail
        refine (csum_any _ _ [xs] _ (len1 xs) (parts1 36 HO.out.row HO.out.cap.1 (by omega))).mono ?_
        rintro e W5 ⟨rfl, hb5⟩
        rw [crcP_one]
        have B5 := hid ((HB.out.alloc HB.out.size _).trans (hb5.mono (by have := HB.out.size; simp; omega)))
        have hext := hid (hb5.mono (B' := wr.heap.size) (by simp))
        have hp5 := (HP.out.alloc (.cells #[.slice a1 xs.length c1] 36)).below hb5 (Nat.le_refl _)
        rw [← HL.out] at hp5
        have P5 := hid hp5
        have L5 := hid (show ys.length ≤ 500 by have := HL.out; omega)
        clear hb5 hp5
        go_wp2_with fail
        rw [← HL.out]
        refine (csum_any _ _ [ys] _ (len1 ys) (parts1 36 P5.out.row P5.out.cap.1 L5.out)).mono ?_
        rintro e W6 ⟨rfl, hb6⟩
        rw [crcP_one]
        have B6 := hid ((B5.out.alloc B5.out.size _).trans (hb6.mono (by have := B5.out.size; simp; omega)))
        clear hb6
        have hd : (((more 0 xs : Nat) : Int) != ((more 0 ys : Nat) : Int)) = true := by have := hne.out; rw [bne_iff_ne]; omega
        generalize more 0 xs = m1 at *
        generalize more 0 ys = m2 at *
        clear h1 h2 hne
        go_wp2_with fail
        go_ret
        exact ⟨rfl, B6.out⟩
end Go.Proofs.Ytlgdapgocbmcfaa
