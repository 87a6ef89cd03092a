/- The law of one number, walked. -/
import Derived.Test.YtlgdapgocbmcfaaCodecRd2
import Derived.Test.YtlgdapgocbmcfaaCodecLaw1
namespace Go.Proofs.Ytlgdapgocbmcfaa
open Go.RowKit
theorem rdEnd_zero {bs : List UInt8} {e : Int} (h : rdEnd bs e = 0) : e = 0 ∧ bs = [] := by
  unfold rdEnd at h
  split at h
  · cases h
  · rename_i h2
    subst h
    exact ⟨rfl, Classical.byContradiction fun h3 => h2 ⟨rfl, h3⟩⟩
theorem one_int {bs : List UInt8} (h : rdEnd (rdInt bs 0).2.1 (rdInt bs 0).2.2 = 0) : intB (rdInt bs 0).1 = bs := by
  obtain ⟨h1, h2⟩ := rdEnd_zero h
  revert h1 h2
  unfold rdInt
  rw [if_neg (by simp)]
  obtain ⟨u, n, e1, hr⟩ : ∃ u n e1, tk 10 0 0 bs = (u, n, e1) := ⟨_, _, _, rfl⟩
  rw [hr]
  dsimp only
  split
  · rename_i h; intro h1; exact absurd h1 h
  · rename_i h
    intro _ h2
    have h0 : e1 = 0 := Classical.not_not.1 h
    subst h0
    obtain ⟨_, h3, h4⟩ := tk_enc0 hr
    have h5 : bs.length ≤ n := List.drop_eq_nil_iff.1 h2
    show intB (zag u) = bs
    unfold intB
    rw [zig_zag, ← h4, List.take_of_length_le h5]
theorem one_uint {bs : List UInt8} {most : Int} (h : rdEnd (rdUint most bs 0).2.1 (rdUint most bs 0).2.2 = 0) : uintB (rdUint most bs 0).1 = bs := by
  obtain ⟨h1, h2⟩ := rdEnd_zero h
  revert h1 h2
  unfold rdUint
  rw [if_neg (by simp)]
  obtain ⟨u, n, e1, hr⟩ : ∃ u n e1, tk 9 0 0 bs = (u, n, e1) := ⟨_, _, _, rfl⟩
  rw [hr]
  dsimp only
  split
  · rename_i h; intro h1; exact absurd h1 h
  · rename_i h
    split
    · intro h1; cases h1
    · intro _ h2
      have h0 : e1 = 0 := Classical.not_not.1 h
      subst h0
      obtain ⟨_, h3, h4⟩ := tk_enc0 hr
      have h5 : bs.length ≤ n := List.drop_eq_nil_iff.1 h2
      show uintB (u : Int) = bs
      unfold uintB
      rw [if_neg (by omega), Int.toNat_natCast, ← h4, List.take_of_length_le h5]
set_option maxRecDepth 100000 in
set_option maxHeartbeats 4000000 in
theorem lOne_walk (a : Option Addr) (ca : Nat) (bl : List UInt8) (w : World) (hla : bl.length ≤ ca) (hra : RowAt w a (bl.map bV)) :
    Calls Try.prog 10 #[.slice a bl.length ca] w fun e w' => e = .returned (.bool true) ∧ Below w.heap.size w w' := by
  have ma : min (bl.length : Int) 12 = ((bl.take 12).length : Int) := min_take bl 12
  have ra : RowAt w a ((bl.take 12).map bV) := by rw [List.map_take]; exact hra.take 12
  have la : (bl.take 12).length ≤ ca ∧ (bl.take 12).length ≤ 12 := by rw [List.length_take]; omega
  generalize bl.take 12 = bs at *
  have RA := Bx.mk ra
  clear ra hra hla
  obtain ⟨la, la5⟩ := la
  have qa0 : (0 : Int) ≤ (bs.length : Int) := by omega
  have qa1 : (bs.length : Int) ≤ (ca : Int) := by omega
  have LA := Bx.mk la5
  obtain ⟨n1, b1, e1, hd1⟩ : ∃ n1 b1 e1, rdInt bs 0 = (n1, b1, e1) := ⟨_, _, _, rfl⟩
  obtain ⟨m1, b2, e2, hd2⟩ : ∃ m1 b2 e2, rdUint 9223372036854775807 bs 0 = (m1, b2, e2) := ⟨_, _, _, rfl⟩
  have HN := rdInt_range bs 0; have HM := rdUint_range 9223372036854775807 bs 0
  have HL1 := rdLen bs 0; have HL2 := rdLenU 9223372036854775807 bs 0
  have O1 := @one_int bs; have O2 := @one_uint bs 9223372036854775807
  have CI := fun g => rInt_any2 g bs 0; have CU := fun g => rUint_any g 9223372036854775807 (by decide) (by decide) bs 0
  simp only [hd1] at HN HL1 O1 CI
  simp only [hd2] at HM HL2 O2 CU
  replace HN := Bx.mk HN; replace HM := Bx.mk HM; replace HL1 := Bx.mk HL1; replace HL2 := Bx.mk HL2; replace O1 := Bx.mk O1; replace O2 := Bx.mk O2; replace CI := Bx.mk CI; replace CU := Bx.mk CU
  clear la la5 hd1 hd2
  go_enter Try.func10, Try.ntmps10
  go_wp2_with fail
  refine (cRead_any a ca bs w RA.out (by have := LA.out; omega)).mono ?_
  rintro e w1 ⟨g1, L1, rfl, hr1, hf1, hb1⟩
  have R1a := Bx.mk hr1; have F1 := Bx.mk hf1; have B1 := Bx.mk hb1
  clear hr1 hf1 hb1
  go_wp2_with fail
  refine (cRead_any a ca bs w1 (RA.out.below B1.out (Nat.le_refl _)) (by have := LA.out; omega)).mono ?_
  rintro e w2 ⟨g2, L2, rfl, hr2, hf2, hb2⟩
  have R2a := Bx.mk hr2; have R1b := Bx.mk (R1a.out.below hb2)
  have F2 := Bx.mk (show From w.heap.size L2 from fun k hk => Nat.le_trans B1.out.size (hf2 k hk))
  have A12 := Bx.mk (Apart.new R1a.out.under hf2)
  have B2 := Bx.mk (B1.out.trans (hb2.mono B1.out.size))
  clear hr2 hf2 hb2 R1a
  go_wp2_with fail
  refine (CI.out g1 L1 w2 R1b.out (by have := LA.out; omega)).mono ?_
  rintro r w3 ⟨rfl, hr, hf, _⟩
  have R1c := Bx.mk hr; have R2b := Bx.mk (R2a.out.fr hf A12.out.symm)
  have B3 := Bx.mk (B2.out.trans (hf.below F1.out B2.out.size))
  clear hr hf R1b R2a CI
  go_wp2_with fail
  refine (CU.out g2 L2 w3 R2b.out (by have := LA.out; omega)).mono ?_
  rintro r w4 ⟨rfl, hr, hf, _⟩
  have R2c := Bx.mk hr; have R1d := Bx.mk (R1c.out.fr hf A12.out)
  have B4 := Bx.mk (B3.out.trans (hf.below F2.out B3.out.size))
  clear hr hf R1c R2b CU
  have W0 := Bx.mk (fresh_w w4)
  have B5 := Bx.mk (Below_one (w := w4) (.cells #[.slice none 0 0, .bool false] 60))
  have W0b := Bx.mk (wbelow W0.out (Below_one (.cells #[.slice none 0 0, .bool false] 60)))
  have V0 := Bx.mk (fresh_w (w4.alloc (.cells #[.slice none 0 0, .bool false] 60)))
  have B6 := Bx.mk (B5.out.alloc (by simp) (.cells #[.slice none 0 0, .bool false] 60))
  have hsz : (w4.alloc (.cells #[.slice none 0 0, .bool false] 60)).heap.size = w4.heap.size + 1 := by simp
  rw [hsz] at V0
  clear hsz W0 B5
  go_upto_region 5 with fail
  have U1 := Bx.mk R1d.out.under; have U2 := Bx.mk R2c.out.under
  have Z5 : Bx (w4.heap.size + 1 < ((w4.alloc (.cells #[.slice none 0 0, .bool false] 60)).alloc (.cells #[.slice none 0 0, .bool false] 60)).heap.size) := ⟨by simp⟩
  generalize (w4.alloc (.cells #[.slice none 0 0, .bool false] 60)).alloc (.cells #[.slice none 0 0, .bool false] 60) = w5 at *
  have R1e := Bx.mk (R1d.out.below B6.out); have R2d := Bx.mk (R2c.out.below B6.out)
  have B7 := Bx.mk (B4.out.trans (B6.out.mono B4.out.size))
  have S4 := Bx.mk B4.out.size
  clear R1d R2c B6
  go_wp2_with fail
  refine (wInt_any w4.heap.size n1 HN.out.1 HN.out.2 [] false _ w5 W0b.out (by simp)).mono ?_
  rintro r w6 ⟨rfl, Lw, hw, hf, hg⟩
  have ap1 : ∀ L, Under L w4.heap.size → Apart L [w4.heap.size] := fun L hu k hk hm => by have := hu k hk; simp at hm; omega
  have ap2 : ∀ L, Under L w4.heap.size → Apart L [w4.heap.size + 1] := fun L hu k hk hm => by have := hu k hk; simp at hm; omega
  have AP1 := Bx.mk ap1; have AP2 := Bx.mk ap2
  have WW := Bx.mk hw
  have V1 := Bx.mk (V0.out.fr hf (fun k hk hm => by simp at hk hm; omega))
  have R1f := Bx.mk (R1e.out.fr hf (ap1 _ U1.out)); have R2e := Bx.mk (R2d.out.fr hf (ap1 _ U2.out))
  have B8 := Bx.mk (B7.out.trans (hf.below (fun k hk => by have := S4.out; simp at hk; omega) B7.out.size))
  have AW := Bx.mk (show Apart Lw [w4.heap.size + 1] from fun k hk hm => by
    simp at hm; have := Z5.out
    rcases hg k hk with h | h
    · simp at h; omega
    · omega)
  clear hw hf hg V0 R1e R2d W0b ap1 ap2
  go_wp2_with fail
  refine (wUint_any (w4.heap.size + 1) m1 HM.out.2 [] false _ w6 V1.out (by simp)).mono ?_
  rintro r w7 ⟨rfl, Lv, hv, hf, hg⟩
  rw [decide_eq_false (show ¬ m1 < 0 by have := HM.out; omega)] at hv
  have VV := Bx.mk hv
  have WW2 := Bx.mk (WW.out.fr hf AW.out)
  have R1g := Bx.mk (R1f.out.fr hf (AP2.out _ U1.out)); have R2f := Bx.mk (R2e.out.fr hf (AP2.out _ U2.out))
  have B9 := Bx.mk (B8.out.trans (hf.below (fun k hk => by have := S4.out; simp at hk; omega) B8.out.size))
  clear hv hf hg V1 R1f R2e WW
  go_wp2_with fail
  refine (wBytes_any w4.heap.size _ _ Lw w7 WW2.out (by have := intB_len HN.out.1 HN.out.2; simp; omega)).mono ?_
  rintro r w8 ⟨v3, rfl, ho3, hb3⟩
  obtain ⟨a3, c3, rfl⟩ := ho3.isSlice
  have X3 := Bx.mk ho3.row
  have VV2 := Bx.mk (wbelow VV.out hb3)
  have R1h := Bx.mk (R1g.out.below hb3); have R2g := Bx.mk (R2f.out.below hb3)
  have B10 := Bx.mk (B9.out.trans (hb3.mono B9.out.size))
  clear ho3 hb3 WW2 VV R1g R2f
  go_wp2_with fail
  refine (wBytes_any (w4.heap.size + 1) _ _ Lv w8 VV2.out (by have := uintB_len HM.out.2; simp; omega)).mono ?_
  rintro r w9 ⟨v4, rfl, ho4, hb4⟩
  obtain ⟨a4, c4, rfl⟩ := ho4.isSlice
  have X4 := Bx.mk ho4.row
  have X3b := Bx.mk (X3.out.below hb4 (Nat.le_refl _))
  have R1i := Bx.mk (R1h.out.below hb4); have R2h := Bx.mk (R2g.out.below hb4)
  have B11 := Bx.mk (B10.out.trans (hb4.mono B10.out.size))
  clear ho4 hb4 VV2 R1h R2g X3
  go_wp2_with fail
  refine (codes_any w9).mono ?_
  rintro r w10 ⟨rfl, hb⟩
  have X4b := Bx.mk (X4.out.below hb (Nat.le_refl _)); have X3c := Bx.mk (X3b.out.below hb (Nat.le_refl _))
  have R1j := Bx.mk (R1i.out.below hb); have R2i := Bx.mk (R2h.out.below hb)
  have B12 := Bx.mk (B11.out.trans (hb.mono B11.out.size))
  have X0 := Bx.mk (RA.out.below B12.out (Nat.le_refl _))
  clear hb X4 X3b R1i R2h
  unfold wErr
  go_wp2_with fail
  refine (rEnd_any g1 b1 e1 L1 w10 R1j.out (by have := HL1.out; have := LA.out; omega)).mono ?_
  rintro r w11 ⟨rfl, rfl⟩
  have hc0 := conv_str (P := Try.prog) 36 9 Try.underlying36 Try.underlying5 Try.underlying9 w11 a ca bs X0.out
  by_cases h1 : rdEnd b1 e1 = 0
  · have hx := O1.out h1
    have hc3 := conv_str (P := Try.prog) 36 9 Try.underlying36 Try.underlying5 Try.underlying9 w11 a3 c3 (intB n1) X3c.out
    rw [hx] at hc3
    rw [h1, hx]
    clear h1 hx
    go_wp2_with fail
    refine (rEnd_any g2 b2 e2 L2 _ R2i.out (by have := HL2.out; have := LA.out; omega)).mono ?_
    rintro r w12 ⟨rfl, rfl⟩
    by_cases h2 : rdEnd b2 e2 = 0
    · have hx2 := O2.out h2
      have hc4 := conv_str (P := Try.prog) 36 9 Try.underlying36 Try.underlying5 Try.underlying9 _ a4 c4 (uintB m1) X4b.out
      rw [hx2] at hc4
      rw [h2, hx2]
      clear h2 hx2
      go_wp2
      go_ret
      exact ⟨by simp, B12.out⟩
    · have h2b : (rdEnd b2 e2 != 0) = true := by simpa using h2
      generalize rdEnd b2 e2 = z2 at *
      clear h2
      go_wp2
      go_ret
      exact ⟨by simp, B12.out⟩
  · have h1b : (rdEnd b1 e1 != 0) = true := by simpa using h1
    generalize rdEnd b1 e1 = z1 at *
    clear h1
    go_wp2_with fail
    refine (rEnd_any g2 b2 e2 L2 _ R2i.out (by have := HL2.out; have := LA.out; omega)).mono ?_
    rintro r w12 ⟨rfl, rfl⟩
    by_cases h2 : rdEnd b2 e2 = 0
    · have hx2 := O2.out h2
      have hc4 := conv_str (P := Try.prog) 36 9 Try.underlying36 Try.underlying5 Try.underlying9 _ a4 c4 (uintB m1) X4b.out
      rw [hx2] at hc4
      rw [h2, hx2]
      clear h2 hx2
      go_wp2
      go_ret
      exact ⟨by simp, B12.out⟩
    · have h2b : (rdEnd b2 e2 != 0) = true := by simpa using h2
      generalize rdEnd b2 e2 = z2 at *
      clear h2
      go_wp2
      go_ret
      exact ⟨by simp, B12.out⟩
end Go.Proofs.Ytlgdapgocbmcfaa
