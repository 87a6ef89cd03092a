/- Few parts. -/
import Derived.Test.YtlgdapgocbmcfaaCrcAll
import Derived.Test.YtlgdapgocbmcfaaLibRegion
namespace Go.Proofs.Ytlgdapgocbmcfaa
open Go.RowKit
theorem Try.infoBytes : (Try.prog.info? 36).map (fun i => (i.zero, i.size, i.bytes)) = some (some (.slice none 0 0), 1, 24) := by kernel_rfl
/-- What 'Few' comes to. -/
def few (ps : List (List UInt8)) (most size : Nat) : List (List UInt8) := (ps.take most).map (·.take size)
/-- Rows that lie in memory from 'base' on, each of its own make. -/
theorem few_len (ps : List (List UInt8)) (most size k : Nat) (h : k ≤ ps.length) (h2 : k ≤ most) : (few (ps.take k) most size).length = k := by
  unfold few; simp; omega
theorem few_snoc (ps : List (List UInt8)) (most size k : Nat) (h : k < ps.length) (h2 : k < most) : few (ps.take (k + 1)) most size = few (ps.take k) most size ++ [ps[k].take size] := by
  unfold few
  rw [List.take_take, List.take_take, Nat.min_eq_right (by omega), Nat.min_eq_right (by omega), List.take_succ_eq_append_getElem h, List.map_append]; rfl
/-- What 'Few' hands back, as parts. -/
theorem parts_of {w : World} {base : Nat} {t7 : Value} {ps : List (List UInt8)} {vs : List (Option Addr × Nat)} (hl : vs.length = ps.length) (ho : Own w base 36 1 t7 ps.length ((vs.zip ps).map fun (v, p) => .slice v.1 p.length v.2))
    (hr : ∀ v p, (v, p) ∈ vs.zip ps → Own w base 5 1 (.slice v.1 p.length v.2) p.length (p.map bV)) : ∃ a c, t7 = .slice a ps.length c ∧ PartsAt w a ps := by
  obtain ⟨a, c, rfl, hrow, _⟩ := ho.row1
  exact ⟨a, c, rfl, vs, hrow, hl, fun v p hm => ⟨(hr v p hm).row, (hr v p hm).cap⟩⟩
set_option maxRecDepth 100000 in
set_option maxHeartbeats 1000000 in
theorem rfew_any (a : Option Addr) (cap most size : Nat) (ps : List (List UInt8)) (w : World) (hl : ps.length ≤ maxLen) (h1 : most ≤ 1000) (h2 : size ≤ 1000) (hr : PartsAt w a ps) :
    Calls Try.prog 19 #[.slice a ps.length cap, .int .i64 most, .int .i64 size] w fun e w' => ∃ a' cap', e = .returned (.slice a' (few ps most size).length cap') ∧ PartsAt w' a' (few ps most size) ∧ Below w.heap.size w w' := by
  unfold maxLen at hl
  have HR := hid hr; clear hr
  go_enter Try.func19, Try.ntmps19
  go_wp2
  go_loopw [7,8,9,10,11,12,13,14,15,16,17,18,19,20,21,22,23,24,25,26,27,28,29,30,31,32,33,34,35,36] (fun t7 t8 _ _ _ _ _ _ _ _ _ _ _ _ _ _ _ _ _ _ _ _ _ _ _ _ _ _ _ _ wr => ∃ k : Nat, k ≤ ps.length ∧ k ≤ most ∧ t8 = .int .i64 k ∧ (∃ vs : List (Option Addr × Nat), vs.length = k ∧ Own wr w.heap.size 36 1 t7 k ((vs.zip (few (ps.take k) most size)).map fun (v, p) => .slice v.1 p.length v.2) ∧ ∀ v p, (v, p) ∈ vs.zip (few (ps.take k) most size) → Own wr w.heap.size 5 1 (.slice v.1 p.length v.2) p.length (p.map bV)) ∧ Below w.heap.size w wr) (fun t7 t8 _ _ _ _ _ _ _ _ _ _ _ _ _ _ _ _ _ _ _ _ _ _ _ _ _ _ _ _ wr => ps.length - (intOf t8).toNat)
  case atStart => exact ⟨0, by omega, by omega, rfl, ⟨[], rfl, Own.nil _ _ _ _, fun _ _ h => by cases h⟩, Below.refl _ _⟩
  case round =>
    obtain ⟨k, hk, hkm, rfl, ⟨vs, hvs, ho, hrows⟩, hbw⟩ := hrel
    by_cases hlt : k < ps.length
    · by_cases hlm : k < most
      · have d1 : decide ((k : Int) < (most : Int)) = true := by simp; omega
        have d2 : decide ((k : Int) < (ps.length : Int)) = true := by simp; omega
        obtain ⟨b, off, v, c, rfl, hc0, hr0, hvc, hm⟩ := HR.out.part hlt
        have hbl : b < w.heap.size := Go.block_lt_of_cell hc0
        have hc := (hbw.cell (p := ⟨b, off + k, none⟩) hbl).trans hc0
        have hr := hr0.below hbw (Nat.le_refl _)
        clear hc0 hr0
        have HBL := hid hbl; clear hbl
        have HRO := hid hrows; clear hrows
        have HO := hid ho; clear ho
        have HB := hid hbw; clear hbw
        have HP := hid hr; clear hr
        have HVS := hid hvs; clear hvs
        have hmin := min_take ps[k] size
        have hql : (ps[k].take size).length ≤ c := by rw [List.length_take]; omega
        have Hsn := hid (few_snoc ps most size k hlt hlm)
        generalize hp : ps[k] = p at *
        generalize hq : (p.take size).length = q at *
        have Hq := hid hq; clear hq hp
        have q0 : (0 : Int) ≤ (q : Int) := by omega
        have q1 : (q : Int) ≤ (c : Int) := by omega
        have HL := hid hl; clear hl
        have HM := hid hm; clear hm
        have H1 := hid h1; clear h1
        have H2 := hid h2; clear h2
        obtain ⟨i0, hi, hz0, hz1, hz2⟩ := info_parts Try.infoU8
        have Hi := hid hi; clear hi
        have Hz0 := hid hz0; clear hz0
        have Hz1 := hid hz1; clear hz1
        have Hz2 := hid hz2; clear hz2
        obtain ⟨i1, hi, hz0, hz1, hz2⟩ := info_parts Try.infoBytes
        have Ji := hid hi; clear hi
        have Jz0 := hid hz0; clear hz0
        have Jz1 := hid hz1; clear hz1
        have Jz2 := hid hz2; clear hz2
        have hs : ∀ W : World, RowAt W v (p.map bV) → Src Try.prog 1 36 (.slice v q c) q ((p.take size).map bV) W := fun W hr => by
          have := Src.ofRow (P := Try.prog) (tx := 36) (w := W) Try.underlying36 v c ((p.take size).map bV) (by rw [List.map_take]; exact hr.take size) one_bV
          rw [List.length_map, Hq.out] at this
          exact this
        have HS := hid hs; clear hs
        have hq1 : q ≤ 1000 := by have := Hq.out; rw [List.length_take] at this; have := H2.out; omega
        have B1 := hid (show 0 + q ≤ maxLen by unfold maxLen; omega)
        have B2 := hid (show (0 + q) * 1 ≤ 140737488355328 by omega)
        have B3 := hid (show wr.heap.size ≤ ((wr.alloc (.cells #[] 5)).drew).heap.size by simp)
        have B4 := hid (show k + 1 ≤ maxLen by have := H1.out; unfold maxLen; omega)
        have B5 := hid (show (k + 1) * 24 ≤ 140737488355328 by have := H1.out; omega)
        have hfar : u7.ownBlock = none ∨ u7.ownBlock ≠ some wr.heap.size := .inr fun h => by have := (HO.out.lt _ h).2; omega
        have HF := hid hfar; clear hfar hq1
        have HC := hid hc
        go_wp2
        refine wp_region_early [0, 2, 3, 4, 5, 6, 7, 8, 9, 10, 11, 12, 13] [1, 14, 15] [16, 17] (fun wx => wx.cell? ⟨b, off + k, none⟩ = some (.slice v p.length c)) (by kernel_rfl) (by kernel_rfl) (by kernel_rfl) (by rfl) hc ?_
        apply Exists.intro
        refine ⟨fun wx hx => ?_, ?_⟩
        · repeat (refine seI_step rfl (fun K hK => ?_); go_simp; refine hK _ ?_; clear hK K)
          exact seI_nil rfl
        · refine wpTA_cons rfl ?_
          go_wp2
          refine ⟨((Below_one (w := wr) (.cells #[] 5)).cell (p := ⟨b, off + k, none⟩) (Nat.lt_of_lt_of_le HBL.out HB.out.size)).trans hc, wpTA_cons rfl ?_⟩
          refine wpList_app rfl (.tmp 21) (.tmp 33) 36 36 rfl i0 _ 1 Try.underlying36 Hi.out Hz0.out Hz1.out Hz2.out rfl rfl (Own.fresh0 (w := wr) (Nat.le_refl _)).drew _ rfl q ((p.take size).map bV) (HS.out _ (HP.out.alloc _).drew) B1.out B2.out B3.out ?_
          intro v1 w1 ho1 hg1 hn1
          rw [Nat.zero_add, List.nil_append] at ho1
          obtain ⟨a1, c1, rfl⟩ := ho1.isSlice
          have hk1 : w1.cell? ⟨b, off + k, none⟩ = some (.slice v p.length c) := hg1.cell (((Below_one (w := wr) (.cells #[] 5)).cell (p := ⟨b, off + k, none⟩) (Nat.lt_of_lt_of_le HBL.out HB.out.size)).trans HC.out) (fun h => by have h1 := HBL.out; have h2 := HB.out.size; have h3 : b = wr.heap.size := Option.some.inj h; omega)
          have HV1 := hid ho1
          have HO1 := hid (((HO.out.alloc (.cells #[] 5)).drew).kept hg1 HF.out)
          have HG1 := hid hg1
          have HN1 := hid hn1
          clear ho1 hg1 hn1 hc
          go_wp2
          refine ⟨hk1, wpTA_cons rfl ?_⟩
          have HK1 := hid hk1; clear hk1
          go_wp2
          refine ⟨((Below_one _).cell (p := ⟨b, off + k, none⟩) (Go.block_lt_of_cell HK1.out)).trans HK1.out, wpTA_nil (.cons rfl (.cons rfl .nil)) ?_⟩
          refine wpList_app rfl (.tmp 20) (.tmp 35) 29 29 rfl i1 _ 24 Try.underlying29 Ji.out Jz0.out Jz1.out Jz2.out rfl rfl (HO1.out.alloc _) _ rfl 1 [.slice a1 q c1] (Src.ofRow Try.underlying29 (some ⟨_, 0, none⟩) 1 [_] (.ofWhole (al_new rfl)) (fun u hu => by rw [List.mem_singleton] at hu; subst hu; rfl)) B4.out B5.out (by have := HB.out.size; have := HG1.out.size; simp at this ⊢; omega) ?_
          intro v2 w2 ho2 hg2 hn2
          have HO2 := hid ho2
          have HG2 := hid hg2
          have HN2 := hid hn2
          clear ho2 hg2 hn2
          go_wp2
          refine NoPanic.normal ?_
          have h1 := H1.out
          go_wp2
          go_roundw
          case rel =>
            have hlen := few_len ps most size k hk hkm
            have hzip : (vs ++ [(a1, c1)]).zip (few (ps.take (k + 1)) most size) = vs.zip (few (ps.take k) most size) ++ [((a1, c1), p.take size)] := by
              rw [Hsn.out, List.zip_append (by rw [hlen, HVS.out])]; rfl
            have hq := Hq.out
            refine ⟨k + 1, by omega, by omega, by go_num, ⟨vs ++ [(a1, c1)], by rw [List.length_append, HVS.out]; rfl, ?_, fun v' p' hm => ?_⟩, ?_⟩
            · rw [hzip, List.map_append]
              have := HO2.out
              rw [← hq] at this
              exact this
            · rw [hzip, List.mem_append, List.mem_singleton] at hm
              rcases hm with hm | hm
              · have ho := HRO.out v' p' hm
                have hn : (Value.slice v'.1 p'.length v'.2).ownBlock = none ∨ (Value.slice v'.1 p'.length v'.2).ownBlock ≠ some wr.heap.size := .inr fun h => by have := (ho.lt _ h).2; omega
                have ho1 := ((ho.alloc (.cells #[] 5)).drew).kept HG1.out hn
                exact (ho1.alloc _).kept HG2.out (ho1.ne_of_type HO1.out (by decide))
              · injection hm with h3 h4
                subst h3; subst h4
                have ho := HV1.out.base_le (b' := w.heap.size) fun g hg => Nat.le_trans HB.out.size (HV1.out.lt g hg).1
                rw [← hq] at ho
                exact (ho.alloc _).kept HG2.out (ho.ne_of_type HO1.out (by decide))
            · have b1 := (HB.out.alloc HB.out.size (.cells #[] 5)).drew
              have b2 := b1.grown HG1.out b1.size (fun g hg => by have h3 : wr.heap.size = g := Option.some.inj hg; have := HB.out.size; omega)
              exact (b2.alloc b2.size _).grown HG2.out (by simp; exact Nat.le_succ_of_le b2.size) (fun g hg => (HO.out.lt g hg).1)
          case measure => simp [intOf]; omega
      · have d1 : decide ((k : Int) < (most : Int)) = false := by simp; omega
        obtain rfl : k = most := by omega
        have d2 : decide ((k : Int) < (ps.length : Int)) = true := by simp; omega
        have hf : few (ps.take k) k size = few ps k size := by unfold few; rw [List.take_take, Nat.min_self]
        have hl2 : (few ps k size).length = k := by have := few_len ps k size k hk hkm; rw [hf] at this; exact this
        rw [hf] at ho hrows
        obtain ⟨a1, c1, rfl, hp⟩ := parts_of (ps := few ps k size) (by rw [hl2, hvs]) (by rw [hl2]; exact ho) hrows
        have HP := hid hp
        have HB := hid hbw
        have HF := hid hl2
        rw [hl2]
        clear hp hbw ho hrows hvs hf hl2
        go_wp2
        go_ret
        exact ⟨a1, c1, by rw [HF.out]; rfl, HP.out, HB.out⟩
    · obtain rfl : k = ps.length := by omega
      have d2 : decide (((ps.length : Nat) : Int) < (ps.length : Int)) = false := by simp
      have hf : few ps most size = few (ps.take ps.length) most size := by rw [List.take_length]
      rw [← hf] at ho hrows
      have hl2 : (few ps most size).length = ps.length := by have := few_len ps most size ps.length hk hkm; rw [← hf] at this; exact this
      obtain ⟨a1, c1, rfl, hp⟩ := parts_of (ps := few ps most size) (by rw [hl2, hvs]) (by rw [hl2]; exact ho) hrows
      have HP := hid hp
      have HB := hid hbw
      have HF := hid hl2
      rw [hl2]
      clear hp hbw ho hrows hvs hf hl2
      go_wp2
      go_ret
      exact ⟨a1, c1, by rw [HF.out]; rfl, HP.out, HB.out⟩
end Go.Proofs.Ytlgdapgocbmcfaa
