/- The law of what a writer writes, walked. -/
import Derived.Test.YtlgdapgocbmcfaaCodecPart
import Derived.Test.YtlgdapgocbmcfaaLibShape
namespace Go.Proofs.Ytlgdapgocbmcfaa
open Go.RowKit
/-- A part, as data. -/
structure PD where
  k : Int
  n : Int
  y : Bool
  t : List UInt8
def PD.ok (p : PD) : Prop := -9223372036854775808 ≤ p.n ∧ p.n ≤ 9223372036854775807
/-- One part in memory. -/
def PartAt (w : World) (b o : Nat) (p : PD) : Prop :=
  ∃ v c, w.cell? ⟨b, o, none⟩ = some (.int .i64 p.k) ∧ w.cell? ⟨b, o + 1, none⟩ = some (.int .i64 p.n) ∧ w.cell? ⟨b, o + 2, none⟩ = some (.bool p.y) ∧ w.cell? ⟨b, o + 3, none⟩ = some (.slice v p.t.length c) ∧ RowAt w v (p.t.map bV) ∧ p.t.length ≤ c
def PartsL (w : World) (a : Option Addr) (ps : List PD) : Prop := ps = [] ∨ ∃ b off, a = some ⟨b, off, none⟩ ∧ ∀ i p, ps[i]? = some p → PartAt w b (off + i * 4) p
theorem PartAt.below {w w' : World} {b o : Nat} {p : PD} (h : PartAt w b o p) {B : Nat} (hb : Below B w w') (hB : w.heap.size ≤ B) : PartAt w' b o p := by
  obtain ⟨v, c, h0, h1, h2, h3, h4, h5⟩ := h
  have hl := block_lt_of_cell h0
  have e : ∀ j x, w.cell? ⟨b, j, none⟩ = some x → w'.cell? ⟨b, j, none⟩ = some x := fun j x hx => (hb.cell (p := ⟨b, j, none⟩) (Nat.lt_of_lt_of_le hl hB)).trans hx
  exact ⟨v, c, e _ _ h0, e _ _ h1, e _ _ h2, e _ _ h3, h4.below hb hB, h5⟩
theorem PartsL.below {w w' : World} {a : Option Addr} {ps : List PD} (h : PartsL w a ps) {B : Nat} (hb : Below B w w') (hB : w.heap.size ≤ B) : PartsL w' a ps := by
  rcases h with h | ⟨b, off, rfl, h⟩
  · exact .inl h
  · exact .inr ⟨b, off, rfl, fun i p hp => (h i p hp).below hb hB⟩
theorem PartsL.at {w : World} {a : Option Addr} {ps : List PD} (h : PartsL w a ps) {i : Nat} (hi : i < ps.length) : ∃ b off, a = some ⟨b, off, none⟩ ∧ PartAt w b (off + i * 4) ps[i] := by
  rcases h with rfl | ⟨b, off, rfl, h⟩
  · simp at hi
  · exact ⟨b, off, rfl, h i _ (List.getElem?_eq_getElem hi)⟩
def shPart : Sh := .agg (.fcons 0 1 (.int .i64) (.fcons 1 1 (.int .i64) (.fcons 2 1 .bool (.fcons 3 1 shBytes .fnil))))
def shParts : Sh := .slice shPart 4
theorem has_parts {w : World} {cs : List Value} (h : shParts.Has w cs) : ∃ (ps : List PD) (a : Option Addr) (c : Nat), cs = [.slice a ps.length c] ∧ ps.length ≤ c ∧ c ≤ maxLen ∧ PartsL w a ps ∧ ∀ p ∈ ps, p.ok := by
  rcases h with rfl | ⟨a, len, cap, rfl, hl, hm, hall⟩
  · exact ⟨[], none, 0, rfl, Nat.le_refl _, by decide, .inl rfl, fun p h => by cases h⟩
  · obtain ⟨ps, hz, hp⟩ := exists_list (p := fun i (p : PD) => PartAt w a.block (a.off + i * 4) p ∧ p.ok ∧ a = ⟨a.block, a.off, none⟩) len (fun i hi => by
      obtain ⟨cs0, ⟨h01, h02⟩, _⟩ := hall 0 (by omega)
      have ha : a = ⟨a.block, a.off, none⟩ := by
        have := h02 0 (by omega)
        rw [List.getElem?_eq_getElem (by omega)] at this
        exact addr_plain this
      obtain ⟨cs', ⟨h1, h2⟩, ⟨k, hk, _⟩, ⟨n, hn, hnw⟩, ⟨y, hy⟩, hb, _⟩ := hall i hi
      obtain ⟨bs, v, c, hv, hc, _, hr⟩ := has_bytes hb
      match cs', h1 with
      | [c0, c1, c2, c3], _ =>
        simp at hk hn hy hv
        subst hk; subst hn; subst hy; subst hv
        have e : ∀ j, a.add (i * 4 + j) = ⟨a.block, a.off + i * 4 + j, none⟩ := fun j => by rw [ha]; simp [Addr.add_lit, Nat.add_assoc]
        have g0 := h2 0 (by omega); have g1 := h2 1 (by omega); have g2 := h2 2 (by omega); have g3 := h2 3 (by omega)
        rw [e] at g0 g1 g2 g3
        exact ⟨⟨k, n, y, bs⟩, ⟨v, c, g0, g1, g2, g3, hr, hc⟩, i64_range hnw, ha⟩)
    refine ⟨ps, some a, cap, by rw [hz], by omega, hm, ?_, fun p hpm => ?_⟩
    · by_cases h0 : ps = []
      · exact .inl h0
      · have h1 : 0 < ps.length := List.length_pos_iff.2 h0
        have ha := (hp 0 _ (List.getElem?_eq_getElem h1)).2.2
        exact .inr ⟨a.block, a.off, by rw [← ha], fun i p hi => (hp i p hi).1⟩
    · obtain ⟨i, hi⟩ := List.getElem?_of_mem hpm
      exact (hp i p hi).2.1
theorem open_partsL {H : Type} {enc : TypeId × Value → H} {W : World} {t : TypeId} {v : Value} {d : DataW H} {p : List MemPlace} (hf : fitsB Try.prog shParts t = true) (hv : ∃ a l c, v = .slice a l c) (h : DataW.Trod enc Try.prog W 0 (fun _ => true) true t v d p) :
    ∃ (ps : List PD) (a : Option Addr) (c : Nat), v = .slice a ps.length c ∧ PartsL W a ps ∧ ∀ p ∈ ps, p.ok := by
  obtain ⟨a, l, c, rfl⟩ := hv
  obtain ⟨ps, a', c', h1, _, _, h4, h5⟩ := has_parts (open_sh hf h)
  simp [Value.cells] at h1
  obtain ⟨rfl, rfl, rfl⟩ := h1
  exact ⟨ps, a, c, rfl, h4, h5⟩
theorem fresh_w (w : World) : WAt (w.alloc (.cells #[.slice none 0 0, .bool false] 60)) [w.heap.size] w.heap.size [] false :=
  ⟨⟨.slice none 0 0, Bk.new rfl, Own.nil _ _ _ _, fun k hk => by cases hk⟩, by simp, fun k hk => by simp at hk; subst hk; simp⟩
set_option maxRecDepth 100000 in
set_option maxHeartbeats 2000000 in
theorem codes_any (w : World) : Calls Try.prog 38 #[] w fun e w' => e = .returned (.bool true) ∧ Below w.heap.size w w' := by
  have H0 := Bx.mk (fresh_w w)
  have e1 : ([] : List UInt8) ++ uintB 300 = [172, 2] := by
    unfold uintB; rw [if_neg (by decide)]
    show grp 300 = _
    rw [grp_ge (by decide), grp_lt (by decide)]; rfl
  have e2 : ([172, 2] : List UInt8) ++ intB (-1) = [172, 2, 1] := by
    unfold intB
    have : zig (-1) = 1 := by decide
    rw [this, grp_lt (by decide)]; rfl
  have E1 := Bx.mk e1; have E2 := Bx.mk e2
  clear e1 e2
  go_enter Try.func38, Try.ntmps38
  go_wp2_with fail
  refine (wUint_any w.heap.size 300 (by decide) [] false _ _ H0.out (by simp)).mono ?_
  rintro e w1 ⟨rfl, L1, h1, f1, g1⟩
  rw [E1.out] at h1
  have H1 := Bx.mk h1; have F1 := Bx.mk f1; have G1 := Bx.mk g1
  clear h1 f1 g1
  go_wp2_with fail
  refine (wInt_any w.heap.size (-1) (by decide) (by decide) [172, 2] _ L1 w1 H1.out (by simp)).mono ?_
  rintro e w2 ⟨rfl, L2, h2, f2, g2⟩
  rw [E2.out] at h2
  have H2 := Bx.mk h2
  have F2 := Bx.mk (F1.out.trans f2 G1.out)
  clear h2 f2 g2
  go_wp2_with fail
  refine (wBytes_any w.heap.size [172, 2, 1] _ L2 w2 H2.out (by simp)).mono ?_
  rintro e w3 ⟨v, rfl, ho, hb⟩
  obtain ⟨a, c, rfl⟩ := ho.isSlice
  have hcv : (convert 36 9 (.slice a 3 c)).run Try.prog w3 = .ok (.string ⟨#[172, 2, 1]⟩) w3 := conv_str (P := Try.prog) 36 9 Try.underlying36 Try.underlying5 Try.underlying9 w3 a c [172, 2, 1] ho.row
  have HB := Bx.mk ((((Fr.refl [] w).alloc (.cells #[.slice none 0 0, .bool false] 60)).trans (F2.out.trans (Fr.ofBelow (L := []) hb) (fun k hk => by cases hk)) (fun k hk => .inr (by simp at hk; omega))).below (b := w.heap.size) (fun k hk => by cases hk) (Nat.le_refl _))
  clear hb ho
  go_wp2
  go_ret
  exact ⟨rfl, HB.out⟩
theorem pwrite_any (g : Nat) (p : PD) (a : Option Addr) (c : Nat) (hp : p.ok) (w : World) (hr : RowAt w a (p.t.map bV)) (hc : p.t.length ≤ c) (bs : List UInt8) (bad : Bool) (L : List Nat) (h : WAt w L g bs bad) (hl : bs.length ≤ 1000000) :
    Calls Try.prog 36 #[partV p.k p.n p.y a p.t.length c, .pointer (some ⟨g, 0, none⟩)] w (W2 w L g (partBytes p.k p.n p.y p.t) (bs ++ partBytes p.k p.n p.y p.t) (bad || partBad p.k p.n)) := by
  unfold partBytes partBad
  by_cases h0 : p.k % 4 = 0
  · rw [if_pos h0, decide_eq_true h0, Bool.true_and]
    exact pwrite_uint g p.k p.n p.y a _ c hp bs bad L w h (by omega) h0
  · rw [if_neg h0, decide_eq_false h0, Bool.false_and, Bool.or_false]
    by_cases h1 : p.k % 4 = 1
    · rw [if_pos h1]
      exact pwrite_int g p.k p.n p.y a _ c hp bs bad L w h (by omega) h1
    · rw [if_neg h1]
      by_cases h2 : p.k % 4 = 2
      · rw [if_pos h2]
        exact pwrite_flag g p.k p.n p.y a _ c hp bs bad L w h (by omega) h2
      · rw [if_neg h2]
        exact pwrite_text w g p.k p.n p.y a p.t c hr hc bs bad L h hl (by omega)
/-- The bytes of parts; is one none? -/
def allBytes (ps : List PD) : List UInt8 := ps.flatMap fun p => partBytes p.k p.n p.y p.t
def anyBad (ps : List PD) : Bool := ps.any fun p => partBad p.k p.n
theorem all_take {ps : List PD} {i : Nat} (h : i < ps.length) : allBytes (ps.take (i + 1)) = allBytes (ps.take i) ++ partBytes ps[i].k ps[i].n ps[i].y ps[i].t ∧ anyBad (ps.take (i + 1)) = (anyBad (ps.take i) || partBad ps[i].k ps[i].n) := by
  rw [List.take_succ_eq_append_getElem h]
  unfold allBytes anyBad
  rw [List.flatMap_append, List.any_append]
  simp
theorem all_len {ps : List PD} (h : ∀ p ∈ ps, p.ok) (i : Nat) : (allBytes (ps.take i)).length ≤ 310 * i := by
  induction i with
  | zero => simp [allBytes]
  | succ i ih =>
    by_cases hi : i < ps.length
    · rw [(all_take hi).1, List.length_append]
      have := partBytes_len (k := ps[i].k) (y := ps[i].y) (ts := ps[i].t) (h _ (List.getElem_mem hi)).1 (h _ (List.getElem_mem hi)).2
      omega
    · rw [List.take_of_length_le (by omega)] at ih ⊢; omega
set_option maxRecDepth 100000 in
set_option maxHeartbeats 4000000 in
theorem lWrites_walk (a : Option Addr) (ca : Nat) (pl : List PD) (w : World) (hra : PartsL w a pl) (hok : ∀ p ∈ pl, p.ok) :
    Calls Try.prog 9 #[.slice a pl.length ca] w fun e w' => e = .returned (.bool true) ∧ Below w.heap.size w w' := by
  have HR := Bx.mk hra; have HO := Bx.mk hok
  have HLen := Bx.mk (all_len hok)
  clear hra hok
  go_enter Try.func9, Try.ntmps9
  go_wp2_with fail
  refine (wUint_nil 1 w).mono ?_
  rintro e w0 ⟨rfl, rfl⟩
  go_wp2_with fail
  refine (wText_nil _ 0 0 rfl _).mono ?_
  rintro e w1 ⟨rfl, rfl⟩
  go_wp2_with fail
  refine (wBytes_nil _).mono ?_
  rintro e w ⟨rfl, rfl⟩
  have H0 := Bx.mk (fresh_w w)
  have B0 := Bx.mk (Below_one (w := w) (.cells #[.slice none 0 0, .bool false] 60))
  go_upto_block 0 with fail
  obtain ⟨g, hg⟩ : ∃ g, g = w.heap.size := ⟨_, rfl⟩
  rw [← hg] at H0 B0 ⊢
  have HG := Bx.mk hg
  clear hg
  generalize w.alloc (.cells #[.slice none 0 0, .bool false] 60) = W0 at *
  go_cut [7, 8] (fun t7 t8 wx => ∃ (xs : List UInt8) (bd : Bool) (L : List Nat), t7 = .string (strOf xs) ∧ t8 = .bool bd ∧ xs.length ≤ 6200 ∧ WAt wx L g xs bd ∧ Below g w wx)
  case first =>
    go_wp2_with fail
    go_loopw [7,8,9,23,24,25,26,27,28,29,30,31,32,33,34,35,36,37,38,39,40,41,42,43,44,45,46,47,48,49,50,51,52,53,54,55,56,57] (fun t7 t8 t9 _ _ _ _ _ _ _ _ _ _ _ _ _ _ _ _ _ _ _ _ _ _ _ _ _ _ _ _ _ _ _ _ _ _ _ wr => ∃ (i : Nat) (L : List Nat), i ≤ pl.length ∧ i ≤ 20 ∧ t9 = .int .i64 i ∧ t7 = .string (strOf (allBytes (pl.take i))) ∧ t8 = .bool (anyBad (pl.take i)) ∧ WAt wr L g (allBytes (pl.take i)) (anyBad (pl.take i)) ∧ Below g w wr ∧ From g L) (fun _ _ t9 _ _ _ _ _ _ _ _ _ _ _ _ _ _ _ _ _ _ _ _ _ _ _ _ _ _ _ _ _ _ _ _ _ _ _ _ => pl.length - (intOf t9).toNat)
    case atStart => exact ⟨0, [g], by omega, by omega, rfl, rfl, rfl, H0.out, B0.out, fun k hk => by simp at hk; omega⟩
    case round =>
      obtain ⟨i, L, hi, hi20, rfl, rfl, rfl, hw, hb, hf⟩ := hrel
      have HW := Bx.mk hw; have HB := Bx.mk hb; have HF := Bx.mk hf
      have hlen := HLen.out i
      have HLi := Bx.mk (show (allBytes (pl.take i)).length ≤ 6200 by omega)
      clear hw hb hf hlen
      by_cases hlt : i < pl.length ∧ i < 20
      · obtain ⟨hlt, h20⟩ := hlt
        have hs : w.heap.size ≤ g := by rw [HG.out]; omega
        obtain ⟨b, off, rfl, v, c, c0, c1, c2, c3, hr, hc⟩ := (HR.out.below HB.out hs).at hlt
        obtain ⟨h1, h2⟩ := all_take hlt
        have H1 := Bx.mk h1; have H2 := Bx.mk h2
        have hpk := HO.out _ (List.getElem_mem hlt)
        have HPK := Bx.mk hpk; have HRt := Bx.mk hr; have HCt := Bx.mk hc
        have HLP := Bx.mk (partBytes_len (k := pl[i].k) (y := pl[i].y) (ts := pl[i].t) hpk.1 hpk.2)
        have CT := fun wx (hbx : Below g w wx) => Bx.mk ((HR.out.below hbx hs).at hlt)
        clear h1 h2 hpk hr hc hs
        generalize pl[i] = p at *
        generalize allBytes (pl.take i) = xs at *
        generalize anyBad (pl.take i) = bd at *
        have i0 : (0 : Int) ≤ (i : Int) := by omega
        have i1 : (i : Int) < (pl.length : Int) := by omega
        go_wp2_with fail
        refine (pwrite_any g p v c HPK.out wr HRt.out HCt.out xs bd L HW.out (by have := HLi.out; omega)).mono ?_
        rintro e w2 ⟨rfl, L2, hw2, hf2, hg2⟩
        have HW2 := Bx.mk hw2
        have hb2 : Below g w w2 := HB.out.trans (hf2.below HF.out (by have := HB.out.size; have := HG.out; omega))
        have HB2 := Bx.mk hb2
        have HF2 := Bx.mk (hg2.from HF.out (by have := HB.out.size; have := HG.out; omega))
        obtain ⟨b', off', he, v', c', d0, d1, d2, d3, hr', hc'⟩ := (CT w2 hb2).out
        injection he with he
        injection he with he1 he2
        subst he1; subst he2
        have hap := fun W => add_str (P := Try.prog) W xs (partBytes p.k p.n p.y p.t) (by have := HLi.out; have := HLP.out; omega)
        clear hw2 hf2 hg2 hb2 hr' hc' c0 c1 c2 c3 CT
        cases bd with
        | true =>
          go_wp2
          go_roundw
          case rel => exact ⟨i + 1, L2, by omega, by omega, by go_num, by rw [H1.out], by rw [H2.out]; rfl, by rw [H1.out, H2.out]; exact HW2.out, HB2.out, HF2.out⟩
          case measure => simp [intOf]; omega
        | false =>
          go_wp2_with fail
          refine (pkind_any p.k p.n p.y v' _ c' w2).mono ?_
          rintro e w3 ⟨rfl, hb⟩
          have HW3 := Bx.mk (wbelow HW2.out hb)
          have hs2 : g ≤ w2.heap.size := by have := HB2.out.size; have := HG.out; omega
          have hb3 : Below g w w3 := HB2.out.trans (hb.mono hs2)
          have HB3 := Bx.mk hb3
          have e1 : w3.cell? ⟨b, off + i * 4 + 1, none⟩ = some (.int .i64 p.n) := (hb.cell (p := ⟨b, off + i * 4 + 1, none⟩) (block_lt_of_cell d1)).trans d1
          clear hb hb3 hs2 d0 d1 d2 d3
          by_cases hk : p.k % 4 = 0
          · have hkb : (p.k % 4 == 0) = true := by rw [hk]; rfl
            by_cases hn : p.n < 0
            · have HPB := Bx.mk (show partBad p.k p.n = true by unfold partBad; rw [decide_eq_true hk, decide_eq_true hn]; rfl)
              rw [hk]
              clear hkb
              go_wp2
              go_roundw
              case rel => exact ⟨i + 1, L2, by omega, by omega, by go_num, by rw [H1.out], by rw [H2.out, HPB.out]; rfl, by rw [H1.out, H2.out]; exact HW3.out, HB3.out, HF2.out⟩
              case measure => simp [intOf]; omega
            · have HPB := Bx.mk (show partBad p.k p.n = false by unfold partBad; rw [decide_eq_false hn, Bool.and_false])
              rw [hk]
              clear hkb
              go_wp2
              go_roundw
              case rel => exact ⟨i + 1, L2, by omega, by omega, by go_num, by rw [H1.out], by rw [H2.out, HPB.out, decide_eq_false (show ¬ p.n < 0 by omega)]; rfl, by rw [H1.out, H2.out]; exact HW3.out, HB3.out, HF2.out⟩
              case measure => simp [intOf]; omega
          · have hkb : (p.k % 4 == 0) = false := by simpa using hk
            have HPB := Bx.mk (show partBad p.k p.n = false by unfold partBad; rw [decide_eq_false hk, Bool.false_and])
            generalize p.k % 4 = kk at *
            clear hk
            go_wp2
            go_roundw
            case rel => exact ⟨i + 1, L2, by omega, by omega, by go_num, by rw [H1.out], by rw [H2.out, HPB.out]; rfl, by rw [H1.out, H2.out]; exact HW3.out, HB3.out, HF2.out⟩
            case measure => simp [intOf]; omega
      · have HN := Bx.mk hlt
        by_cases h1 : i < pl.length
        · have h2 : ¬ i < 20 := fun h => hlt ⟨h1, h⟩
          clear hlt
          go_wp2
          go_meet
          case rel => exact ⟨_, _, L, rfl, rfl, HLi.out, HW.out, HB.out⟩
        · clear hlt
          go_wp2
          go_meet
          case rel => exact ⟨_, _, L, rfl, rfl, HLi.out, HW.out, HB.out⟩
  case rest =>
    obtain ⟨xs, bd, L, rfl, rfl, hl, hw, hb⟩ := hcut
    have HW := Bx.mk hw; have HB := Bx.mk hb
    go_wp2_with fail
    refine (wBytes_any g xs bd L _ HW.out (by omega)).mono ?_
    rintro e w2 ⟨v, rfl, ho, hb2⟩
    obtain ⟨a2, c2, rfl⟩ := ho.isSlice
    have HR2 := Bx.mk ho.row
    have HB2 := Bx.mk (HB.out.trans (hb2.mono (by have := HB.out.size; have := HG.out; omega)))
    clear hb2 ho hl hw hb
    go_wp2_with fail
    refine (codes_any w2).mono ?_
    rintro e w3 ⟨rfl, hb3⟩
    have hcv := conv_str (P := Try.prog) 36 9 Try.underlying36 Try.underlying5 Try.underlying9 w3 a2 c2 xs (HR2.out.below hb3 (Nat.le_refl _))
    have HB3 := Bx.mk (HB2.out.trans (hb3.mono (by have := HB2.out.size; have := HG.out; omega)))
    clear hb3
    have hself : ((strOf xs).toList == (strOf xs).toList) = true := by simp
    cases bd with
    | true =>
      unfold wErr
      go_wp2
      go_ret
      exact ⟨by simp, by have := HB3.out; rw [HG.out] at this; exact this⟩
    | false =>
      unfold wErr
      go_wp2
      go_ret
      exact ⟨by simp, by have := HB3.out; rw [HG.out] at this; exact this⟩
end Go.Proofs.Ytlgdapgocbmcfaa
