/- The law of what is written and read again, walked. -/
import Derived.Test.YtlgdapgocbmcfaaCodecRd3
import Derived.Test.YtlgdapgocbmcfaaCodecLaw2
import Derived.Test.YtlgdapgocbmcfaaLibRegion
import Derived.Deep.RegionHeld3
import Derived.Deep.RegionWith
namespace Go.Proofs.Ytlgdapgocbmcfaa
open Go.RowKit
theorem rLeft_any (g : Nat) (bs : List UInt8) (e : Int) (L : List Nat) (w : World) (h : RdAt w L g bs e) :
    Calls Try.prog 51 #[.pointer (some ⟨g, 0, none⟩)] w fun r w' => r = .returned (.int .i64 (bs.length : Int)) ∧ w' = w := by
  obtain ⟨⟨a, c, k1, _, _⟩, _, _⟩ := h
  have c0 : w.cell? ⟨g, 0, none⟩ = some (.slice a bs.length c) := by rw [k1.cell]; rfl
  clear k1
  go_enter Try.func51, Try.ntmps51
  go_wp2
  go_ret
  exact ⟨rfl, rfl⟩
theorem RdAt.drew {w : World} {L : List Nat} {g : Nat} {bs : List UInt8} {e : Int} (h : RdAt w L g bs e) : RdAt w.drew L g bs e := h.keep (fun _ _ => rfl) (Nat.le_refl _)
theorem bk_uint {n : Int} (h0 : 0 ≤ n) (h1 : n ≤ 9223372036854775807) (rest : List UInt8) : rdUint 9223372036854775807 (uintB n ++ rest) 0 = (n, rest, 0) := by
  obtain ⟨m, rfl⟩ := Int.eq_ofNat_of_zero_le h0
  have hg : uintB (m : Int) = grp m := by unfold uintB; rw [if_neg (by omega)]; rfl
  unfold rdUint
  rw [if_neg (by simp), hg, tk_dec0 rest (by omega) (grp_len 8 m (by omega))]
  dsimp only
  rw [if_neg (by simp), if_neg (by omega), List.drop_left]
theorem bk_int {n : Int} (h0 : -9223372036854775808 ≤ n) (h1 : n ≤ 9223372036854775807) (rest : List UInt8) : rdInt (intB n ++ rest) 0 = (n, rest, 0) := by
  unfold rdInt intB
  rw [if_neg (by simp), tk_dec0 rest (zig_lt h0 h1) (grp_len64 (zig_lt h0 h1))]
  dsimp only
  rw [if_neg (by simp), List.drop_left, zag_zig]
theorem bk_flag (y : Bool) (rest : List UInt8) : rdFlag (flagB y ++ rest) 0 = (y, rest, 0) := by
  cases y <;> rfl
theorem bk_uintM {m : Nat} {most : Int} (h : (m : Int) ≤ most) (h1 : m < 9223372036854775808) (rest : List UInt8) : rdUint most (grp m ++ rest) 0 = ((m : Int), rest, 0) := by
  unfold rdUint
  rw [if_neg (by simp), tk_dec0 rest (by omega) (grp_len 8 m (by omega))]
  dsimp only
  rw [if_neg (by simp), if_neg (by omega), List.drop_left]
theorem bk_text {ts : List UInt8} {most : Int} (h : (ts.length : Int) ≤ most) (h2 : ts.length ≤ 1000000) (rest : List UInt8) : rdText most (textB ts ++ rest) 0 = (ts, rest, 0) := by
  unfold rdText textB
  rw [if_neg (by simp), List.append_assoc, bk_uintM h (by omega)]
  dsimp only
  rw [if_neg (by simp), if_neg (by rw [List.length_append]; omega), Int.toNat_natCast, List.take_left, List.drop_left]
/-- Parts that the call has collected: their cells. -/
def InsOk (w : World) (ins : List PD) (xs : List Value) : Prop :=
  xs.length = ins.length * 4 ∧ ∀ i p, ins[i]? = some p → ∃ v c, xs[i * 4]? = some (.int .i64 p.k) ∧ xs[i * 4 + 1]? = some (.int .i64 p.n) ∧ xs[i * 4 + 2]? = some (.bool p.y) ∧ xs[i * 4 + 3]? = some (.slice v p.t.length c) ∧ RowAt w v (p.t.map bV) ∧ p.t.length ≤ c
theorem InsOk.nil (w : World) : InsOk w [] [] := ⟨rfl, fun i p h => by cases h⟩
theorem below_app2 {W W1 w1 : World} {base : Nat} {e : TypeId} {size : Nat} {v : Value} {n : Nat} {xs : List Value} {o : Obj} (hb : Below base W W1) (ho : Own W1 base e size v n xs) (hs : base ≤ W1.heap.size) (hg : (W1.alloc o).grownBy w1 v.ownBlock) : Below base W w1 :=
  (hb.alloc hs o).grown hg (by simp; omega) (fun g h => (ho.lt g h).1)
theorem cell_below {w wx : World} {g : Nat} (hb : Below g w wx) (hs : w.heap.size ≤ g) {b o : Nat} {x : Value} (h : w.cell? ⟨b, o, none⟩ = some x) : wx.cell? ⟨b, o, none⟩ = some x :=
  (hb.cell (p := ⟨b, o, none⟩) (Nat.lt_of_lt_of_le (block_lt_of_cell h) hs)).trans h
def cells4 (p : PD) (v : Option Addr) (c : Nat) : List Value := [.int .i64 p.k, .int .i64 p.n, .bool p.y, .slice v p.t.length c]
theorem InsOk.app {w : World} {ins : List PD} {xs : List Value} (h : InsOk w ins xs) {p : PD} {v : Option Addr} {c : Nat} (hr : RowAt w v (p.t.map bV)) (hc : p.t.length ≤ c) : InsOk w (ins ++ [p]) (xs ++ cells4 p v c) := by
  refine ⟨by rw [List.length_append, List.length_append, h.1]; simp [cells4]; omega, fun i q hq => ?_⟩
  by_cases hi : i < ins.length
  · rw [List.getElem?_append_left hi] at hq
    obtain ⟨v', c', h0, h1, h2, h3, h4, h5⟩ := h.2 i q hq
    have hl := h.1
    have e : ∀ j, j < 4 → (xs ++ cells4 p v c)[i * 4 + j]? = xs[i * 4 + j]? := fun j hj => List.getElem?_append_left (by omega)
    refine ⟨v', c', ?_, ?_, ?_, ?_, h4, h5⟩
    · rw [← h0]; exact e 0 (by omega)
    · rw [← h1]; exact e 1 (by omega)
    · rw [← h2]; exact e 2 (by omega)
    · rw [← h3]; exact e 3 (by omega)
  · have hl := h.1
    have hlt : i < (ins ++ [p]).length := (List.getElem?_eq_some_iff.1 hq).1
    rw [List.length_append, List.length_singleton] at hlt
    obtain rfl : i = ins.length := by omega
    rw [List.getElem?_append_right (Nat.le_refl _), Nat.sub_self] at hq
    simp at hq
    subst hq
    have e : ∀ j, (xs ++ cells4 p v c)[ins.length * 4 + j]? = (cells4 p v c)[j]? := fun j => by
      rw [List.getElem?_append_right (by omega)]; congr 1; omega
    exact ⟨v, c, e 0, e 1, e 2, e 3, hr, hc⟩
theorem Src.cells4 {W : World} {tx e' : TypeId} {t : TypeId} (hk : Try.prog.underlying tx = some (.slice e')) (p : PD) (v : Option Addr) (c : Nat) :
    Src Try.prog 4 tx (.slice (some ⟨W.heap.size, 0, none⟩) 1 1) 1 (cells4 p v c) (W.alloc (.cells #[.int .i64 p.k, .int .i64 p.n, .bool p.y, .slice v p.t.length c] t)) :=
  Src.ofSlice _ hk _ 1 1 _ rfl (fun j u hj => by
    rw [Addr.add_lit, Nat.zero_add]
    have h := cell_of_row (W.alloc (.cells #[.int .i64 p.k, .int .i64 p.n, .bool p.y, .slice v p.t.length c] t)) W.heap.size j _ _ _ (al_new rfl)
    rw [h, ← hj, ← Array.getElem?_toList]
    rfl) (fun u hu => by
    simp only [_root_.Go.Proofs.Ytlgdapgocbmcfaa.cells4, List.mem_cons, List.not_mem_nil, or_false] at hu
    rcases hu with rfl | rfl | rfl | rfl <;> rfl)
theorem Try.infoPart : (Try.prog.info? 62).map (fun i => (i.zero, i.size, i.bytes)) = some (some (.agg #[.int .i64 0, .int .i64 0, .bool false, .slice none 0 0]), 4, 48) := by kernel_rfl
def kept (ps : List PD) : List PD := ps.filter fun p => !partBad p.k p.n
theorem kept_take {ps : List PD} {i : Nat} (h : i < ps.length) : kept (ps.take (i + 1)) = if partBad ps[i].k ps[i].n = true then kept (ps.take i) else kept (ps.take i) ++ [ps[i]] := by
  rw [List.take_succ_eq_append_getElem h]
  unfold kept
  rw [List.filter_append]
  cases hb : partBad ps[i].k ps[i].n <;> simp [hb]
theorem allBytes_app (a b : List PD) : allBytes (a ++ b) = allBytes a ++ allBytes b := List.flatMap_append
theorem allBytes_len {ps : List PD} (h : ∀ p ∈ ps, p.ok) : (allBytes ps).length ≤ 310 * ps.length := by
  have := all_len h ps.length
  rwa [List.take_length] at this
theorem kept_bad {ps : List PD} : ∀ p ∈ kept ps, partBad p.k p.n = false := fun p hp => by
  unfold kept at hp
  have := (List.mem_filter.1 hp).2
  simpa using this
theorem Own.base0 {w : World} {b : Nat} {e : TypeId} {size : Nat} {v : Value} {n : Nat} {xs : List Value} (h : Own w b e size v n xs) : Own w 0 e size v n xs := h.base_le fun _ _ => Nat.zero_le _
set_option maxRecDepth 100000 in
set_option maxHeartbeats 4000000 in
theorem lCBack_walk (a : Option Addr) (ca : Nat) (pl : List PD) (w : World) (hra : PartsL w a pl) (hok : ∀ p ∈ pl, p.ok) :
    Calls Try.prog 13 #[.slice a pl.length ca] w fun e w' => e = .returned (.bool true) ∧ Below w.heap.size w w' := by
  have HR := Bx.mk hra; have HO := Bx.mk hok
  obtain ⟨i0, hi0, hz0, hz1, hz2⟩ := info_parts Try.infoPart
  have Hi := Bx.mk hi0; have Hz0 := Bx.mk hz0; have Hz1 := Bx.mk hz1; have Hz2 := Bx.mk hz2
  clear hi0 hz0 hz1 hz2 hra hok
  have H0 := Bx.mk (fresh_w w)
  have B0 := Bx.mk (Below_one (w := w) (.cells #[.slice none 0 0, .bool false] 60))
  go_enter Try.func13, Try.ntmps13
  go_upto_block 0 with fail
  obtain ⟨g, hg⟩ : ∃ g, g = w.heap.size := ⟨_, rfl⟩
  rw [← hg] at H0 B0 ⊢
  have HG := Bx.mk hg
  clear hg
  generalize w.alloc (.cells #[.slice none 0 0, .bool false] 60) = W0 at *
  go_cut [4] (fun t4 wx => ∃ (ins : List PD) (xs : List Value) (L : List Nat), (ins.length ≤ 20 ∧ (∀ p ∈ ins, p.ok ∧ partBad p.k p.n = false)) ∧ Own wx g 62 4 t4 ins.length xs ∧ InsOk w ins xs ∧ WAt wx L g (allBytes ins) false ∧ Below g w wx)
  case first =>
    go_wp2_with fail
    go_loopw [4,5,14,15,16,17,18,19,20,21,22,23,24,25,26,27,28,29,30,31,32,33,34,35,36,37,38,39,40,41,42,43,44,45,46,47,48,49,50] (fun t4 t5 _ _ _ _ _ _ _ _ _ _ _ _ _ _ _ _ _ _ _ _ _ _ _ _ _ _ _ _ _ _ _ _ _ _ _ _ _ wr => ∃ (i : Nat) (ins : List PD) (xs : List Value) (L : List Nat), i ≤ pl.length ∧ i ≤ 20 ∧ t5 = .int .i64 i ∧ (ins.length ≤ i ∧ ins = kept (pl.take i)) ∧ Own wr g 62 4 t4 ins.length xs ∧ InsOk w ins xs ∧ WAt wr L g (allBytes ins) false ∧ (∀ k, t4.ownBlock = some k → k ∉ L) ∧ Below g w wr ∧ From g L) (fun _ t5 _ _ _ _ _ _ _ _ _ _ _ _ _ _ _ _ _ _ _ _ _ _ _ _ _ _ _ _ _ _ _ _ _ _ _ _ _ _ => pl.length - (intOf t5).toNat)
    case atStart => exact ⟨0, [], [], [g], by omega, by omega, rfl, ⟨by simp, rfl⟩, Own.nil _ _ _ _, InsOk.nil _, H0.out, (fun k hk => by cases hk), B0.out, fun k hk => by simp at hk; omega⟩
    case round =>
      obtain ⟨i, ins, xs, L, hi, hi20, rfl, ⟨hn, hins⟩, ho, hxs, hw, hfar, hb, hf⟩ := hrel
      have HOw := Bx.mk ho; have HX := Bx.mk hxs; have HW := Bx.mk hw; have HFar := Bx.mk hfar; have HB := Bx.mk hb; have HF := Bx.mk hf; have HI := Bx.mk hins; have HN := Bx.mk hn
      clear ho hxs hw hfar hb hf hins hn
      by_cases hlt : i < pl.length ∧ i < 20
      · obtain ⟨hlt, h20⟩ := hlt
        have hs : w.heap.size ≤ g := by rw [HG.out]; omega
        obtain ⟨b, off, rfl, v, c, z0, z1, z2, z3, hr, hc⟩ := HR.out.at hlt
        have CE := fun wx (hbx : Below g w wx) => Bx.mk (And.intro (cell_below hbx hs z0) (And.intro (cell_below hbx hs z1) (And.intro (cell_below hbx hs z2) (cell_below hbx hs z3))))
        obtain ⟨c0, c1, c2, c3⟩ := (CE wr HB.out).out
        have HK := Bx.mk (kept_take hlt)
        have HPK := Bx.mk (HO.out _ (List.getElem_mem hlt))
        have HRt := Bx.mk hr; have HCt := Bx.mk hc
        have HS := Bx.mk hs
        clear hr hc hs z0 z1 z2 z3
        generalize pl[i] = p at *
        have l0 : (0 : Int) ≤ (i : Int) := by omega
        have l1 : (i : Int) < (pl.length : Int) := by omega
        go_upto_region 6 with fail
        go_cut [37] (fun t37 wx => t37 = .bool (!partBad p.k p.n) ∧ Below wr.heap.size wr wx)
        case first =>
          go_wp2_with fail
          refine (pkind_any p.k p.n p.y v _ c wr).mono ?_
          rintro e w3 ⟨rfl, hb⟩
          have HB3 := Bx.mk hb
          have e1 : w3.cell? ⟨b, off + i * 4 + 1, none⟩ = some (.int .i64 p.n) := (hb.cell (p := ⟨b, off + i * 4 + 1, none⟩) (block_lt_of_cell c1)).trans c1
          clear hb c0 c1 c2 c3
          by_cases hk : p.k % 4 = 0
          · rw [hk]
            by_cases hn : p.n < 0
            · have HPB := Bx.mk (show partBad p.k p.n = true by unfold partBad; rw [decide_eq_true hk, decide_eq_true hn]; rfl)
              clear hk
              go_wp2
              go_meet
              case rel => exact ⟨by rw [HPB.out, decide_eq_false (show ¬ 0 ≤ p.n by omega)]; rfl, HB3.out⟩
            · have HPB := Bx.mk (show partBad p.k p.n = false by unfold partBad; rw [decide_eq_false hn, Bool.and_false])
              clear hk
              go_wp2
              go_meet
              case rel => exact ⟨by rw [HPB.out]; rfl, HB3.out⟩
          · have hkb : (p.k % 4 != 0) = true := by simpa using hk
            have HPB := Bx.mk (show partBad p.k p.n = false by unfold partBad; rw [decide_eq_false hk, Bool.false_and])
            generalize p.k % 4 = kk at *
            clear hk
            go_wp2
            go_meet
            case rel => exact ⟨by rw [HPB.out]; rfl, HB3.out⟩
        case rest =>
          obtain ⟨rfl, hb⟩ := hcut
          have HB2 := Bx.mk (HB.out.trans (hb.mono (by have := HB.out.size; have := HG.out; omega)))
          have HOw2 := Bx.mk (HOw.out.below hb (Nat.le_refl _)); have HW2 := Bx.mk (wbelow HW.out hb)
          obtain ⟨d0, d1, d2, d3⟩ := (CE wc HB2.out).out
          clear c0 c1 c2 c3 hb
          cases hpb : partBad p.k p.n with
          | true =>
            have HPB := Bx.mk hpb
            clear hpb
            go_wp2
            go_roundw
            case rel => exact ⟨i + 1, ins, xs, L, by omega, by omega, by go_num, ⟨by have := HN.out; omega, by rw [HK.out, if_pos HPB.out]; exact HI.out⟩, HOw2.out, HX.out, HW2.out, HFar.out, HB2.out, HF.out⟩
            case measure => simp [intOf]; omega
          | false =>
            have HPB := Bx.mk hpb
            clear hpb
            go_wp2_with (refine wpList_app rfl (.tmp 38) (.tmp 43) 52 52 rfl i0 _ 48 Try.underlying52 Hi.out Hz0.out Hz1.out Hz2.out rfl rfl (HOw2.out.alloc _) _ rfl 1 (cells4 p v c) (Src.cells4 Try.underlying52 p v c) (by have := HN.out; unfold maxLen; omega) (by have := HN.out; omega) (by have := HB2.out.size; have := HG.out; simp; omega) ?_)
            intro v1 w1 ho1 hg1 hn1
            have hsg : g ≤ wc.heap.size := by have := HB2.out.size; have := HG.out; omega
            have hb1 := below_app2 HB2.out HOw2.out hsg hg1
            have HB3 := Bx.mk hb1
            have HW3 : Bx (WAt w1 L g (allBytes ins) false) := ⟨HW2.out.keep (fun k hk => (hg1.block k (by have := HW2.out.under k hk; simp; omega) (fun e => HFar.out k e.symm hk)).trans (Below.heap_alloc _ _ _ (HW2.out.under k hk))) (Nat.le_trans (show wc.heap.size ≤ (wc.alloc (.cells #[.int .i64 p.k, .int .i64 p.n, .bool p.y, .slice v p.t.length c] 62)).heap.size by simp) hg1.size)⟩
            have HFar3 : Bx (∀ k, v1.ownBlock = some k → k ∉ L) := ⟨fun k hk hm => by
              rcases hn1 with h | ⟨q, h, hq⟩
              · exact HFar.out k (h ▸ hk) hm
              · rw [h] at hk; injection hk with hk
                have := HW2.out.under k hm
                omega⟩
            have HO3 := Bx.mk ho1
            obtain ⟨e0, e1, e2, e3⟩ := (CE w1 hb1).out
            clear ho1 hg1 hn1 hb1 hsg d0 d1 d2 d3
            go_wp2_with fail
            refine (pwrite_any g p v c HPK.out w1 (HRt.out.below HB3.out HS.out) HCt.out (allBytes ins) false L HW3.out ?_).mono ?_
            · have h1 := allBytes_len (ps := ins) (fun q hq => by rw [HI.out] at hq; exact HO.out q (List.mem_of_mem_take (List.mem_filter.1 hq).1))
              have := HN.out; omega
            rintro r w2 ⟨rfl, L2, hw2, hf2, hg2⟩
            have HAB : Bx (allBytes (ins ++ [p]) = allBytes ins ++ partBytes p.k p.n p.y p.t) := ⟨by rw [allBytes_app]; simp [allBytes]⟩
            rw [HPB.out, ← HAB.out] at hw2
            have HW4 := Bx.mk hw2
            have HO4 := Bx.mk (HO3.out.keep fun k hk => hf2.block k (HO3.out.lt k hk).2 (HFar3.out k hk))
            have HFar4 : Bx (∀ k, v1.ownBlock = some k → k ∉ L2) := ⟨fun k hk hm => (hg2 k hm).elim (HFar3.out k hk) (fun h => by have := (HO3.out.lt k hk).2; omega)⟩
            have HB4 := Bx.mk (HB3.out.trans (hf2.below HF.out (by have := HB3.out.size; have := HG.out; omega)))
            have HF4 := Bx.mk (hg2.from HF.out (by have := HB3.out.size; have := HG.out; omega))
            have HX4 := Bx.mk (HX.out.app HRt.out HCt.out)
            clear hw2 hf2 hg2 e0 e1 e2 e3
            go_wp2
            go_roundw
            case rel => exact ⟨i + 1, ins ++ [p], xs ++ cells4 p v c, L2, by omega, by omega, by go_num, ⟨by have := HN.out; simp; omega, by rw [HK.out, if_neg (by rw [HPB.out]; decide), HI.out]⟩, by rw [List.length_append]; exact HO4.out, HX4.out, HW4.out, HFar4.out, HB4.out, HF4.out⟩
            case measure => simp [intOf]; omega
      · have HN2 := Bx.mk hlt
        have hp : ∀ p ∈ ins, p.ok ∧ partBad p.k p.n = false := fun p hp => by
          rw [HI.out] at hp
          exact ⟨HO.out p (List.mem_of_mem_take (List.mem_filter.1 hp).1), kept_bad p hp⟩
        have HP := Bx.mk hp
        clear hp
        by_cases h1 : i < pl.length
        · have h2 : ¬ i < 20 := fun h => hlt ⟨h1, h⟩
          clear hlt
          go_wp2
          go_meet
          case rel => exact ⟨ins, xs, L, ⟨by have := HN.out; omega, HP.out⟩, HOw.out, HX.out, HW.out, HB.out⟩
        · clear hlt
          go_wp2
          go_meet
          case rel => exact ⟨ins, xs, L, ⟨by have := HN.out; omega, HP.out⟩, HOw.out, HX.out, HW.out, HB.out⟩
  case rest =>
    obtain ⟨ins, xs, L, ⟨hn, hp⟩, ho, hx, hw, hb⟩ := hcut
    have HN := Bx.mk hn; have HP := Bx.mk hp; have HOw := Bx.mk ho; have HX := Bx.mk hx; have HW := Bx.mk hw; have HB := Bx.mk hb
    have HLB := Bx.mk (show (allBytes ins).length ≤ 6200 by have := allBytes_len (ps := ins) (fun q hq => (hp q hq).1); omega)
    obtain ⟨a1, c1, rfl⟩ := ho.isSlice
    clear hn hp ho hx hw hb
    have HS := Bx.mk (show w.heap.size ≤ g by rw [HG.out]; omega)
    go_wp2_with fail
    refine (wBytes_any g (allBytes ins) false L _ HW.out (by have := HLB.out; omega)).mono ?_
    rintro r w2 ⟨v2, rfl, ho2, hb2⟩
    obtain ⟨a2, c2, rfl⟩ := ho2.isSlice
    have HR2 := Bx.mk ho2.row
    have HO2 := Bx.mk (HOw.out.below hb2 (Nat.le_refl _))
    have HB2 := Bx.mk (HB.out.trans (hb2.mono (by have := HB.out.size; have := HG.out; omega)))
    clear ho2 hb2 HW HOw
    go_wp2_with fail
    refine (codes_any w2).mono ?_
    rintro r w3 ⟨rfl, hb3⟩
    have HR3 := Bx.mk (HR2.out.below hb3 (Nat.le_refl _))
    have HO3 := Bx.mk (HO2.out.below hb3 (Nat.le_refl _))
    have HB3 := Bx.mk (HB2.out.trans (hb3.mono (by have := HB2.out.size; have := HG.out; omega)))
    clear hb3 HR2 HO2
    unfold wErr
    go_wp2_with fail
    refine (cRead_any a2 c2 (allBytes ins) w3 HR3.out (by have := HLB.out; omega)).mono ?_
    rintro r w4 ⟨gr, Lr, rfl, hr4, hf4, hb4⟩
    have HRd := Bx.mk hr4
    have HO4 := Bx.mk (HO3.out.below hb4 (Nat.le_refl _))
    have HFar : Bx (∀ k, (Value.slice a1 ins.length c1).ownBlock = some k → k ∉ Lr) := ⟨fun k hk hm => by have := (HO3.out.lt k hk).2; have := hf4 k hm; omega⟩
    have hgs : g ≤ w3.heap.size := by have := HB3.out.size; have := HG.out; omega
    have HB4 := Bx.mk (HB3.out.trans (hb4.mono hgs))
    have HF4 := Bx.mk (show From g Lr from fun k hk => Nat.le_trans hgs (hf4 k hk))
    clear hr4 hf4 hb4 hgs HR3 HO3
    go_wp2_with fail
    go_loopw [9,10,11,64,65,66,67,68,69,70,71,72,73,74,75,76,77,78,79,80,81,82,83,84,85,86,87,88,89,90,91,92,93,94,95,96,97,98,99,100,101,102,103,104,105,106,107] (fun t9 _ _ _ _ _ _ _ _ _ _ _ _ _ _ _ _ _ _ _ _ _ _ _ _ _ _ _ _ _ _ _ _ _ _ _ _ _ _ _ _ _ _ _ _ _ _ wr => ∃ (i : Nat), i ≤ ins.length ∧ t9 = .int .i64 i ∧ Own wr g 62 4 (.slice a1 ins.length c1) ins.length xs ∧ RdAt wr Lr gr (allBytes (ins.drop i)) 0 ∧ Below g w wr) (fun t9 _ _ _ _ _ _ _ _ _ _ _ _ _ _ _ _ _ _ _ _ _ _ _ _ _ _ _ _ _ _ _ _ _ _ _ _ _ _ _ _ _ _ _ _ _ _ _ => ins.length - (intOf t9).toNat)
    case atStart => exact ⟨0, by omega, rfl, HO4.out, HRd.out, HB4.out⟩
    case round =>
      obtain ⟨i, hi, rfl, ho, hr, hb⟩ := hrel
      have HO := Bx.mk ho; have HRr := Bx.mk hr; have HBr := Bx.mk hb
      clear ho hr hb
      by_cases hlt : i < ins.length
      · have HD := Bx.mk (show allBytes (ins.drop i) = partBytes ins[i].k ins[i].n ins[i].y ins[i].t ++ allBytes (ins.drop (i + 1)) by rw [List.drop_eq_getElem_cons hlt]; rfl)
        obtain ⟨v, c, x0, x1, x2, x3, hr, hc⟩ := HX.out.2 i _ (List.getElem?_eq_getElem hlt)
        have HPi := Bx.mk (HP.out _ (List.getElem_mem hlt))
        obtain ⟨g1, off1, rfl, hg1, hg2⟩ := HO.out.someAddr (by omega)
        have hcell : ∀ j u, xs[j]? = some u → wr.cell? ⟨g1, off1 + j, none⟩ = some u := fun j u hj => HO.out.cells g1 off1 c1 rfl j u hj
        have c0 := hcell _ _ x0; have c1' := hcell _ _ x1; have c2' := hcell _ _ x2; have c3 := hcell _ _ x3
        rw [← Nat.add_assoc] at c1' c2' c3
        have HRt := Bx.mk hr; have HCt := Bx.mk hc
        clear x0 x1 x2 x3 hr hc hcell hg1 hg2
        generalize ins[i] = p at *
        rw [HD.out] at HRr
        have l0 : (0 : Int) ≤ (i : Int) := by omega
        have l1 : (i : Int) < (ins.length : Int) := by omega
        go_upto_region 17 with fail
        obtain ⟨q, hq⟩ : ∃ q, q = wr.heap.size := ⟨_, rfl⟩
        have K5 := Bx.mk (show Bk (wr.alloc (.cells #[.int .i64 p.k, .int .i64 p.n, .bool p.y, .slice v p.t.length c] 62)) q #[.int .i64 p.k, .int .i64 p.n, .bool p.y, .slice v p.t.length c] 62 from Bk.new hq)
        have hb5 := Below_one (w := wr) (.cells #[.int .i64 p.k, .int .i64 p.n, .bool p.y, .slice v p.t.length c] 62)
        have HO5 := Bx.mk (HO.out.below hb5 (Nat.le_refl _)); have HR5 := Bx.mk (HRr.out.below hb5)
        have HB5 := Bx.mk (HBr.out.trans (hb5.mono (by have := HBr.out.size; have := HG.out; omega)))
        have HQ := Bx.mk (show q ∉ Lr from fun hm => by have := HRr.out.under q hm; omega)
        rw [← hq]
        clear hb5 hq c0 c1' c2' c3
        generalize wr.alloc (.cells #[.int .i64 p.k, .int .i64 p.n, .bool p.y, .slice v p.t.length c] 62) = w5 at *
        clear HO HRr HBr
        go_wp2_with (refine wpList_load_row rfl 62 (.tmp 10) rfl q rfl 62 #[.int .i64 p.k, .int .i64 p.n, .bool p.y, .slice v p.t.length c] (0, 0) _ K5.out Try.underlying62 rfl (by kernel_rfl) ?_)
        refine (pkind_any p.k p.n p.y v _ c w5).mono ?_
        rintro e w6 ⟨rfl, hb⟩
        have K6 := Bx.mk (K5.out.keep (hb.block q K5.out.lt))
        have HO6 := Bx.mk (HO5.out.below hb (Nat.le_refl _)); have HR6 := Bx.mk (HR5.out.below hb)
        have HB6 := Bx.mk (HB5.out.trans (hb.mono (by have := HB5.out.size; have := HG.out; omega)))
        clear hb K5 HO5 HR5 HB5
        go_upto_block 4 with fail
        go_cut [11, 75] (fun t11 _ wx => t11 = .bool true ∧ RdAt wx Lr gr (allBytes (ins.drop (i + 1))) 0 ∧ Own wx g 62 4 (.slice (some ⟨g1, off1, none⟩) ins.length c1) ins.length xs ∧ Below g w wx)
        case first =>
          by_cases h0 : p.k % 4 = 0
          · have HKV := h0
            clear h0
            have hpb : partBytes p.k p.n p.y p.t = uintB p.n := by unfold partBytes; rw [if_pos HKV]
            have hn0 : 0 ≤ p.n := by
              have := HPi.out.2
              unfold partBad at this
              rw [decide_eq_true HKV, Bool.true_and] at this
              have := of_decide_eq_false this
              omega
            rw [hpb] at HR6
            have HC := Bx.mk (rUint_any gr 9223372036854775807 (by decide) (by decide) (uintB p.n ++ allBytes (ins.drop (i + 1))) 0 Lr)
            rw [bk_uint hn0 HPi.out.1.2] at HC
            rw [HKV]
            have HLn := Bx.mk (show (uintB p.n ++ allBytes (ins.drop (i + 1))).length ≤ 100000000 by
              have h1 := uintB_len HPi.out.1.2
              have h2 := allBytes_len (ps := ins.drop (i + 1)) (fun q hq => (HP.out q (List.mem_of_mem_drop hq)).1)
              rw [List.length_drop] at h2
              rw [List.length_append]; have := HN.out; omega)
            clear hpb hn0 HKV
            go_wp2_with fail
            refine wp_region_early [0, 2, 3] [1] [4, 5] (fun wx => Bk wx q #[.int .i64 p.k, .int .i64 p.n, .bool p.y, .slice v p.t.length c] 62) (by kernel_rfl) (by kernel_rfl) (by kernel_rfl) (by rfl) K6.out ?_
            apply Exists.intro
            refine ⟨fun wx hx => ?_, ?_⟩
            · have e1 : wx.cell? ⟨q, 1, none⟩ = some (.int .i64 p.n) := by rw [Bk.cell hx]; rfl
              repeat (refine seI_step rfl (fun K hK => ?_); go_simp; refine hK _ ?_; clear hK K)
              exact seI_nil rfl
            refine wpTA_cons rfl ?_
            go_wp2_with fail
            refine (HC.out w6.drew HR6.out.drew HLn.out).mono ?_
            rintro r w7 ⟨rfl, hr, hf, _⟩
            have HR7 := Bx.mk hr
            have K7 := Bx.mk (K6.out.keep (hf.block q K6.out.lt HQ.out))
            have HO7 := Bx.mk (HO6.out.keep fun k hk => hf.block k (HO6.out.lt k hk).2 (HFar.out k hk))
            have HB7 := Bx.mk (HB6.out.trans ((Below.refl _ _).drew.trans (hf.below HF4.out (by have := HB6.out.size; have := HG.out; simp; omega))))
            clear hr hf
            go_wp2
            refine ⟨K7.out, wpTA_nil (.cons rfl (.cons rfl .nil)) ?_⟩
            go_wp2
            refine NoPanic.normal ?_
            go_wp2
            go_meet
            case rel => exact ⟨by simp, HR7.out, HO7.out, HB7.out⟩
          · by_cases h1 : p.k % 4 = 1
            · have HKV := h1
              clear h0 h1
              have hpb : partBytes p.k p.n p.y p.t = intB p.n := by unfold partBytes; rw [if_neg (by omega), if_pos HKV]
              rw [hpb] at HR6
              have HC := Bx.mk (rInt_any2 gr (intB p.n ++ allBytes (ins.drop (i + 1))) 0 Lr)
              rw [bk_int HPi.out.1.1 HPi.out.1.2] at HC
              rw [HKV]
              have HLn := Bx.mk (show (intB p.n ++ allBytes (ins.drop (i + 1))).length ≤ 100000000 by
                have h1 := intB_len HPi.out.1.1 HPi.out.1.2
                have h2 := allBytes_len (ps := ins.drop (i + 1)) (fun q hq => (HP.out q (List.mem_of_mem_drop hq)).1)
                rw [List.length_drop] at h2
                rw [List.length_append]; have := HN.out; omega)
              clear hpb HKV
              go_wp2_with fail
              refine wp_region_early [0, 2, 3] [1] [4, 5] (fun wx => Bk wx q #[.int .i64 p.k, .int .i64 p.n, .bool p.y, .slice v p.t.length c] 62) (by kernel_rfl) (by kernel_rfl) (by kernel_rfl) (by rfl) K6.out ?_
              apply Exists.intro
              refine ⟨fun wx hx => ?_, ?_⟩
              · have e1 : wx.cell? ⟨q, 1, none⟩ = some (.int .i64 p.n) := by rw [Bk.cell hx]; rfl
                repeat (refine seI_step rfl (fun K hK => ?_); go_simp; refine hK _ ?_; clear hK K)
                exact seI_nil rfl
              refine wpTA_cons rfl ?_
              go_wp2_with fail
              refine (HC.out w6.drew HR6.out.drew HLn.out).mono ?_
              rintro r w7 ⟨rfl, hr, hf, _⟩
              have HR7 := Bx.mk hr
              have K7 := Bx.mk (K6.out.keep (hf.block q K6.out.lt HQ.out))
              have HO7 := Bx.mk (HO6.out.keep fun k hk => hf.block k (HO6.out.lt k hk).2 (HFar.out k hk))
              have HB7 := Bx.mk (HB6.out.trans ((Below.refl _ _).drew.trans (hf.below HF4.out (by have := HB6.out.size; have := HG.out; simp; omega))))
              clear hr hf
              go_wp2
              refine ⟨K7.out, wpTA_nil (.cons rfl (.cons rfl .nil)) ?_⟩
              go_wp2
              refine NoPanic.normal ?_
              go_wp2
              go_meet
              case rel => exact ⟨by simp, HR7.out, HO7.out, HB7.out⟩
            · by_cases h2 : p.k % 4 = 2
              · have HKV := h2
                clear h0 h1 h2
                have hpb : partBytes p.k p.n p.y p.t = flagB p.y := by unfold partBytes; rw [if_neg (by omega), if_neg (by omega), if_pos HKV]
                rw [hpb] at HR6
                have HC := Bx.mk (rFlag_any gr (flagB p.y ++ allBytes (ins.drop (i + 1))) 0 Lr)
                rw [bk_flag] at HC
                rw [HKV]
                have HLn := Bx.mk (show (flagB p.y ++ allBytes (ins.drop (i + 1))).length ≤ 100000000 by
                  have h1 := (show (flagB p.y).length ≤ 10 by simp [flagB])
                  have h2 := allBytes_len (ps := ins.drop (i + 1)) (fun q hq => (HP.out q (List.mem_of_mem_drop hq)).1)
                  rw [List.length_drop] at h2
                  rw [List.length_append]; have := HN.out; omega)
                clear hpb HKV
                go_wp2_with fail
                refine wp_region_early [0, 2, 3] [1] [4, 5] (fun wx => Bk wx q #[.int .i64 p.k, .int .i64 p.n, .bool p.y, .slice v p.t.length c] 62) (by kernel_rfl) (by kernel_rfl) (by kernel_rfl) (by rfl) K6.out ?_
                apply Exists.intro
                refine ⟨fun wx hx => ?_, ?_⟩
                · have e1 : wx.cell? ⟨q, 2, none⟩ = some (.bool p.y) := by rw [Bk.cell hx]; rfl
                  repeat (refine seI_step rfl (fun K hK => ?_); go_simp; refine hK _ ?_; clear hK K)
                  exact seI_nil rfl
                refine wpTA_cons rfl ?_
                go_wp2_with fail
                refine (HC.out w6.drew HR6.out.drew).mono ?_
                rintro r w7 ⟨rfl, hr, hf, _⟩
                have HR7 := Bx.mk hr
                have K7 := Bx.mk (K6.out.keep (hf.block q K6.out.lt HQ.out))
                have HO7 := Bx.mk (HO6.out.keep fun k hk => hf.block k (HO6.out.lt k hk).2 (HFar.out k hk))
                have HB7 := Bx.mk (HB6.out.trans ((Below.refl _ _).drew.trans (hf.below HF4.out (by have := HB6.out.size; have := HG.out; simp; omega))))
                clear hr hf
                go_wp2
                refine ⟨K7.out, wpTA_nil (.cons rfl (.cons rfl .nil)) ?_⟩
                go_wp2
                refine NoPanic.normal ?_
                go_wp2
                go_meet
                case rel => exact ⟨by simp, HR7.out, HO7.out, HB7.out⟩
              · have HKV3 : p.k % 4 = 3 := by omega
                have hpb : partBytes p.k p.n p.y p.t = textB (p.t.take 300) := by unfold partBytes; rw [if_neg (by omega), if_neg (by omega), if_neg (by omega)]
                rw [hpb] at HR6
                have hx : (p.t.take 300).length ≤ 300 := by rw [List.length_take]; omega
                have HPT := fun w8 h => Bx.mk (ptext_any p.k p.n p.y v p.t c w8 h HCt.out)
                generalize p.t.take 300 = xt at *
                have HLn := Bx.mk (show (textB xt ++ allBytes (ins.drop (i + 1))).length ≤ 100000000 by
                  have h1 := (show (textB xt).length ≤ 310 by unfold textB; rw [List.length_append]; have := grp_len64 (u := xt.length) (by omega); omega)
                  have h2 := allBytes_len (ps := ins.drop (i + 1)) (fun q hq => (HP.out q (List.mem_of_mem_drop hq)).1)
                  rw [List.length_drop] at h2
                  rw [List.length_append]; have := HN.out; omega)
                have HC := Bx.mk (rText_any gr 300 (by decide) (by decide) (textB xt ++ allBytes (ins.drop (i + 1))) 0 Lr w6.drew HR6.out.drew HLn.out)
                rw [bk_text (by omega) (by omega)] at HC
                rw [HKV3]
                clear hpb HKV3 h0 h1 h2
                have HXX := Bx.mk hx
                clear hx
                go_wp2_with fail
                have s0 : w6.cell? ⟨q, 0, none⟩ = some (.int .i64 p.k) := by rw [K6.out.cell]; rfl
                have s1 : w6.cell? ⟨q, 1, none⟩ = some (.int .i64 p.n) := by rw [K6.out.cell]; rfl
                have s2 : w6.cell? ⟨q, 2, none⟩ = some (.bool p.y) := by rw [K6.out.cell]; rfl
                have s3 : w6.cell? ⟨q, 3, none⟩ = some (.slice v p.t.length c) := by rw [K6.out.cell]; rfl
                go_region_with ((first
                    | (go_at_call 49
                       refine HC.out.mono ?_
                       rintro r w7 ⟨v7, rfl, ho7, hr7, hf7⟩
                       obtain ⟨a7, c7, rfl⟩ := ho7.isSlice
                       have HX7 := Bx.mk ho7.row
                       have HR7 := Bx.mk hr7
                       have K7 := Bx.mk (K6.out.keep (hf7.block q K6.out.lt HQ.out))
                       have HO7 := Bx.mk (HO6.out.keep fun k hk => hf7.block k (HO6.out.lt k hk).2 (HFar.out k hk))
                       have HB7 := Bx.mk (HB6.out.trans ((Below.refl _ _).drew.trans (hf7.below HF4.out (by have := HB6.out.size; have := HG.out; simp; omega))))
                       have hcv7 := conv_str (P := Try.prog) 36 9 Try.underlying36 Try.underlying5 Try.underlying9 w7 a7 c7 xt HX7.out
                       have t0 : w7.cell? ⟨q, 0, none⟩ = some (.int .i64 p.k) := by rw [K7.out.cell]; rfl
                       have t1 : w7.cell? ⟨q, 1, none⟩ = some (.int .i64 p.n) := by rw [K7.out.cell]; rfl
                       have t2 : w7.cell? ⟨q, 2, none⟩ = some (.bool p.y) := by rw [K7.out.cell]; rfl
                       have t3 : w7.cell? ⟨q, 3, none⟩ = some (.slice v p.t.length c) := by rw [K7.out.cell]; rfl
                       clear ho7 hr7 hf7)
                    | (go_at_call 50
                       refine (HPT _ (HRt.out.below HB7.out HS.out)).out.mono ?_
                       rintro r w8 ⟨v8, rfl, ho8, hb8⟩
                       obtain ⟨a8, c8, rfl⟩ := ho8.isSlice
                       have HR8 := Bx.mk (HR7.out.below hb8)
                       have HO8 := Bx.mk (HO7.out.below hb8 (Nat.le_refl _))
                       have K8 := Bx.mk (K7.out.keep (hb8.block q K7.out.lt))
                       have HB8 := Bx.mk (HB7.out.trans (hb8.mono (by have := HB7.out.size; have := HG.out; omega)))
                       have hcv8 := conv_str (P := Try.prog) 36 9 Try.underlying36 Try.underlying5 Try.underlying9 w8 a8 c8 xt ho8.row
                       have hcv78 := conv_str (P := Try.prog) 36 9 Try.underlying36 Try.underlying5 Try.underlying9 w8 a7 c7 xt (HX7.out.below hb8 (Nat.le_refl _))
                       have r0 : w8.cell? ⟨q, 0, none⟩ = some (.int .i64 p.k) := by rw [K8.out.cell]; rfl
                       have r1 : w8.cell? ⟨q, 1, none⟩ = some (.int .i64 p.n) := by rw [K8.out.cell]; rfl
                       have r2 : w8.cell? ⟨q, 2, none⟩ = some (.bool p.y) := by rw [K8.out.cell]; rfl
                       have r3 : w8.cell? ⟨q, 3, none⟩ = some (.slice v p.t.length c) := by rw [K8.out.cell]; rfl
                       clear ho8 hb8)))
                all_goals
                  go_wp2
                  go_meet
                  case rel => exact ⟨by simp, HR8.out, HO8.out, HB8.out⟩
        case rest =>
          obtain ⟨rfl, hr, ho, hb⟩ := hcut
          have HR7 := Bx.mk hr; have HO7 := Bx.mk ho; have HB7 := Bx.mk hb
          clear hr ho hb
          have l2 : ins.length ≤ 20 := HN.out
          go_wp2
          go_roundw
          case rel => exact ⟨i + 1, by omega, by go_num, HO7.out, HR7.out, HB7.out⟩
          case measure => simp [intOf]; omega
      · obtain rfl : i = ins.length := by omega
        rw [List.drop_length] at HRr
        have hE : rdEnd (allBytes []) 0 = 0 := rfl
        go_wp2_with fail
        refine (rEnd_any gr _ 0 Lr wr HRr.out (by simp [allBytes])).mono ?_
        rintro r w7 ⟨rfl, rfl⟩
        rw [hE]
        go_wp2_with fail
        refine (rLeft_any gr _ 0 Lr _ HRr.out).mono ?_
        rintro r w7 ⟨rfl, rfl⟩
        go_wp2
        go_ret
        exact ⟨by simp [allBytes], by have := HBr.out; rw [HG.out] at this; exact this⟩
end Go.Proofs.Ytlgdapgocbmcfaa
