import Derived.Test.YtamlgnhnmilbdaaMCreditActs5
section
/- CreditActs: both tables are the same; walked. -/
namespace Go.Proofs.Ytamlgnhnmilbdaa
open Go.RowKit
theorem amts_ok {es : List Ses} (hok : ∀ s ∈ es, SesOk s) (x : Int) : ints (amts (nodeGs es x)) := by
  intro z hz
  obtain ⟨g, hg, rfl⟩ := List.mem_map.1 hz
  obtain ⟨s, hs, hgs⟩ := List.mem_flatMap.1 hg
  split at hgs
  · have := (hok s hs).2.2.2.2.1 g hgs
    have := this.2.2
    omega
  · cases hgs
set_option maxRecDepth 10000 in
theorem like_any {w : World} {B p r : Nat} {pl la : Int} {es : List Ses} (h : CBoth w B p r pl la es) :
    Calls Try.prog 25 #[.pointer (some ⟨p, 0, none⟩), .pointer (some ⟨r, 0, none⟩)] w fun e w' => e = .returned (.bool true) ∧ Below w.heap.size w w' := by
  refine (GCred2.like_calls (some ⟨p, 0, none⟩) (some ⟨r, 0, none⟩) w (fun v w' => v = .bool true ∧ Below w.heap.size w w') ?_).mono (by rintro e w' ⟨v, rfl, rfl, h⟩; exact ⟨rfl, h⟩)
  unfold GCred2.like_vc
  obtain ⟨⟨L, M, hT, hR, hap, hL, hM⟩, hids, hok, hlen, hpl⟩ := h
  have h16 : es.length ≤ 16 := by omega
  have hok4 : ∀ s ∈ es, s.gs.length ≤ 4 := fun s hs => (hok s hs).1.2.2.2.2.2.2
  obtain ⟨kv, xs, Mm, hrr⟩ := hR.raw w.heap.size
  obtain ⟨ka, kc, rfl⟩ := hrr.own.isSlice
  refine newO_in fun w2 n2 b2 s2 => ?_
  have hs0 := held_start n2
  refine ⟨fun a5 n5 c5 x7 wx => ∃ (i : Nat) (cs : Array Value), x7 = i ∧ i ≤ es.length ∧ i = n5 ∧ Own wx w.heap.size 3 1 (.slice a5 i c5) i (((es.take i).map (·.id)).map iV) ∧ HeldAt wx w.heap.size w.heap.size cs (es.take i) ∧ Below w.heap.size w wx, fun _ _ _ x7 _ => es.length - x7.toNat, ⟨0, _, rfl, by omega, rfl, Own.nil _ _ _ _, hs0, b2⟩, ?_⟩
  rintro a5 n5 c5 x7 wx ⟨i, cs, rfl, hi, rfl, hO, hH, hb⟩
  have hrx := hrr.below sesR hb
  have hbs := hb.size
  refine ⟨_, _, _, (rtab_cell hrx).2.2, br_dec (fun hlt => ?_) fun hge => ?_⟩
  · have hil : i < es.length := by omega
    have hxi := List.getElem?_eq_getElem hil
    have hmem := List.getElem_mem hil
    have hso := (hok _ hmem).1
    obtain ⟨rcs, ⟨ra, rc, rfl, hgr, _⟩, rb, roff, rfl, _, hrc⟩ := hrr.els.cells sesR hrr.own hxi
    refine ⟨_, _, _, (rtab_cell hrx).2.2, by omega, by omega, es[i].id, by rw [Int.toNat_natCast]; exact cellsAt_get (cellsAt_below hrc hb (Nat.le_refl _)) 0 _ rfl, ?_⟩
    refine (get_any (hT.below sesR hb) (by omega) hids (fun s hs => by have := hok4 s hs; omega) es[i].id).mono ?_
    rintro e w4 ⟨hg | hg, b4⟩
    rotate_left
    · exact absurd rfl (hg.1 _ hmem)
    obtain ⟨j, s, ga, gc, hj, rfl, og⟩ := hg
    obtain rfl : i = j := ids_inj hids hxi hj.1 hj.2.symm
    have := hxi.symm.trans hj.1; injection this with this; subst this
    have z4 := b4.size
    refine ⟨keepG_nil _ _, _, _, _, _, _, _, _, _, rfl, newO_in fun w5 n5 b5 s5 w6 h6 => drewO_in fun w7 b7 _ => br_n (by simp) ?_⟩
    have b46 : Below w4.heap.size w4 w6 := box_below b5 (Nat.le_refl _) h6
    have b47 := b46.trans (b7.mono b46.size)
    have bx7 : Below wx.heap.size wx w7 := b4.trans (b47.mono z4)
    have B7 := hb.trans (bx7.mono hbs)
    have hr7 := hrr.below sesR B7
    have hrc7 := cellsAt_below hrc B7 (Nat.le_refl _)
    have hgr7 := hgr.anywhere.below B7
    refine ⟨_, _, _, (rtab_cell hr7).2.2, by omega, by omega, _, _, _, _, _, _, _, by rw [Int.toNat_natCast]; exact hrc7, (from_any es[i] ga gc w7 ((gr_own og).anywhere.below b47) (by have := hok4 _ hmem; omega)).mono ?_⟩
    rintro e w8 ⟨fa, fc, rfl, of8, b8⟩
    have B8 := B7.trans (b8.mono B7.size)
    have bx8 := bx7.trans (b8.mono bx7.size)
    have hr8 := hrr.below sesR B8
    refine ⟨keepG_below b8, _, _, _, _, _, _, _, rfl, (rtab_cell hr8).2.2, by rw [Int.toNat_natCast]; exact cellsAt_below hrc B8 (Nat.le_refl _), (same17_eq es[i] fa ra fc rc w8 (gr_own of8).anywhere (hgr.anywhere.below B8) (by have := hok4 _ hmem; omega)).mono ?_⟩
    rintro e w9 ⟨rfl, b9⟩
    have B9 := B8.trans (b9.mono B8.size)
    have bx9 := bx8.trans (b9.mono bx8.size)
    have hr9 := hrr.below sesR B9
    refine ⟨keepG_below b9, _, rfl, br_f rfl ⟨_, _, _, (rtab_cell hr9).2.2, by omega, by omega, es[i].id, by rw [Int.toNat_natCast]; exact cellsAt_get (cellsAt_below hrc B9 (Nat.le_refl _)) 0 _ rfl, newO_in fun w10 n10 b10 s10 => ?_⟩⟩
    have bx10 := bx9.trans (b10.mono bx9.size)
    have O10 := hO.below bx10 (Nat.le_refl _)
    have H10 := hH.below bx10
    have hlt4 : ∀ k, (Value.slice a5 i c5).ownBlock = some k → w.heap.size ≤ k ∧ k < wx.heap.size := fun k hk => hO.lt k hk
    have z9 := bx9.size
    refine app_ints O10 (src_int n10 1) (by omega) (by omega) (fun g hg e => by rw [List.mem_singleton] at hg; have := hlt4 _ e; omega) fun a11 c11 w11 o11 f11 or11 => ?_
    have z11 := f11.size
    have z10 := bx10.size
    have B10 := B9.trans (b10.mono B9.size)
    have B11 := B10.trans (f11.below (b := w.heap.size) (fun k hk => (hlt4 k (by simpa using hk)).1) (by omega))
    have H11 : HeldAt w11 w.heap.size w.heap.size cs (es.take i) := H10.keep (f11.block _ H10.bk.lt (by simpa using fun e => own_apart H10.bk O10 (by decide) e)) fun n v k hv hk => by
      have hn : n < 33 := by have := (Array.getElem?_eq_some_iff.1 hv).1; rw [H10.size] at this; exact this
      obtain ⟨a1, c1, k1, k2⟩ := H10.each n hn
      rw [hv] at k1; injection k1 with k1; subst k1
      refine f11.block k (k2.lt k hk).2 fun hm => ?_
      rcases Own.ne_of_type O10 k2 (by decide) with h1 | h1
      · rw [h1] at hm; simp at hm
      · exact h1 ((by simpa using hm : _ = some k).trans hk.symm)
    refine drewO_in fun w12 b12 _ => ?_
    have B12 := B11.trans (b12.mono B11.size)
    have z12 := b12.size
    have hr12 := hrr.below sesR B12
    have hrc12 := cellsAt_below hrc B12 (Nat.le_refl _)
    have H12 := H11.below b12
    have O12 := o11.below b12 (Nat.le_refl _)
    have hnode := hso.2.1
    obtain ⟨n, hn⟩ : ∃ n : Nat, es[i].node = n := ⟨es[i].node.toNat, by omega⟩
    have hn33 : n < 33 := by omega
    obtain ⟨ha, hc, hcv, hOn⟩ := H12.each n hn33
    have hxn : es[i].node.toNat = n := by omega
    refine ⟨_, _, _, (rtab_cell hr12).2.2, by omega, by omega, es[i].node, by rw [Int.toNat_natCast]; exact cellsAt_get hrc12 1 _ rfl, _, _, _, (rtab_cell hr12).2.2, by omega, by omega, es[i].node, by rw [Int.toNat_natCast]; exact cellsAt_get hrc12 1 _ rfl, by omega, by omega, _, _, _, by rw [hxn, Nat.zero_add, Nat.mul_one, H12.bk.cell]; exact hcv, _, _, _, (rtab_cell hr12).2.2, by omega, by omega, _, _, _, by rw [Int.toNat_natCast]; exact cellsAt_get hrc12 4 _ rfl, ?_⟩
    have htk : es.take (i + 1) = es.take i ++ [es[i]] := by rw [List.take_add_one, hxi]; rfl
    have hng : nodeGs (es.take i ++ [es[i]]) n = nodeGs (es.take i) n ++ es[i].gs := by
      rw [← htk, nodeGs_take hil, if_pos hn]
    have hnl := nodeGs_len (es := es.take i) (fun s hs => hok4 s (List.mem_of_mem_take hs)) n
    rw [List.length_take] at hnl
    have hgl := hok4 _ hmem
    obtain ⟨hax, hcx, hcvx, hOx⟩ := hH.each n hn33
    have hax' : (Value.slice hax (nodeGs (es.take i) n).length hcx) = .slice ha (nodeGs (es.take i) n).length hc := by
      rw [hcvx] at hcv; injection hcv
    have hltn : ∀ k, (Value.slice ha (nodeGs (es.take i) n).length hc).ownBlock = some k → w.heap.size ≤ k ∧ k < wx.heap.size := fun k hk => hOx.lt k (by rw [hax']; exact hk)
    refine ⟨es[i].gs.length, _, _, hOn.base_le fun _ _ => Nat.zero_le _, gr_srcs Try.underlying51 (hgr.anywhere.below B12), by unfold maxLen; omega, by omega, fun g hg2 e => by rw [List.mem_singleton] at hg2; have := hltn _ e; omega, ?_⟩
    intro a13 c13 w13 o13 g13 or13 _
    have z13 := g13.size
    have far13 : ∀ k, (Value.slice a13 ((nodeGs (es.take i) n).length + es[i].gs.length) c13).ownBlock = some k → w.heap.size ≤ k := fun k hk => by
      rcases or13 with h1 | ⟨g, h1, hg2⟩
      · exact (hltn k (h1 ▸ hk)).1
      · rw [h1] at hk; injection hk with hk; have := B12.size; omega
    have B13 := below_gr B12 B12.size g13 fun k hk => (hltn k hk).1
    have hr13 := hrr.below sesR B13
    have bk13 := H12.bk.keep (g13.block _ H12.bk.lt fun e => own_apart H12.bk hOn (by decide) e.symm)
    refine ⟨(rtab_cell hr13).2.2, by rw [Int.toNat_natCast]; exact cellsAt_get (cellsAt_below hrc B13 (Nat.le_refl _)) 1 _ rfl, by omega, by omega, ?_⟩
    rw [hxn, Nat.zero_add, Nat.mul_one]
    have HT := H12.turn (s := es[i]) hn33 hn hcv (w' := w13) (v' := .slice a13 ((nodeGs (es.take i) n).length + es[i].gs.length) c13) (a' := a13) (c' := c13) (by rw [hng, List.length_append]) (by rw [hng, List.length_append, List.flatMap_append]; exact o13.base_le far13) g13 or13
    refine stO_set bk13 (by rw [H12.size]; exact hn33) (fun x hx => by rw [List.mem_singleton] at hx; have := hH.bk.lt; omega) ?_
    rw [wr64 (by omega) (by omega)]
    have O13 := O12.keep (w' := w13) fun k hk => g13.block k (O12.lt k hk).2 fun e => by
      rcases Own.ne_of_type O12 hOn (by decide) with h1 | h1
      · rw [h1] at hk; cases hk
      · exact h1 (hk.trans e)
    have O14 := O13.keep (w' := w13.setCell ⟨w.heap.size, n, none⟩ (.slice a13 ((nodeGs (es.take i) n).length + es[i].gs.length) c13)) fun k hk => Below.heap_setCell _ _ _ _ (fun e : k = w.heap.size => own_apart bk13 O13 (by decide) (e ▸ hk))
    refine ⟨⟨i + 1, _, by omega, by omega, rfl, ?_, by rw [htk]; exact HT, ?_⟩, by dsimp only; omega⟩
    · rw [htk, List.map_append]; exact O14
    · exact B13.trans (((Fr.refl [w.heap.size] w13).setCell (p := ⟨w.heap.size, n, none⟩) (.inl (by simp)) _).below (fun k hk => by rw [List.mem_singleton] at hk; omega) B13.size)
  · obtain rfl : i = es.length := by omega
    rw [List.take_length] at hO hH
    refine ⟨fun x wy => ∃ n : Nat, x = n ∧ n ≤ 33 ∧ Below wx.heap.size wx wy, fun x _ => 33 - x.toNat, ⟨0, rfl, by omega, Below.refl _ _⟩, ?_⟩
    rintro x wy ⟨n, rfl, hn, hby⟩
    refine br_dec (fun hlt => drewO_in fun w16 b16 _ => ?_) fun hge => drewO_in fun w19 b19 _ => ?_
    · have hn33 : n < 33 := by omega
      have B16 := hby.trans (b16.mono hby.size)
      have H16 := hH.below B16
      obtain ⟨ha, hc, hcv, hOn⟩ := H16.each n hn33
      have hnl := nodeGs_len (es := es) hok4 n
      have BB16 := hb.trans (B16.mono hbs)
      refine ⟨by omega, by omega, _, _, _, by rw [Int.toNat_natCast, Nat.zero_add, Nat.mul_one, H16.bk.cell]; exact hcv, (held_any (hT.below sesR BB16) (by omega) hok4 n (amts_ok (fun s hs => (hok s hs).1) n)).mono ?_⟩
      rintro e w17 ⟨rfl, b17⟩
      have B17 := B16.trans (b17.mono B16.size)
      have H17 := hH.below B17
      refine ⟨keepG_nil _ _, _, rfl, by rw [Int.toNat_natCast, Nat.zero_add, Nat.mul_one, H17.bk.cell]; exact hcv, (r16Held_any ha hc (nodeGs es n) w17 ((gr_own hOn).anywhere.below b17) (by omega) (amts_ok (fun s hs => (hok s hs).1) n)).mono ?_⟩
      rintro e w18 ⟨rfl, b18⟩
      refine ⟨keepG_nil _ _, _, rfl, br_n (by simp) ?_⟩
      rw [wr64 (by omega) (by omega)]
      exact ⟨⟨n + 1, by omega, by omega, B17.trans (b18.mono B17.size)⟩, by dsimp only; omega⟩
    · have B19 := hby.trans (b19.mono hby.size)
      have BB19 := hb.trans (B19.mono hbs)
      refine (ids_any (hT.below sesR BB19) (by omega)).mono ?_
      rintro e w20 ⟨a20, c20, rfl, o20, b20⟩
      have B20 := B19.trans (b20.mono B19.size)
      have hlm : (es.map (·.id)).length = es.length := List.length_map _
      have hsame := same_eq (zs := es.map (·.id)) (c := c20) (c2 := c5) (w := w20) (by omega) (by rw [hlm]; exact o20) (by rw [hlm]; exact hO.below B20 (Nat.le_refl _))
      rw [hlm] at hsame
      refine ⟨keepG_nil _ _, _, _, _, rfl, hsame.mono ?_⟩
      rintro e w21 ⟨rfl, b21⟩
      have B21 := hb.trans ((B20.trans (b21.mono B20.size)).mono hbs)
      refine ⟨keepG_nil _ _, _, rfl, br_t rfl ⟨la, (rtab_cell (hrr.below sesR B21)).2.1, (last_any (hT.below sesR B21)).mono ?_⟩⟩
      rintro e w22 ⟨rfl, rfl⟩
      exact ⟨keepG_nil _ _, _, rfl, (rtab_cell (hrr.below sesR B21)).2.1, by simp, B21⟩
end Go.Proofs.Ytamlgnhnmilbdaa
end
section
/- CreditActs: in every row of calls a table answers what the chapter says; of none nothing is told. -/
namespace Go.Proofs.Ytamlgnhnmilbdaa
open Go.RowKit
theorem tWrite_nil (w : World) : Calls Try.prog 20 #[.pointer none] w fun e w' => e = .returned (.tuple #[.slice none 0 0, .int .i64 1]) ∧ w = w' := by
  refine (GCred2.tWrite_calls none w (fun v w' => v = .tuple #[.slice none 0 0, .int .i64 1] ∧ w = w') ?_).mono (by rintro e w' ⟨v, rfl, rfl, rfl⟩; exact ⟨rfl, rfl⟩)
  exact br_t rfl ⟨rfl, rfl⟩
set_option maxRecDepth 10000 in
theorem lCActs_walk (z x : Int) (a : Option Addr) (c : Nat) (xs : List CAct) (w : World) (hl : xs.length ≤ maxLen) (hr : RowsAt CActAt 7 w a xs) :
    Calls Try.prog 4 #[.int .i64 z, .slice a xs.length c, .int .i64 x] w fun e w' => e = .returned (.bool true) ∧ Below w.heap.size w w' := by
  refine (GCred2.lActs_calls z a xs.length c x w (fun v w' => v = .bool true ∧ Below w.heap.size w w') ?_).mono (by rintro e w' ⟨v, rfl, rfl, h⟩; exact ⟨rfl, h⟩)
  unfold GCred2.lActs_vc
  refine (none_any w).mono ?_
  rintro e w1 ⟨rfl, rfl⟩
  refine ⟨keepG_nil _ _, _, rfl, (get_nil 1 w).mono ?_⟩
  rintro e w3 ⟨rfl, b3⟩
  refine ⟨keepG_nil _ _, _, _, _, _, _, _, _, _, rfl, newO_in fun w4 n4 b4 s4 w5 h5 => (none_any w5).mono ?_⟩
  rintro e w6 ⟨rfl, rfl⟩
  have B5 : Below w.heap.size w w5 := b3.trans ((box_below b4 (Nat.le_refl _) h5).mono b3.size)
  refine ⟨fun _ _ _ => rfl, _, rfl, (tWrite_nil w5).mono ?_⟩
  rintro e w6 ⟨rfl, rfl⟩
  refine ⟨fun _ _ _ => rfl, _, _, _, _, rfl, (credits_any w5).mono ?_⟩
  rintro e w8 ⟨rfl, b8⟩
  have B8 := B5.trans (b8.mono B5.size)
  refine ⟨keepG_below b8, _, rfl, br_f rfl (br_n (by decide) (br_n (by decide) ((none_any w8).mono ?_)))⟩
  rintro e w9 ⟨rfl, rfl⟩
  refine ⟨fun _ _ _ => rfl, _, rfl, (add_none w8).mono ?_⟩
  rintro e w10 ⟨rfl, b10⟩
  have B10 := B8.trans (b10.mono B8.size)
  refine ⟨keepG_below b10, _, rfl, br_n (by decide) ((none_any w10).mono ?_)⟩
  rintro e w11 ⟨rfl, rfl⟩
  refine ⟨fun _ _ _ => rfl, _, rfl, (set_none w10).mono ?_⟩
  rintro e w12 ⟨rfl, b12⟩
  have B12 := B10.trans (b12.mono B10.size)
  refine ⟨keepG_below b12, _, rfl, br_n (by decide) ((none_any w12).mono ?_)⟩
  rintro e w13 ⟨rfl, rfl⟩
  refine ⟨fun _ _ _ => rfl, _, rfl, (end_nil' 1 w12).mono ?_⟩
  rintro e w14 ⟨rfl, rfl⟩
  refine ⟨fun _ _ _ => rfl, _, rfl, br_n (by decide) ((none_any w12).mono ?_)⟩
  rintro e w13 ⟨rfl, rfl⟩
  refine ⟨fun _ _ _ => rfl, _, rfl, (step_nil 1 1 w12).mono ?_⟩
  rintro e w14 ⟨rfl, rfl⟩
  refine ⟨fun _ _ _ => rfl, _, rfl, br_n (by decide) ((none_any w12).mono ?_)⟩
  rintro e w13 ⟨rfl, rfl⟩
  refine ⟨fun _ _ _ => rfl, _, rfl, (ids_nil w12).mono ?_⟩
  rintro e w14 ⟨rfl, rfl⟩
  refine ⟨fun _ _ _ => rfl, _, _, _, rfl, br_n (by decide) ((none_any w12).mono ?_)⟩
  rintro e w13 ⟨rfl, rfl⟩
  refine ⟨fun _ _ _ => rfl, _, rfl, (last_nil w12).mono ?_⟩
  rintro e w14 ⟨rfl, rfl⟩
  refine ⟨fun _ _ _ => rfl, _, rfl, br_n (by decide) ((none_any w12).mono ?_)⟩
  rintro e w13 ⟨rfl, rfl⟩
  refine ⟨fun _ _ _ => rfl, _, rfl, (held_nil 1 w12).mono ?_⟩
  rintro e w14 ⟨rfl, rfl⟩
  refine ⟨fun _ _ _ => rfl, _, rfl, br_n (by decide) ?_⟩
  by_cases hz : z < 1 ∨ 16 < z
  · refine (cNew_bad z w12 hz).mono ?_
    rintro e w15 ⟨rfl, rfl⟩
    refine ⟨fun _ _ _ => rfl, _, _, rfl, br_dec (fun h1 => br_t rfl ⟨rfl, B12⟩) fun h1 => br_y (by omega) (br_t rfl ⟨rfl, B12⟩)⟩
  · have hg12 : w3.heap.size < w12.heap.size := by have := h5.2; have := b8.size; have := b10.size; have := b12.size; omega
    refine (cNew_any z w12 (by omega) (by omega)).mono ?_
    rintro e w15 ⟨rfl, h15, b15⟩
    refine ⟨keepG_below b15, _, _, rfl, br_n (by omega) (br_n (by omega) (newO_in fun w16 n16 b16 s16 => ?_))⟩
    have hp15 := h15.under w12.heap.size (by simp)
    have b1216 := b15.trans (b16.mono b15.size)
    have B16 := B12.trans (b1216.mono B12.size)
    have start : CBoth w16 w12.heap.size w12.heap.size w15.heap.size z 0 [] := by
      refine ⟨⟨[w12.heap.size], [w15.heap.size], h15.below sesR b16, ⟨⟨.slice none 0 0, [], [], n16, Own.nil _ _ _ _, ElsOk.nil, (fun k hk => by cases hk), fun k hk => by simp [Value.ownBlock] at hk⟩, by simp, fun k hk => by rw [List.mem_singleton] at hk; omega⟩, fun k k1 k2 => ?_, fun k k1 => ?_, fun k k1 => ?_⟩, (fun i j s t _ h => by cases h), (fun s h => by cases h), by simp; omega, by omega⟩
      · rw [List.mem_singleton] at k1 k2; omega
      · rw [List.mem_singleton] at k1; omega
      · rw [List.mem_singleton] at k1; omega
    refine ⟨fun y wx => ∃ (i : Nat) (la : Int) (es : List Ses), y = i ∧ i ≤ xs.length ∧ i ≤ 40 ∧ CBoth wx w12.heap.size w12.heap.size w15.heap.size z la es ∧ Below w12.heap.size w12 wx, fun y _ => 40 - y.toNat, ⟨0, 0, [], rfl, by omega, by omega, start, b1216⟩, ?_⟩
    rintro y wx ⟨i, la, es, rfl, hi, hi40, hC, hb⟩
    have hbs := hb.size
    have hbw := B12.trans (hb.mono B12.size)
    refine ⟨fun b wy => b = decide (i < xs.length ∧ i < 40) ∧ wx = wy, ?_, ?_⟩
    · exact br_dec (fun h => ⟨decide_eq_decide.2 (by omega), rfl⟩) fun h => ⟨(decide_eq_false (by omega)).symm, rfl⟩
    rintro b wy ⟨rfl, rfl⟩
    refine br_dec (fun hlt => ?_) fun hge => ?_
    · obtain ⟨bb, off, rfl, ga, gc, hc, hgr, hgc⟩ := RowsAt.get (RowsAt.mono hr fun b off x h => h.below hbw) hlt.1
      refine ⟨by omega, by omega, _, _, _, _, _, _, _, _, _, by rw [Int.toNat_natCast]; exact hc, (do_any hC hbs xs[i].what xs[i].num xs[i].s ga gc hgr hgc).mono ?_⟩
      rintro e w26 ⟨rfl, ⟨la', es', hC'⟩, b26⟩
      refine ⟨fun _ g hg => b26.block g (by rw [List.mem_singleton] at hg; omega), _, rfl, br_f rfl ?_⟩
      rw [wr64 (by omega) (by omega)]
      exact ⟨⟨i + 1, la', es', by omega, by omega, by omega, hC', hb.trans b26⟩, by dsimp only; omega⟩
    · obtain ⟨⟨L, M, hT, hR, hap, hL, hM⟩, hids, hok, hlen, hpl⟩ := id hC
      have hok4 : ∀ s ∈ es, s.gs.length ≤ 4 := fun s hs => (hok s hs).1.2.2.2.2.2.2
      refine (get_any hT (by omega) hids (fun s hs => by have := hok4 s hs; omega) x).mono ?_
      rintro e w27 ⟨hget, b27⟩
      refine ⟨keepG_below b27, ?_⟩
      rcases hget with ⟨j, s, ga, gc, hj, rfl, _⟩ | ⟨hno, rfl⟩
      · refine ⟨_, _, _, _, _, _, _, _, rfl, br_y rfl ((like_any (hC.below b27)).mono ?_)⟩
        rintro e w28 ⟨rfl, b28⟩
        have b2728 := b27.trans (b28.mono b27.size)
        refine ⟨keepG_below b28, _, rfl, br_t rfl ((rFind_any (hR.below sesR b2728) (by omega) x).mono ?_)⟩
        rintro e w29 ⟨hf, rfl⟩
        refine ⟨fun _ _ _ => rfl, ?_⟩
        rcases hf with ⟨q, t, rfl, _⟩ | ⟨hno, _⟩
        · exact ⟨_, rfl, br_y (by simp) (br_y rfl ⟨rfl, hbw.trans (b2728.mono hbw.size)⟩)⟩
        · exact absurd hj.2 (hno s (List.mem_of_getElem? hj.1))
      · refine ⟨_, _, _, _, _, _, _, _, rfl, br_y rfl ((like_any (hC.below b27)).mono ?_)⟩
        rintro e w28 ⟨rfl, b28⟩
        have b2728 := b27.trans (b28.mono b27.size)
        refine ⟨keepG_below b28, _, rfl, br_t rfl ((rFind_any (hR.below sesR b2728) (by omega) x).mono ?_)⟩
        rintro e w29 ⟨hf, rfl⟩
        refine ⟨fun _ _ _ => rfl, ?_⟩
        rcases hf with ⟨q, t, rfl, hq⟩ | ⟨_, rfl⟩
        · exact absurd hq.2 (hno t (List.mem_of_getElem? hq.1))
        · exact ⟨_, rfl, br_y (by decide) (br_n (by decide) ⟨by simp, hbw.trans (b2728.mono hbw.size)⟩)⟩
end Go.Proofs.Ytamlgnhnmilbdaa
end
