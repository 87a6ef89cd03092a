/- The law through the layers 1 to 3, walked. -/
import Derived.Test.YtjjmhmbmjpedkaaCodecRd2
import Derived.Test.YtjjmhmbmjpedkaaCrcMore
import Derived.Test.YtjjmhmbmjpedkaaBigSum
import Derived.Test.YtjjmhmbmjpedkaaLibShape
namespace Go.Proofs.Ytjjmhmbmjpedkaa
open Go.RowKit
theorem one_differs (pre post : List UInt8) (x y : UInt8) (d : Nat) (h0 : d < 256) (e0 : y.toNat = x.toNat ^^^ d) (hd : d ≠ 0) : more 0 (pre ++ x :: post) ≠ more 0 (pre ++ y :: post) := by
  intro h
  unfold more at h
  have h' : crcL (cpl 0) (pre ++ x :: post) = crcL (cpl 0) (pre ++ y :: post) := by rw [← cpl_cpl (crcL (cpl 0) (pre ++ x :: post)), h, cpl_cpl]
  rw [crcL_append, crcL_append] at h'
  generalize crcL (cpl 0) pre = s at h'
  have c0 : cb s y.toNat = cb s x.toNat ^^^ iter st 8 d := by have := cb_xor s 0 x.toNat d; rwa [Nat.xor_zero, Nat.zero_xor, ← e0] at this
  rw [show crcL s (x :: post) = crcL (cb s x.toNat) post from rfl, show crcL s (y :: post) = crcL (cb s y.toNat) post from rfl, c0, crcL_xor] at h'
  have hz : iter st (8 * post.length) (iter st 8 d) = 0 := by
    have h6 := xself (crcL (cb s x.toNat) post) (iter st (8 * post.length) (iter st 8 d))
    rw [← h', Nat.xor_self] at h6
    exact h6.symm
  have := iter_zero _ (iter_lt 8 (by omega)) hz
  exact hd (iter_zero 8 (by omega) this)
theorem set_differs (bs : List UInt8) (k d : Nat) (hk : k < bs.length) (h0 : d < 256) (hd : d ≠ 0) : more 0 (bs.set k (UInt8.ofNat (bs[k].toNat ^^^ d))) ≠ more 0 bs := by
  have hx : bs[k].toNat ^^^ d < 2 ^ 8 := Nat.xor_lt_two_pow bs[k].toNat_lt (by omega)
  have e1 : bs.set k (UInt8.ofNat (bs[k].toNat ^^^ d)) = bs.take k ++ UInt8.ofNat (bs[k].toNat ^^^ d) :: bs.drop (k + 1) := by rw [List.set_eq_take_append_cons_drop, if_pos hk]
  have e2 : bs = bs.take k ++ bs[k] :: bs.drop (k + 1) := by rw [← List.drop_eq_getElem_cons hk, List.take_append_drop]
  rw [e1]
  conv => rhs; rw [e2]
  exact Ne.symm (one_differs _ _ _ _ d h0 (by show (bs[k].toNat ^^^ d) % 256 = _; exact Nat.mod_eq_of_lt hx) hd)
/-- The bytes of ints. -/
def intsB (zs : List Int) : List UInt8 := zs.flatMap intB
theorem intsB_len {zs : List Int} (h : ints zs) : (intsB zs).length ≤ 10 * zs.length := by
  unfold intsB
  induction zs with
  | nil => simp
  | cons z zs ih =>
    rw [List.flatMap_cons, List.length_append, List.length_cons]
    have h1 := h z (by simp)
    have h2 : (intB z).length ≤ 10 := grp_len64 (zig_lt h1.1 h1.2)
    have := ih fun x hx => h x (by simp [hx])
    omega
theorem intsB_take {zs : List Int} {i : Nat} (h : i < zs.length) : intsB (zs.take (i + 1)) = intsB (zs.take i) ++ intB zs[i] := by
  rw [List.take_succ_eq_append_getElem h]; unfold intsB; rw [List.flatMap_append]; simp
theorem bk_int {n : Int} (h0 : -9223372036854775808 ≤ n) (h1 : n ≤ 9223372036854775807) (rest : List UInt8) : rdInt (intB n ++ rest) 0 = (n, rest, 0) := by
  unfold rdInt intB
  rw [if_neg (by simp), tk_dec0 rest (zig_lt h0 h1) (grp_len64 (zig_lt h0 h1))]
  dsimp only
  rw [if_neg (by simp), List.drop_left, zag_zig]
theorem fresh_w (w : World) : WAt (w.alloc (.cells #[.slice none 0 0, .bool false] 76)) [w.heap.size] w.heap.size [] false :=
  ⟨⟨.slice none 0 0, Bk.new rfl, Own.nil _ _ _ _, fun k hk => by cases hk⟩, by simp, fun k hk => by simp at hk; subst hk; simp⟩
theorem wbelow {w w' : World} {L : List Nat} {g : Nat} {bs : List UInt8} {bad : Bool} (h : WAt w L g bs bad) (hb : Below w.heap.size w w') : WAt w' L g bs bad :=
  h.keep (fun k hk => hb.block k (h.under k hk)) hb.size
theorem known9 : crcP 0 [[49, 50, 51, 52, 53, 54, 55, 56, 57]] = 3421780262 := by decide +kernel
set_option maxRecDepth 100000 in
theorem stands_any (w : World) :
    Calls Try.prog 40 #[] w fun e w' => e = .returned (.bool true) ∧ Below w.heap.size w w' := by
  have kc := conv_const (P := Try.prog) 30 5 Try.underlying30 Try.underlying5
  go_enter Try.func40, Try.ntmps40
  go_wp2_with fail
  clear kc
  have hb := (Below_one (w := w) (.cells #[.int .u8 49, .int .u8 50, .int .u8 51, .int .u8 52, .int .u8 53, .int .u8 54, .int .u8 55, .int .u8 56, .int .u8 57] 5 (9, 10))).alloc (by simp) (.cells #[.slice (some ⟨w.heap.size, 0, none⟩) 9 9] 30)
  refine (csum_any _ _ [[49, 50, 51, 52, 53, 54, 55, 56, 57]] _ (by decide) (.ofWhole [(some ⟨w.heap.size, 0, none⟩, 9)] _ (al_new (by simp)) rfl
    (zip1 ⟨.ofWhole (al_old (al_new rfl)), Nat.le_refl _, by decide⟩))).mono ?_
  rintro e W ⟨rfl, hw⟩
  rw [known9]
  have HB := hid (hb.trans (hw.mono (by simp; omega))); clear hb hw
  go_wp2_with fail
  go_ret
  exact ⟨rfl, HB.out⟩
theorem below_app2 {W W1 w1 : World} {base : Nat} {e : TypeId} {size : Nat} {v : Value} {n : Nat} {xs : List Value} {o : Obj} (hb : Below base W W1) (ho : Own W1 base e size v n xs) (hs : base ≤ W1.heap.size) (hg : (W1.alloc o).grownBy w1 v.ownBlock) : Below base W w1 :=
  (hb.alloc hs o).grown hg (by simp; omega) (fun g h => (ho.lt g h).1)
theorem Try.infoI : (Try.prog.info? 3).map (fun i => (i.zero, i.size, i.bytes)) = some (some (.int .i64 0), 1, 8) := by kernel_rfl
theorem Src.builtI {W : World} (z : Int) : Src Try.prog 1 34 (.slice (some ⟨W.heap.size, 0, none⟩) 1 1) 1 [iV z] (W.alloc (.cells #[.int .i64 z] 3)) :=
  Src.ofRow Try.underlying34 (some ⟨W.heap.size, 0, none⟩) 1 [iV z] (RowAt.ofWhole (vs := [iV z]) (al_new rfl)) (by intro u hu; rw [List.mem_singleton] at hu; subst hu; rfl)
set_option maxRecDepth 100000 in
set_option maxHeartbeats 4000000 in
theorem topParts_walk (a : Option Addr) (ca : Nat) (zl : List Int) (at' : Int) (d : Nat) (w : World) (hd : d < 256) (hra : RowAt w a (zl.map iV)) (hin : ints zl) :
    Calls Try.prog 10 #[.slice a zl.length ca, .int .i64 at', .int .u8 d] w fun e w' => e = .returned (.bool true) ∧ Below w.heap.size w w' := by
  have HR := Bx.mk hra; have HI := Bx.mk hin; have HDd := Bx.mk hd
  obtain ⟨i0, hi0, hz0, hz1, hz2⟩ := info_parts Try.infoI
  have Hi := Bx.mk hi0; have Hz0 := Bx.mk hz0; have Hz1 := Bx.mk hz1; have Hz2 := Bx.mk hz2
  clear hi0 hz0 hz1 hz2 hra hin hd
  have H0 := Bx.mk (fresh_w w)
  have B0 := Bx.mk (Below_one (w := w) (.cells #[.slice none 0 0, .bool false] 76))
  go_enter Try.func10, Try.ntmps10
  go_upto_block 0 with fail
  obtain ⟨g, hg⟩ : ∃ g, g = w.heap.size := ⟨_, rfl⟩
  rw [← hg] at H0 B0 ⊢
  have HG := Bx.mk hg
  clear hg
  generalize w.alloc (.cells #[.slice none 0 0, .bool false] 76) = W0 at *
  go_cut [8] (fun t8 wx => ∃ (zs : List Int) (L : List Nat), (zs.length ≤ 20 ∧ ints zs) ∧ Own wx g 3 1 t8 zs.length (zs.map iV) ∧ WAt wx L g (intsB zs) false ∧ Below g w wx)
  case first =>
    go_wp2_with fail
    go_loopw [8,9,22,23,24,25,26,27,28,29,30,31,32,33,34,35,36,37,38,39,40,41,42,43,44] (fun t8 t9 _ _ _ _ _ _ _ _ _ _ _ _ _ _ _ _ _ _ _ _ _ _ _ wr => ∃ (i : Nat) (L : List Nat), i ≤ zl.length ∧ i ≤ 20 ∧ t9 = .int .i64 i ∧ Own wr g 3 1 t8 i ((zl.take i).map iV) ∧ WAt wr L g (intsB (zl.take i)) false ∧ (∀ k, t8.ownBlock = some k → k ∉ L) ∧ Below g w wr ∧ From g L) (fun _ t9 _ _ _ _ _ _ _ _ _ _ _ _ _ _ _ _ _ _ _ _ _ _ _ _ => zl.length - (intOf t9).toNat)
    case atStart => exact ⟨0, [g], by omega, by omega, rfl, Own.nil _ _ _ _, H0.out, (fun k hk => by cases hk), B0.out, fun k hk => by simp at hk; omega⟩
    case round =>
      obtain ⟨i, L, hi, hi20, rfl, ho, hw, hfar, hb, hf⟩ := hrel
      have HOw := Bx.mk ho; have HW := Bx.mk hw; have HFar := Bx.mk hfar; have HB := Bx.mk hb; have HF := Bx.mk hf
      clear ho hw hfar hb hf
      by_cases hlt : i < zl.length ∧ i < 20
      · obtain ⟨hlt, h20⟩ := hlt
        have hs : w.heap.size ≤ g := by rw [HG.out]; omega
        obtain ⟨b, off, rfl, hc0⟩ := HR.out.int hlt
        have CE := fun wx (hbx : Below g w wx) => Bx.mk ((hbx.cell (p := ⟨b, off + i, none⟩) (Nat.lt_of_lt_of_le (block_lt_of_cell hc0) hs)).trans hc0)
        have c0 := (CE wr HB.out).out
        have HT := Bx.mk (intsB_take hlt)
        have HM := Bx.mk (show (zl.take (i + 1)).map iV = (zl.take i).map iV ++ [iV zl[i]] by rw [List.take_succ_eq_append_getElem hlt, List.map_append]; rfl)
        have HZ := Bx.mk (HI.out _ (List.getElem_mem hlt))
        have HLn := Bx.mk (show (intsB (zl.take i)).length ≤ 200 by
          have h1 := intsB_len (zs := zl.take i) (fun z hz => HI.out z (List.mem_of_mem_take hz))
          rw [List.length_take] at h1; omega)
        have HS := Bx.mk hs
        clear hs hc0
        generalize zl[i] = z at *
        generalize (zl.take i).map iV = xs at *
        generalize intsB (zl.take i) = bs at *
        have l0 : (0 : Int) ≤ (i : Int) := by omega
        have l1 : (i : Int) < (zl.length : Int) := by omega
        go_wp2_with (refine wpList_app rfl (.tmp 32) (.tmp 37) 34 34 rfl i0 _ 8 Try.underlying34 Hi.out Hz0.out Hz1.out Hz2.out rfl rfl (HOw.out.alloc _) _ rfl 1 [iV z] (Src.builtI z) (by unfold maxLen; omega) (by omega) (by have := HB.out.size; have := HG.out; simp; omega) ?_)
        intro v1 w1 ho1 hg1 hn1
        have hsg : g ≤ wr.heap.size := by have := HB.out.size; have := HG.out; omega
        have hb1 := below_app2 HB.out HOw.out hsg hg1
        have HB1 := Bx.mk hb1
        have HW1 : Bx (WAt w1 L g bs false) := ⟨HW.out.keep (fun k hk => (hg1.block k (by have := HW.out.under k hk; simp; omega) (fun e => HFar.out k e.symm hk)).trans (Below.heap_alloc _ _ _ (HW.out.under k hk))) (Nat.le_trans (show wr.heap.size ≤ (wr.alloc (.cells #[.int .i64 z] 3)).heap.size by simp) hg1.size)⟩
        have HFar1 : Bx (∀ k, v1.ownBlock = some k → k ∉ L) := ⟨fun k hk hm => by
          rcases hn1 with h | ⟨q, h, hq⟩
          · exact HFar.out k (h ▸ hk) hm
          · rw [h] at hk; injection hk with hk
            have := HW.out.under k hm
            omega⟩
        have HO1 := Bx.mk ho1
        have e0 := (CE w1 hb1).out
        clear ho1 hg1 hn1 hb1 hsg c0
        go_wp2_with fail
        refine (wInt_any g z HZ.out.1 HZ.out.2 bs false L w1 HW1.out (by have := HLn.out; omega)).mono ?_
        rintro r w2 ⟨rfl, L2, hw2, hf2, hg2⟩
        have HW2 := Bx.mk hw2
        have HO2 := Bx.mk (HO1.out.keep fun k hk => hf2.block k (HO1.out.lt k hk).2 (HFar1.out k hk))
        have HFar2 : Bx (∀ k, v1.ownBlock = some k → k ∉ L2) := ⟨fun k hk hm => (hg2 k hm).elim (HFar1.out k hk) (fun h => by have := (HO1.out.lt k hk).2; omega)⟩
        have HB2 := Bx.mk (HB1.out.trans (hf2.below HF.out (by have := HB1.out.size; have := HG.out; omega)))
        have HF2 := Bx.mk (hg2.from HF.out (by have := HB1.out.size; have := HG.out; omega))
        clear hw2 hf2 hg2 e0
        go_wp2
        go_roundw
        case rel => exact ⟨i + 1, L2, by omega, by omega, by go_num, by rw [HM.out]; exact HO2.out, by rw [HT.out]; exact HW2.out, HFar2.out, HB2.out, HF2.out⟩
        case measure => simp [intOf]; omega
      · have HN2 := Bx.mk hlt
        have HII := Bx.mk (show ints (zl.take i) from fun z hz => HI.out z (List.mem_of_mem_take hz))
        have hln : (zl.take i).length = i := by rw [List.length_take]; omega
        have HOx : Bx (Own wr g 3 1 u8 (zl.take i).length ((zl.take i).map iV)) := ⟨by rw [hln]; exact HOw.out⟩
        have hl20 : (zl.take i).length ≤ 20 := by omega
        clear hln
        by_cases h1 : i < zl.length
        · have h2 : ¬ i < 20 := fun h => hlt ⟨h1, h⟩
          clear hlt
          go_wp2
          go_meet
          case rel => exact ⟨_, L, ⟨hl20, HII.out⟩, HOx.out, HW.out, HB.out⟩
        · clear hlt
          go_wp2
          go_meet
          case rel => exact ⟨_, L, ⟨hl20, HII.out⟩, HOx.out, HW.out, HB.out⟩
  case rest =>
    obtain ⟨zs, L, ⟨hn, hi⟩, ho, hw, hb⟩ := hcut
    have HN := Bx.mk hn; have HII := Bx.mk hi; have HOw := Bx.mk ho; have HW := Bx.mk hw; have HB := Bx.mk hb
    have HLB := Bx.mk (show (intsB zs).length ≤ 200 by have := intsB_len hi; omega)
    obtain ⟨a1, c1, rfl⟩ := ho.isSlice
    clear hn hi ho hw hb
    have HGw : Bx (∀ wx, Below g w wx → g ≤ wx.heap.size) := ⟨fun wx h => by have := h.size; have := HG.out; omega⟩
    go_wp2_with fail
    refine (wBytes_any g (intsB zs) false L _ HW.out (by have := HLB.out; omega)).mono ?_
    rintro r w2 ⟨v2, rfl, ho2, hb2⟩
    obtain ⟨a2, c2, rfl⟩ := ho2.isSlice
    have HI2 := Bx.mk (HOw.out.below hb2 (Nat.le_refl _))
    have HB2 := Bx.mk (HB.out.trans (hb2.mono (HGw.out _ HB.out)))
    have HBy2 := Bx.mk (Own.base_le ho2 (b' := g) (fun k hk => Nat.le_trans (HGw.out _ HB.out) (ho2.lt k hk).1))
    have HIB : Bx (∀ k, (Value.slice a2 (intsB zs).length c2).ownBlock = some k → (Value.slice a1 zs.length c1).ownBlock ≠ some k) := ⟨fun k hk he => by
      have := (ho2.lt k hk).1; have := (HOw.out.lt k he).2; omega⟩
    clear ho2 hb2 HW HOw
    go_wp2_with fail
    refine (stands_any w2).mono ?_
    rintro r w3 ⟨rfl, hb3⟩
    have HI3 := Bx.mk (HI2.out.below hb3 (Nat.le_refl _)); have HBy3 := Bx.mk (HBy2.out.below hb3 (Nat.le_refl _))
    have HB3 := Bx.mk (HB2.out.trans (hb3.mono (HGw.out _ HB2.out)))
    clear hb3 HI2 HBy2
    unfold wErr
    go_wp2_with fail
    refine (cRead_any a2 c2 (intsB zs) w3 HBy3.out.row (by have := HLB.out; omega)).mono ?_
    rintro r w4 ⟨gr, Lr, rfl, hr4, hf4, hb4⟩
    have HRd := Bx.mk hr4
    have HI4 := Bx.mk (HI3.out.below hb4 (Nat.le_refl _)); have HBy4 := Bx.mk (HBy3.out.below hb4 (Nat.le_refl _))
    have HFI : Bx (∀ k, (Value.slice a1 zs.length c1).ownBlock = some k → k ∉ Lr) := ⟨fun k hk hm => by have := (HI3.out.lt k hk).2; have := hf4 k hm; omega⟩
    have HFB : Bx (∀ k, (Value.slice a2 (intsB zs).length c2).ownBlock = some k → k ∉ Lr) := ⟨fun k hk hm => by have := (HBy3.out.lt k hk).2; have := hf4 k hm; omega⟩
    have HB4 := Bx.mk (HB3.out.trans (hb4.mono (HGw.out _ HB3.out)))
    have HF4 := Bx.mk (show From g Lr from fun k hk => Nat.le_trans (HGw.out _ HB3.out) (hf4 k hk))
    clear hr4 hf4 hb4 HI3 HBy3
    obtain ⟨G, hG⟩ : ∃ G, G = w4.heap.size := ⟨_, rfl⟩
    have HUI : Bx (∀ k, (Value.slice a1 zs.length c1).ownBlock = some k → k < G) := ⟨fun k hk => by rw [hG]; exact (HI4.out.lt k hk).2⟩
    have HUB : Bx (∀ k, (Value.slice a2 (intsB zs).length c2).ownBlock = some k → k < G) := ⟨fun k hk => by rw [hG]; exact (HBy4.out.lt k hk).2⟩
    have HUL : Bx (Under Lr G) := ⟨by rw [hG]; exact HRd.out.under⟩
    have HGG := Bx.mk (show g ≤ G by rw [hG]; exact HGw.out _ HB4.out)
    have HG4 := Bx.mk (Nat.le_of_eq hG)
    clear hG
    go_upto_block 2 with fail
    go_cut [13] (fun t13 wx => Own wx G 3 1 t13 zs.length (zs.map iV) ∧ RdAt wx Lr gr [] 0 ∧ Own wx g 3 1 (.slice a1 zs.length c1) zs.length (zs.map iV) ∧ Own wx g 5 1 (.slice a2 (intsB zs).length c2) (intsB zs).length ((intsB zs).map bV) ∧ Below g w wx)
    case first =>
      go_wp2_with fail
      go_loopw [13,14,58,59,60,61,62,63,64,65,66,67,68] (fun t13 t14 _ _ _ _ _ _ _ _ _ _ _ wr => ∃ (i : Nat), i ≤ zs.length ∧ t14 = .int .i64 i ∧ Own wr G 3 1 t13 i ((zs.take i).map iV) ∧ RdAt wr Lr gr (intsB (zs.drop i)) 0 ∧ Own wr g 3 1 (.slice a1 zs.length c1) zs.length (zs.map iV) ∧ Own wr g 5 1 (.slice a2 (intsB zs).length c2) (intsB zs).length ((intsB zs).map bV) ∧ Below g w wr ∧ G ≤ wr.heap.size) (fun _ t14 _ _ _ _ _ _ _ _ _ _ _ _ => zs.length - (intOf t14).toNat)
      case atStart => exact ⟨0, by omega, rfl, Own.nil _ _ _ _, HRd.out, HI4.out, HBy4.out, HB4.out, HG4.out⟩
      case round =>
        obtain ⟨i, hi, rfl, ho, hr, hii, hby, hb, hgs⟩ := hrel
        have HO := Bx.mk ho; have HRr := Bx.mk hr; have HIr := Bx.mk hii; have HByr := Bx.mk hby; have HBr := Bx.mk hb; have HGs := Bx.mk hgs
        clear ho hr hii hby hb hgs
        by_cases hlt : i < zs.length
        · have HD := Bx.mk (show intsB (zs.drop i) = intB zs[i] ++ intsB (zs.drop (i + 1)) by rw [List.drop_eq_getElem_cons hlt]; rfl)
          have HM := Bx.mk (show (zs.take (i + 1)).map iV = (zs.take i).map iV ++ [iV zs[i]] by rw [List.take_succ_eq_append_getElem hlt, List.map_append]; rfl)
          have HZ := HII.out _ (List.getElem_mem hlt)
          have hlen := intsB_len (zs := zs.drop i) (fun z hz => HII.out z (List.mem_of_mem_drop hz))
          have h20 := HN.out
          rw [List.length_drop] at hlen
          have HC := Bx.mk (rInt_any2 gr (intsB (zs.drop i)) 0 Lr wr HRr.out (by omega))
          rw [HD.out, bk_int HZ.1 HZ.2] at HC
          clear hlen HZ
          generalize zs[i] = z at *
          generalize (zs.take i).map iV = xs at *
          go_wp2_with fail
          refine HC.out.mono ?_
          rintro r w5 ⟨rfl, hr, hf, _⟩
          have HR5 := Bx.mk hr
          have HO5 := Bx.mk (HO.out.keep fun k hk => hf.block k (HO.out.lt k hk).2 (fun hm => by have := HUL.out k hm; have := (HO.out.lt k hk).1; omega))
          have HI5 := Bx.mk (HIr.out.keep fun k hk => hf.block k (HIr.out.lt k hk).2 (HFI.out k hk))
          have HBy5 := Bx.mk (HByr.out.keep fun k hk => hf.block k (HByr.out.lt k hk).2 (HFB.out k hk))
          have HB5 := Bx.mk (HBr.out.trans (hf.below HF4.out (HGw.out _ HBr.out)))
          have HG5 := Bx.mk (Nat.le_trans HGs.out hf.size)
          clear hr hf
          go_wp2_with (refine wpList_app rfl (.tmp 64) (.tmp 67) 34 34 rfl i0 _ 8 Try.underlying34 Hi.out Hz0.out Hz1.out Hz2.out rfl rfl (HO5.out.alloc _) _ rfl 1 [iV z] (Src.builtI z) (by unfold maxLen; omega) (by omega) (by have := HG5.out; simp; omega) ?_)
          intro v1 w6 ho6 hg6 hn6
          have hk : ∀ k, k < G → w6.heap[k]? = w5.heap[k]? := fun k hk => (hg6.block k (by have := HG5.out; simp; omega) (fun e => by have := (HO5.out.lt k e.symm).1; omega)).trans (Below.heap_alloc _ _ _ (by have := HG5.out; omega))
          have hs6 : w5.heap.size ≤ w6.heap.size := Nat.le_trans (show w5.heap.size ≤ (w5.alloc (.cells #[.int .i64 z] 3)).heap.size by simp) hg6.size
          have HO6 := Bx.mk ho6
          have HR6 := Bx.mk (HR5.out.keep (fun k hm => hk k (HUL.out k hm)) hs6)
          have HI6 := Bx.mk (HI5.out.keep (fun k hm => hk k (HUI.out k hm)))
          have HBy6 := Bx.mk (HBy5.out.keep (fun k hm => hk k (HUB.out k hm)))
          have HB6 := Bx.mk ((below_app2 ((Below.refl G w5)) HO5.out HG5.out hg6).mono HGG.out)
          have HB7 := Bx.mk (HB5.out.trans HB6.out)
          have HG6 := Bx.mk (Nat.le_trans HG5.out hs6)
          clear ho6 hg6 hn6 hk hs6
          go_wp2
          go_roundw
          case rel => exact ⟨i + 1, by omega, by go_num, by rw [HM.out]; exact HO6.out, HR6.out, HI6.out, HBy6.out, HB7.out, HG6.out⟩
          case measure => simp [intOf]; omega
        · obtain rfl : i = zs.length := by omega
          rw [List.drop_length] at HRr
          rw [List.take_length] at HO
          go_wp2
          go_meet
          case rel => exact ⟨HO.out, HRr.out, HIr.out, HByr.out, HBr.out⟩
    case rest =>
      obtain ⟨ho, hr, hii, hby, hb⟩ := hcut
      obtain ⟨a3, c3, rfl⟩ := ho.isSlice
      have HO3 := Bx.mk ho.row; have HRr := Bx.mk hr; have HIr := Bx.mk hii.row; have HBy := Bx.mk hby; have HBr := Bx.mk hb
      clear ho hr hii hby hb
      obtain ⟨x, o, hf⟩ : ∃ x o, fitV (total zs) = .tuple #[.int .i64 x, .bool o] := ⟨_, _, rfl⟩
      have HFt := Bx.mk hf
      clear hf
      go_wp2_with fail
      refine (aSum_any a1 c1 zs _ _ HFt.out.symm HII.out (by have := HN.out; omega) HIr.out).mono ?_
      rintro r w5 ⟨rfl, rfl⟩
      go_wp2_with fail
      refine (aSum_any a3 c3 zs _ _ HFt.out.symm HII.out (by have := HN.out; omega) HO3.out).mono ?_
      rintro r w5 ⟨rfl, rfl⟩
      have hE : rdEnd [] 0 = 0 := rfl
      go_wp2_with fail
      refine (rEnd_any gr [] 0 Lr _ HRr.out (by simp)).mono ?_
      rintro r w5 ⟨rfl, rfl⟩
      rw [hE]
      have HGs := Bx.mk (HGw.out _ HBr.out)
      have HFin : ∀ w', Below g w w' → Below w.heap.size w w' := fun w' h => by rw [← HG.out]; exact h
      have HFi := Bx.mk HFin
      clear HFin hE
      obtain ⟨bs, hbs⟩ : ∃ bs, bs = intsB zs := ⟨_, rfl⟩
      rw [← hbs] at HBy HLB ⊢
      clear hbs
      by_cases h0 : bs.length = 0
      · have h0b : ((bs.length : Int) == 0) = true := by rw [h0]; rfl
        clear h0
        go_wp2
        go_ret
        exact ⟨rfl, HFi.out _ HBr.out⟩
      · have h0b : ((bs.length : Int) == 0) = false := by rw [beq_eq_false_iff_ne]; omega
        by_cases hd0 : d = 0
        · subst hd0
          clear h0
          go_wp2
          go_ret
          exact ⟨rfl, HFi.out _ HBr.out⟩
        · have hdb : ((d : Int) == 0) = false := by rw [beq_eq_false_iff_ne]; omega
          have HD0 := Bx.mk hd0
          obtain ⟨g2, off2, rfl, hg1, hg2⟩ := HBy.out.someAddr (by omega)
          have hcap := HBy.out.cap
          have HCap := Bx.mk hcap
          obtain ⟨k, hk⟩ : ∃ k : Nat, (k : Int) = (IntKind.u64.wrap at').tmod (bs.length : Int) := ⟨((IntKind.u64.wrap at').tmod (bs.length : Int)).toNat, by
            have h1 : 0 ≤ IntKind.u64.wrap at' := by rw [IntKind.wrap_u64]; omega
            rw [Int.toNat_of_nonneg (Int.tmod_nonneg _ h1)]⟩
          have hkl : k < bs.length := by
            have := Int.tmod_lt_of_pos (IntKind.u64.wrap at') (show (0 : Int) < (bs.length : Int) by omega)
            omega
          have HKe := Bx.mk hk.symm; have HKl := Bx.mk hkl; have HG2 := Bx.mk hg1
          have hrow := HBy.out.row
          clear hd0 hg1 hg2 hcap
          go_wp2_with fail
          refine (csum_any _ _ [bs] _ (show 1 ≤ maxLen by decide) (.ofWhole [(some ⟨g2, off2, none⟩, c2)] [bs] (al_new rfl) rfl (zip1 ⟨hrow.alloc _, HCap.out.1, HCap.out.2⟩))).mono ?_
          rintro r w6 ⟨rfl, hb6⟩
          have hb6' : Below w5.heap.size w5 w6 := (Below_one _).trans (hb6.mono (by simp))
          have HBy6 := Bx.mk (HBy.out.below hb6' (Nat.le_refl _))
          have HB6 := Bx.mk (HBr.out.trans (hb6'.mono HGs.out))
          have hcell : w6.cell? ⟨g2, off2 + k, none⟩ = some (.int .u8 (bs[k].toNat : Int)) := HBy6.out.cells g2 off2 c2 rfl k _ (by rw [List.getElem?_map, List.getElem?_eq_getElem hkl]; rfl)
          have hfz : w6.frozen? ⟨g2, off2 + k, none⟩ = false := HBy6.out.notFrozen _
          have hx : bs[k].toNat < 256 := bs[k].toNat_lt
          have hv : bV (UInt8.ofNat (bs[k].toNat ^^^ d)) = .int .u8 (bits BinOp.xor IntKind.u8 (bs[k].toNat : Int) (d : Int)) := by
            rw [u8_xor_nat _ _ hx HDd.out]
            exact bV_nat _ (Nat.xor_lt_two_pow (n := 8) hx HDd.out)
          have HSet : Bx (Own (w6.setCell ⟨g2, off2 + k, none⟩ (.int .u8 (bits BinOp.xor IntKind.u8 (bs[k].toNat : Int) (d : Int)))) g 5 1 (.slice (some ⟨g2, off2, none⟩) bs.length c2) bs.length ((bs.set k (UInt8.ofNat (bs[k].toNat ^^^ d))).map bV)) := ⟨by
            have h := HBy6.out.setCell1 (i := k) (bV (UInt8.ofNat (bs[k].toNat ^^^ d)))
            rw [← List.map_set, hv] at h
            exact h⟩
          have hne := set_differs bs k d hkl HDd.out HD0.out
          have HNe : Bx ((((crcP 0 [bs.set k (UInt8.ofNat (bs[k].toNat ^^^ d))] : Nat) : Int) != ((crcP 0 [bs] : Nat) : Int)) = true) := ⟨by
            have h1 : crcP 0 [bs.set k (UInt8.ofNat (bs[k].toNat ^^^ d))] ≠ crcP 0 [bs] := hne
            simp only [bne_iff_ne, ne_eq]
            omega⟩
          have hl2 : (bs.set k (UInt8.ofNat (bs[k].toNat ^^^ d))).length = bs.length := List.length_set
          generalize bs.set k (UInt8.ofNat (bs[k].toNat ^^^ d)) = bs2 at *
          generalize bs[k].toNat = xk at *
          generalize crcP 0 [bs] = s1 at *
          have k0 : (0 : Int) ≤ (k : Int) := by omega
          have k1 : (k : Int) < (bs.length : Int) := by omega
          have k2 : (IntKind.u64.wrap at').tmod (bs.length : Int) = (k : Int) := hk.symm
          have k3 : IntKind.u64.wrap (bs.length : Int) = (bs.length : Int) := by rw [IntKind.wrap_u64]; have := HLB.out; omega
          have k5 : (bs.length : Int) ≤ 200 := by have := HLB.out; omega
          clear hb6 hb6' hne hv hx hk hkl hrow
          go_upto_region 25 with fail
          have HB7 := Bx.mk (HB6.out.setCell (p := ⟨g2, off2 + k, none⟩) HG2.out (.int .u8 (bits BinOp.xor IntKind.u8 (xk : Int) (d : Int))))
          generalize w6.setCell ⟨g2, off2 + k, none⟩ (.int .u8 (bits BinOp.xor IntKind.u8 (xk : Int) (d : Int))) = w7 at *
          have hr2 := HSet.out.row
          have HGs7 := Bx.mk (HGw.out _ HB7.out)
          clear k2 k3 hcell hfz
          go_wp2_with fail
          refine (csum_any _ _ [bs2] _ (show 1 ≤ maxLen by decide) (.ofWhole [(some ⟨g2, off2, none⟩, c2)] [bs2] (by rw [hl2.symm]; exact al_new rfl) rfl (zip1 ⟨hr2.alloc _, by rw [hl2]; exact HCap.out.1, by rw [hl2]; exact HCap.out.2⟩))).mono ?_
          rintro r w8 ⟨rfl, hb8⟩
          have HB8 := Bx.mk (HB7.out.trans (((Below_one _).trans (hb8.mono (by simp))).mono HGs7.out))
          have hne := HNe.out
          generalize crcP 0 [bs2] = s2 at *
          clear hb8 hr2
          go_wp2
          go_ret
          exact ⟨rfl, HFi.out _ HB8.out⟩
theorem u8_nat {z : Int} (h : (Lit.int .u8 z).wf = true) : ∃ n : Nat, z = (n : Int) ∧ n < 256 := by
  have hz : 0 ≤ z ∧ z < 256 := by
    have e1 : IntKind.u8.min = 0 := rfl
    have e2 : IntKind.u8.max = 255 := rfl
    simp [Lit.wf] at h
    omega
  exact ⟨z.toNat, by omega, by omega⟩
end Go.Proofs.Ytjjmhmbmjpedkaa
