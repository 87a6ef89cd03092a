/- WindowSparse: a window that isn't strict keeps rising numbers, with gaps; what lies in a gap is stale. -/
import Derived.Test.YtjjmhmbmjpedkaaWinLaw1
import Derived.Test.YtjjmhmbmjpedkaaLibInts
namespace Go.Proofs.Ytjjmhmbmjpedkaa
open Go.RowKit
theorem sparse_miss {m : Nat} {la z : Int} {es : List Ent} (hn : ∀ x ∈ es.drop (es.length - m), x.num ≠ z) (h0 : 0 ≤ z) (h1 : z ≤ 4611686018427387904) (q : List UInt8) : (lastWin m false la es).look z q = ([], if z ≤ la then 13 else 7) := by
  by_cases h : z ≤ la
  · rw [last_stale hn h0 h1 h, if_pos h]
  · rw [if_neg h]
    unfold Win.look lastWin
    rw [if_neg (by omega)]
    dsimp only
    rw [find_no hn]
    dsimp only
    rw [if_neg h, if_neg (by simp)]
theorem sparse_hit {m : Nat} {la : Int} {es : List Ent} {i : Nat} {e : Ent} (he : es[i]? = some e) (hi : es.length - m ≤ i) (hs : es.Pairwise fun x y => x.num < y.num) (h0 : 0 ≤ e.num) (h1 : e.num ≤ 4611686018427387904) (q : List UInt8) :
    (lastWin m false la es).look e.num q = if e.req = q then (e.ans, 0) else ([], 14) :=
  last_known he hi (fun x hx hxe => by
    obtain ⟨j, hj⟩ := List.mem_iff_getElem?.1 hx
    rw [List.pairwise_iff_getElem] at hs
    obtain ⟨hjl, rfl⟩ := List.getElem?_eq_some_iff.1 hj
    obtain ⟨hil, rfl⟩ := List.getElem?_eq_some_iff.1 he
    rcases Nat.lt_trichotomy i j with h | h | h
    · have := hs i j hil hjl h; omega
    · subst h; rfl
    · have := hs j i hjl hil h; omega) h0 h1 q
def numV (e : Ent) : Value := .int .i64 e.num
structure SparseAt (w : World) (n0 p m : Nat) (a : Option Addr) (n c : Nat) (la : Int) (es : List Ent) (L : List Nat) : Prop where
  win : WinAt w L p (lastWin m false la es)
  own : Own w 0 3 1 (.slice a n c) n (es.map numV)
  far : ∀ k, (Value.slice a n c).ownBlock = some k → k ∉ L ∧ n0 ≤ k
  frm : From n0 L
  le : ∀ x ∈ es, x.num ≤ la
  pos : ∀ x ∈ es, 0 ≤ x.num
  req : ∀ x ∈ es, x.req = [1]
  inc : es.Pairwise fun x y => x.num < y.num
theorem SparseAt.len {w : World} {n0 p m n c : Nat} {a : Option Addr} {la : Int} {es : List Ent} {L : List Nat} (h : SparseAt w n0 p m a n c la es L) : es.length = n := by have := h.own.1; simpa using this
theorem SparseAt.push {w : World} {n0 p m n c : Nat} {a : Option Addr} {la : Int} {es : List Ent} {L L2 : List Nat} (h : SparseAt w n0 p m a n c la es L) (hn0 : n0 ≤ w.heap.size) {z : Int} {ans : List UInt8} (h0 : 0 ≤ z) (hz : la < z) {w6 w7 w8 w9 : World} (b6 : Below w.heap.size w w6)
    (hw : WinAt w7 L2 p (lastWin m false z (es ++ [Ent.mk z [1] ans]))) (hf : Fr L w6 w7) (hg : Gr L L2 w6.heap.size) (b8 : Below w7.heap.size w7 w8) {a' : Option Addr} {c' : Nat}
    (ho : Own w9 0 3 1 (.slice a' (n + 1) c') (n + 1) (es.map numV ++ [.int .i64 z])) (hgr : w8.grownBy w9 (Value.slice a n c).ownBlock) (hor : (Value.slice a' (n + 1) c').ownBlock = (Value.slice a n c).ownBlock ∨ ∃ g, (Value.slice a' (n + 1) c').ownBlock = some g ∧ w8.heap.size ≤ g) :
    SparseAt w9 n0 p m a' (n + 1) c' z (es ++ [Ent.mk z [1] ans]) L2 := by
  have hs67 := hf.size
  have hs78 := b8.size
  have hold : ∀ k, (Value.slice a n c).ownBlock = some k → k ∉ L2 := fun k hk hm => by
    have hlt := (h.own.lt k hk).2
    rcases hg k hm with h1 | h1
    · exact (h.far k hk).1 h1
    · have := b6.size; omega
  refine ⟨?_, by rw [List.map_append]; exact ho, fun k hk => ?_, hg.from h.frm (Nat.le_trans hn0 b6.size), fun x hx => ?_, fun x hx => ?_, fun x hx => ?_, ?_⟩
  · refine (hw.below b8).keep (fun k hk => hgr.block k (Nat.lt_of_lt_of_le (hw.under k hk) b8.size) fun e => ?_) hgr.size
    exact hold k e.symm hk
  · rcases hor with e | ⟨g, e, hge⟩
    · rw [e] at hk
      exact ⟨hold k hk, (h.far k hk).2⟩
    · rw [e] at hk; injection hk with hk; subst hk
      refine ⟨fun hm => ?_, ?_⟩
      · have := hw.under g hm; omega
      · have := b6.size; omega
  · rcases List.mem_append.1 hx with hx | hx
    · have := h.le x hx; omega
    · rw [List.mem_singleton] at hx; subst hx; exact Int.le_refl _
  · rcases List.mem_append.1 hx with hx | hx
    · exact h.pos x hx
    · rw [List.mem_singleton] at hx; subst hx; exact h0
  · rcases List.mem_append.1 hx with hx | hx
    · exact h.req x hx
    · rw [List.mem_singleton] at hx; subst hx; rfl
  · rw [List.pairwise_append]
    refine ⟨h.inc, by simp, fun x hx y hy => ?_⟩
    rw [List.mem_singleton] at hy; subst hy
    have := h.le x hx
    dsimp only; omega
/-- A row of ints that came in. -/
def IntsAt (w : World) (a : Option Addr) (zs : List Int) : Prop := RowAt w a (zs.map fun z => Value.int .i64 z)
theorem row_int {w : World} {a : Option Addr} {zs : List Int} (h : IntsAt w a zs) {i : Nat} (hi : i < zs.length) : ∃ b off, a = some ⟨b, off, none⟩ ∧ w.cell? ⟨b, off + i * 1, none⟩ = some (.int .i64 zs[i]) := by
  rcases h with h | ⟨b, off, ha, h⟩
  · rw [List.map_eq_nil_iff] at h; subst h; simp at hi
  · exact ⟨b, off, ha, by rw [Nat.mul_one]; exact h i _ (by rw [List.getElem?_map, List.getElem?_eq_getElem hi]; rfl)⟩
theorem lSparse_walk (z : Int) (a : Option Addr) (ca : Nat) (zs : List Int) (t : Int) (w : World) (hl : zs.length ≤ maxLen) (hr : IntsAt w a zs) :
    Calls Try.prog 4 #[.int .i64 z, .slice a zs.length ca, .int .i64 t] w fun e w' => e = .returned (.bool true) ∧ Below w.heap.size w w' := by
  refine (GWinLaw.lSparse_calls z a zs.length ca t w (fun v w' => v = .bool true ∧ Below w.heap.size w w') ?_).mono (by rintro e w' ⟨v, rfl, rfl, hb⟩; exact ⟨rfl, hb⟩)
  unfold GWinLaw.lSparse_vc
  obtain ⟨m0, hm0, hm⟩ := u64_mod z 6 (by decide)
  have hmost : IntKind.i64.wrap (1 + IntKind.i64.wrap (Int.tmod (IntKind.u64.wrap z) 6)) = ((m0 + 1 : Nat) : Int) := by
    rw [show (6 : Int) = ((6 : Nat) : Int) from rfl, hm, wr64 (z := (m0 : Int)) (by omega) (by omega), wr64 (by omega) (by omega)]; omega
  obtain ⟨q, hq0, hq⟩ := u64_mod t 120 (by decide)
  have hask : IntKind.i64.wrap (Int.tmod (IntKind.u64.wrap t) 120) = (q : Int) := by
    rw [show (120 : Int) = ((120 : Nat) : Int) from rfl, hq, wr64 (by omega) (by omega)]
  simp only [hmost, hask]
  generalize hm1 : m0 + 1 = m
  refine ⟨by decide, ?_⟩
  refine (wNew_any m false w (by omega) (by omega)).mono ?_
  rintro e w1 ⟨rfl, hw1, hb1⟩
  refine ⟨keepG_nil _ _, _, _, rfl, ?_⟩
  refine (windows_any w1).mono ?_
  rintro e w2 ⟨rfl, hb2⟩
  refine ⟨keepG_nil _ _, _, rfl, ?_⟩
  refine br_f rfl (br_n (by decide) ?_)
  have B2 := hb1.trans (hb2.mono hb1.size)
  refine ⟨fun a9 n9 c9 x10 x11 wx => ∃ (i : Nat) (es : List Ent) (L : List Nat), x11 = i ∧ i ≤ zs.length ∧ i ≤ 20 ∧ i = n9 ∧ -1 ≤ x10 ∧ x10 ≤ 5 * i ∧ SparseAt wx w.heap.size w.heap.size m a9 n9 c9 x10 es L ∧ Below w.heap.size w wx, fun _ _ _ _ x11 _ => 20 - x11.toNat, ?_, ?_⟩
  · refine ⟨0, [], [w.heap.size], rfl, by omega, by omega, rfl, by omega, by omega, ⟨?_, Own.nil _ _ _ _, (fun k hk => by cases hk), fun k hk => ?_, by simp, by simp, by simp, List.Pairwise.nil⟩, B2⟩
    · rw [show lastWin m false (-1) [] = (⟨m, false, -1, []⟩ : Win) by simp [lastWin]]; exact hw1.below (hb2.mono (Nat.le_refl _))
    · rw [List.mem_singleton] at hk; rw [hk]; exact Nat.le_refl _
  rintro a9 n9 c9 x10 x11 w4 ⟨i, es, L, rfl, hi, hi20, rfl, hla0, hla1, hS, hb⟩
  have key : ∀ J : Prop, J → J := fun _ h => h
  refine br_dec (fun hlt => br_dec (fun hlt2 => ?_) fun hge => ?_) fun hge => ?_
  · have hil : i < zs.length := by omega
    obtain ⟨b, off, rfl, hc⟩ := row_int (show IntsAt w4 a zs from RowAt.below hr hb (Nat.le_refl _)) hil
    refine ⟨by omega, by omega, zs[i], by simpa using hc, by decide, ?_⟩
    obtain ⟨s, hs0, hs⟩ := u64_mod zs[i] 5 (by decide)
    have hstep : IntKind.i64.wrap (IntKind.i64.wrap (x10 + 1) + IntKind.i64.wrap (Int.tmod (IntKind.u64.wrap zs[i]) 5)) = x10 + 1 + s := by
      rw [show (5 : Int) = ((5 : Nat) : Int) from rfl, hs, wr64 (z := (s : Int)) (by omega) (by omega), wr64 (z := x10 + 1) (by omega) (by omega), wr64 (by omega) (by omega)]
    simp only [hstep]
    refine newO_in fun w5 h5 b5 s5 => ?_
    refine newO_in fun w6 h6 b6 s6 => ?_
    rw [wru8 (by omega) (by omega)] at h6
    have R1 : RowAt w6 (some ⟨w4.heap.size, 0, none⟩) ([(1 : UInt8)].map bV) := (one_row 1 h5).below b6 (Nat.le_refl _)
    have R2 : RowAt w6 (some ⟨w5.heap.size, 0, none⟩) ([UInt8.ofNat i].map bV) := by rw [← bV_nat i (by omega)] at h6; exact one_row _ h6
    have b46 : Below w4.heap.size w4 w6 := b5.trans (b6.mono b5.size)
    refine (wKeep_any _ _ L (x10 + 1 + s) (some ⟨w4.heap.size, 0, none⟩) 1 [1] (some ⟨w5.heap.size, 0, none⟩) 1 [UInt8.ofNat i] w6 (hS.win.below b46) R1 R2).mono ?_
    rw [last_keep (by omega) hS.le (by omega) (by omega) (by omega) (by simp) [1] [UInt8.ofNat i] (by simp) (by simp)]
    rintro e w7 ⟨rfl, L2, hw2, hf2, hg2⟩
    refine ⟨keepG_nil _ _, _, rfl, br_n (by simp) ?_⟩
    refine newO_in fun w8 h8 b8 s8 => ?_
    have hown8 : Own w8 0 3 1 (.slice a9 i c9) i (es.map numV) := by
      refine Own.keep (((hS.own.below b46 (Nat.le_refl _)).keep fun k hk => ?_).below b8 (Nat.le_refl _)) fun k hk => rfl
      exact hf2.block k (Nat.lt_of_lt_of_le (hS.own.lt k hk).2 b46.size) (hS.far k hk).1
    refine ⟨1, es.map numV, [.int .i64 (x10 + 1 + s)], hown8, src_block Try.underlying34 (n := 1) (size := 1) h8 rfl rfl, by unfold maxLen; omega, by omega, by simp, ?_⟩
    intro a' c' w9 ho9 hgr hor
    have hsz : w.heap.size ≤ w6.heap.size := Nat.le_trans hb.size b46.size
    have hfb := hf2.below hS.frm hsz
    have B9 : Below w.heap.size w w9 := by
      have B8 : Below w.heap.size w w8 := (hb.trans ((b46.mono hb.size).trans hfb)).trans (b8.mono (Nat.le_trans hsz hf2.size))
      have : Fr [] w w9 := (Fr.ofBelow B8).grown hgr fun k hk => .inr (hS.far k hk).2
      exact this.below (fun k hk => by cases hk) (Nat.le_refl _)
    refine ⟨⟨i + 1, es ++ [Ent.mk (x10 + 1 + s) [1] [UInt8.ofNat i]], L2, ?_, by omega, by omega, rfl, by omega, by omega, hS.push hb.size (by omega) (by omega) b46 hw2 hf2 hg2 b8 ho9 hgr hor, B9⟩, ?_⟩
    · rw [wr64 (by omega) (by omega)]; omega
    · rw [wr64 (by omega) (by omega)]; omega
  all_goals
    have hlen := hS.len
    refine ⟨by decide, fun x wx => x = (if (q : Int) ≤ x10 then 13 else 7) ∧ wx = w4, ?_, ?_⟩
    · refine br_dec (fun h => ⟨by rw [if_pos h], rfl⟩) fun h => ⟨by rw [if_neg h], rfl⟩
    rintro x12 wx ⟨rfl, rfl⟩
    have hst : max (IntKind.i64.wrap (((i : Nat) : Int) - (m : Int))) 0 = ((i - m : Nat) : Int) := by rw [wr64 (by omega) (by omega)]; omega
    simp only [hst]
    refine ⟨fun x12 x13 wy => ∃ j : Nat, x13 = j ∧ i - m ≤ j ∧ j ≤ i ∧ wy = wx ∧ (x12 = 0 ∧ (∃ k e, i - m ≤ k ∧ es[k]? = some e ∧ e.num = q) ∨ x12 = (if (q : Int) ≤ x10 then 13 else 7) ∧ ∀ k e, i - m ≤ k → k < j → es[k]? = some e → e.num ≠ q), fun _ x13 _ => i - x13.toNat, ⟨i - m, rfl, by omega, by omega, rfl, .inr ⟨rfl, fun k e h1 h2 => by omega⟩⟩, ?_⟩
    rintro x12 x13 wy ⟨j, rfl, hj0, hj1, rfl, hwant⟩
    refine br_dec (fun hlt3 => ?_) fun hge3 => ?_
    · have hjl : j < es.length := by omega
      obtain ⟨g, off, rfl, hc⟩ := own_cell hS.own (i := j) (v := numV es[j]) (by rw [List.getElem?_map, List.getElem?_eq_getElem hjl]; rfl)
      refine ⟨by omega, by omega, es[j].num, by simpa [numV] using hc, ?_⟩
      rw [wr64 (by omega) (by omega)]
      refine br_dec (fun heq => ?_) fun hne => ?_
      · exact ⟨⟨j + 1, by omega, by omega, by omega, rfl, .inl ⟨rfl, j, es[j], hj0, List.getElem?_eq_getElem hjl, heq⟩⟩, by dsimp only; omega⟩
      · refine ⟨⟨j + 1, by omega, by omega, by omega, rfl, ?_⟩, by dsimp only; omega⟩
        rcases hwant with h | ⟨h1, h2⟩
        · exact .inl h
        · refine .inr ⟨h1, fun k e hk1 hk2 hk3 => ?_⟩
          by_cases hkj : k = j
          · subst hkj
            rw [List.getElem?_eq_getElem hjl] at hk3
            injection hk3 with hk3
            rw [← hk3]; exact hne
          · exact h2 k e hk1 (by omega) hk3
    · obtain rfl : j = i := by omega
      refine newO_in fun w11 h11 b11 s11 => ?_
      refine (wLook_any _ _ L q (some ⟨wy.heap.size, 0, none⟩) 1 [1] w11 (hS.win.below b11) (one_row 1 h11)).mono ?_
      rintro e w12 ⟨v1, rfl, ho1, hb12⟩
      obtain ⟨a1, c1, rfl⟩ := ho1.isSlice
      refine ⟨keepG_nil _ _, _, _, _, _, rfl, ?_⟩
      refine newO_in fun w13 h13 b13 s13 => ?_
      refine (wLook_any _ _ L q (some ⟨w12.heap.size, 0, none⟩) 1 [2] w13 (((hS.win.below b11).below hb12).below b13) (one_row 2 h13)).mono ?_
      rintro e w14 ⟨v2, rfl, ho2, hb14⟩
      obtain ⟨a2, c2, rfl⟩ := ho2.isSlice
      refine ⟨keepG_nil _ _, _, _, _, _, rfl, ?_⟩
      have W14 := (((hS.win.below b11).below hb12).below b13).below hb14
      have B12 := hb.trans ((b11.mono hb.size).trans (hb12.mono (Nat.le_trans hb.size b11.size)))
      have B14 := B12.trans ((b13.mono B12.size).trans (hb14.mono (Nat.le_trans B12.size b13.size)))
      have fin : Calls Try.prog 17 #[.pointer (some ⟨w.heap.size, 0, none⟩)] w14 fun e_6 w_15 => KeepG [] w14 w_15 ∧ ∃ (x126 : Int), e_6 = .returned (.int .i64 x126) ∧ (Value.bool (decide (x126 = x10)) = .bool true ∧ Below w.heap.size w w_15) := by
        refine (wLast_any _ _ L w14 W14).mono ?_
        rintro e w15 ⟨rfl, rfl⟩
        exact ⟨keepG_nil _ _, _, rfl, by simp [lastWin], B14⟩
      rcases hwant with ⟨rfl, k, e, hk1, hk2, hk3⟩ | ⟨hx, hno⟩
      · have hem := List.mem_of_getElem? hk2
        have l1 := sparse_hit (la := x10) hk2 (by rw [hlen]; exact hk1) hS.inc (hS.pos e hem) (by omega) [1]
        have l2 := sparse_hit (la := x10) hk2 (by rw [hlen]; exact hk1) hS.inc (hS.pos e hem) (by omega) [2]
        rw [hk3, hS.req e hem] at l1 l2
        rw [l1, l2]
        exact br_y rfl (br_n (by simp) (br_y rfl (br_y rfl fin)))
      · have hno2 : ∀ x ∈ es.drop (es.length - m), x.num ≠ (q : Int) := fun x hx => by
          obtain ⟨k, hk⟩ := List.mem_iff_getElem?.1 hx
          rw [List.getElem?_drop] at hk
          have hlt4 := (List.getElem?_eq_some_iff.1 hk).1
          exact hno _ x (by omega) (by omega) hk
        rw [sparse_miss hno2 (by omega) (by omega) [1], sparse_miss hno2 (by omega) (by omega) [2], hx]
        have hne0 : (if (q : Int) ≤ x10 then (13 : Int) else 7) ≠ 0 := by split <;> decide
        exact br_y rfl (br_y hne0 (br_y rfl fin))
end Go.Proofs.Ytjjmhmbmjpedkaa
