/- An act on both windows: the same answer. -/
import Derived.Test.YtjjmhmbmjpedkaaWinActs
namespace Go.Proofs.Ytjjmhmbmjpedkaa
open Go.RowKit
theorem below_grown {n : Nat} {w w1 w2 : World} {row : Option Nat} (h : Below n w w1) (hn : n ≤ w.heap.size) (hg : w1.grownBy w2 row) (hr : ∀ k, row = some k → n ≤ k) : Below n w w2 := by
  obtain ⟨g1, g2, g3, g4, g5⟩ := hg
  exact ⟨g1.trans h.os, g2.trans h.tape, g3.trans h.output, Nat.le_trans h.size g4, fun k hk => (g5 k (by have := h.size; omega) fun e => by have := hr k e.symm; omega).trans (h.block k hk)⟩
theorem own_in {w : World} {n0 : Nat} {a : Option Addr} {n c : Nat} {xs : List Value} (h : Own w 0 5 1 (.slice a (0 + n) c) (0 + n) xs) {g s : Nat} (hor : (Value.slice a (0 + n) c).ownBlock = some g ∨ ∃ k, (Value.slice a (0 + n) c).ownBlock = some k ∧ s ≤ k) (hg : n0 ≤ g) (hs : n0 ≤ s) :
    Own w n0 5 1 (.slice a n c) n xs ∧ ((Value.slice a n c).ownBlock = some g ∨ ∃ k, (Value.slice a n c).ownBlock = some k ∧ s ≤ k) := by
  rw [Nat.zero_add] at h hor
  refine ⟨h.base_le fun k hk => ?_, hor⟩
  rcases hor with e | ⟨j, e, hj⟩
  · rw [e] at hk; injection hk with hk; omega
  · rw [e] at hk; injection hk with hk; omega
theorem take3 (xs : List UInt8) : (min ((xs.length : Nat) : Int) 300).toNat = (xs.take 300).length := by rw [List.length_take]; omega
theorem xor_head {x : UInt8} {t : List UInt8} {y : UInt8} : (strOf (y :: t)) = (strOf [y]) ++ (strOf (x :: t)).extract 1 (strOf (x :: t)).size := by
  rw [strOf_extract, strOf_app, strOf_size]; simp
theorem aDo_any (kp raw : Bool) (by' : Int) (a3 a4 : Option Addr) (c3 c4 : Nat) (Q A : List UInt8) (p r m : Nat) (st : Bool) (es : List Ent) (L M : List Nat) (w : World) (hW : WinAt w L p (refWin m st es)) (hR : RefAt w M r m st es) (hap : Apart L M) (hl : es.length < 1000)
    (h3 : RowAt w a3 (Q.map bV)) (l3 : Q.length ≤ c3) (h4 : RowAt w a4 (A.map bV)) (l4 : A.length ≤ c4) :
    Calls Try.prog 32 #[.agg #[.bool kp, .int .i64 by', .bool raw, .slice a3 Q.length c3, .slice a4 A.length c4], .pointer (some ⟨p, 0, none⟩), .pointer (some ⟨r, 0, none⟩)] w fun e w' => e = .returned (.bool true) ∧
      ∃ L' M' es', WinAt w' L' p (refWin m st es') ∧ RefAt w' M' r m st es' ∧ Apart L' M' ∧ es'.length ≤ es.length + 1 ∧ Fr (L ++ M) w w' ∧ Gr L L' w.heap.size ∧ Gr M M' w.heap.size := by
  refine (GWinActs.aDo_calls kp by' raw a3 Q.length c3 a4 A.length c4 _ _ w (fun v w' => v = .bool true ∧ ∃ L' M' es', WinAt w' L' p (refWin m st es') ∧ RefAt w' M' r m st es' ∧ Apart L' M' ∧ es'.length ≤ es.length + 1 ∧ Fr (L ++ M) w w' ∧ Gr L L' w.heap.size ∧ Gr M M' w.heap.size) ?_).mono (by rintro e w' ⟨v, rfl, rfl, hb⟩; exact ⟨rfl, hb⟩)
  unfold GWinActs.aDo_vc
  refine newO_in fun w2 h2 b2 s2 => ?_
  simp only [take3]
  have q3 : (Q.take 300).length ≤ 300 := by rw [List.length_take]; omega
  have q4 : (A.take 300).length ≤ 300 := by rw [List.length_take]; omega
  refine ⟨fun a7 n7 c7 a8 n8 c8 wx => (Q.take 300).length = n7 ∧ (A.take 300).length = n8 ∧ Own wx w2.heap.size 5 1 (.slice a7 n7 c7) n7 ((Q.take 300).map bV) ∧ Own wx w2.heap.size 5 1 (.slice a8 n8 c8) n8 ((A.take 300).map bV) ∧ (∀ k, (Value.slice a7 n7 c7).ownBlock = some k → (Value.slice a8 n8 c8).ownBlock ≠ some k) ∧ Below w2.heap.size w2 wx, ?_, ?_⟩
  · refine drewO_in fun w3 b3 e3 => ⟨by omega, by omega, by omega, by omega, ?_⟩
    have hs3 := b3.size
    have R3 : RowAt w3 a3 ((Q.take 300).map bV) := (slice_row (h3.below b2 (Nat.le_refl _)) 300).below b3 (Nat.le_refl _)
    have R4 : RowAt w3 a4 ((A.take 300).map bV) := (slice_row (h4.below b2 (Nat.le_refl _)) 300).below b3 (Nat.le_refl _)
    have fin : ∀ {wa wb wc : World} {a7 a8 : Option Addr} {n7 n8 c7 c8 g7 g8 sz : Nat}, (Q.take 300).length = n7 → (A.take 300).length = n8 → Below w2.heap.size w2 wa → w2.heap.size ≤ g7 → w2.heap.size ≤ g8 → w2.heap.size ≤ sz → Own wa 0 5 1 (.slice a7 (0 + n7) c7) (0 + n7) ((Q.take 300).map bV) → ((Value.slice a7 (0 + n7) c7).ownBlock = some g7 ∨ ∃ k, (Value.slice a7 (0 + n7) c7).ownBlock = some k ∧ sz ≤ k) →
        Below wa.heap.size wa wb → Own wc 0 5 1 (.slice a8 (0 + n8) c8) (0 + n8) ((A.take 300).map bV) → wb.grownBy wc (some g8) → ((Value.slice a8 (0 + n8) c8).ownBlock = some g8 ∨ ∃ k, (Value.slice a8 (0 + n8) c8).ownBlock = some k ∧ wb.heap.size ≤ k) → g7 ≠ g8 → (g8 < sz ∨ wa.heap.size ≤ g8) →
        (Q.take 300).length = 0 + n7 ∧ (A.take 300).length = 0 + n8 ∧ Own wc w2.heap.size 5 1 (.slice a7 (0 + n7) c7) (0 + n7) ((Q.take 300).map bV) ∧ Own wc w2.heap.size 5 1 (.slice a8 (0 + n8) c8) (0 + n8) ((A.take 300).map bV) ∧ (∀ k, (Value.slice a7 (0 + n7) c7).ownBlock = some k → (Value.slice a8 (0 + n8) c8).ownBlock ≠ some k) ∧ Below w2.heap.size w2 wc := by
      intro wa wb wc a7 a8 n7 n8 c7 c8 g7 g8 sz e7 e8 ba hg7 hg8 hsz o7 or7 bb o8 gr or8 hne hsm
      obtain ⟨p7, r7⟩ := own_in o7 or7 hg7 hsz
      have hszb : w2.heap.size ≤ wb.heap.size := Nat.le_trans ba.size bb.size
      obtain ⟨p8, r8⟩ := own_in o8 or8 hg8 hszb
      rw [Nat.zero_add, Nat.zero_add]
      have k7 : ∀ k, (Value.slice a7 n7 c7).ownBlock = some k → k < wa.heap.size ∧ k ≠ g8 := fun k hk => by
        have h1 := (p7.lt k hk).2
        refine ⟨h1, fun e => ?_⟩
        subst e
        rcases r7 with e | ⟨j, e, hj⟩
        · rw [e] at hk; injection hk with hk; exact hne hk
        · rw [e] at hk; injection hk with hk; omega
      refine ⟨e7, e8, (p7.below bb (Nat.le_refl _)).keep fun k hk => gr.block k (Nat.lt_of_lt_of_le (k7 k hk).1 bb.size) (fun e => by injection e with e; exact (k7 k hk).2 e), p8, fun k hk e => ?_, ?_⟩
      · rcases r8 with e8 | ⟨j, e8, hj⟩
        · rw [e8] at e; injection e with e; exact (k7 k hk).2 e.symm
        · rw [e8] at e; injection e with e; have := (k7 k hk).1; have := bb.size; omega
      · exact below_grown (ba.trans (bb.mono ba.size)) (Nat.le_refl _) gr fun k hk => by injection hk with hk; omega
    have gne : ∀ {k : Nat}, w2.heap.size ≤ k → ∀ x ∈ [w.heap.size], x ≠ k := fun hk x hx => by rw [List.mem_singleton] at hx; omega
    refine ⟨newO_in fun w4 h4' b4 s4 => ⟨?_, ?_⟩, newO_in fun w11 h11 b11 s11 => newO_in fun w12 h12 b12 s12 => ?_⟩
    · refine app_bytes h4' (gne hs3) (R3.below b4 (Nat.le_refl _)) (by omega) fun a7 c7 w5 o7 g5 or7 => ?_
      have B5 := below_grown (b3.trans (b4.mono hs3)) (Nat.le_refl _) g5 fun k hk => by injection hk with hk; omega
      refine newO_in fun w6 h6 b6 s6 => ?_
      have hs45 := g5.size
      refine app_bytes h6 (gne (by omega)) ((R4.below (below_grown b4 (Nat.le_refl _) g5 fun k hk => by injection hk with hk; omega) (Nat.le_refl _)).below b6 (Nat.le_refl _)) (by omega) fun a8 c8 w7 o8 g7 or8 => ?_
      exact fin rfl rfl B5 hs3 (by omega) (by omega) o7 or7 b6 o8 g7 or8 (by omega) (.inr (Nat.le_refl _))
    · refine newO_in fun w8 h8 b8 s8 => ?_
      have R38 := (R3.below b4 (Nat.le_refl _)).below b8 (Nat.le_refl _)
      have R48 := (R4.below b4 (Nat.le_refl _)).below b8 (Nat.le_refl _)
      refine app_bytes (Below.kept b8 (by omega) h4') (gne hs3) R38 (by omega) fun a7 c7 w9 o7 g9 or7 => ?_
      have B8 := (b3.trans (b4.mono hs3)).trans (b8.mono (by omega))
      have B9 := below_grown B8 (Nat.le_refl _) g9 fun k hk => by injection hk with hk; omega
      have hs89 := g9.size
      have R49 : RowAt w9 a4 ((A.take 300).map bV) := R4.below (below_grown (b4.trans (b8.mono (by omega))) (Nat.le_refl _) g9 fun k hk => by injection hk with hk; omega) (Nat.le_refl _)
      refine app_bytes ((g9.block _ (by omega) (by simp; omega)).trans h8) (gne (by omega)) R49 (by omega) fun a8 c8 w10 o8 g10 or8 => ?_
      exact fin rfl rfl B9 hs3 (by omega) (by omega) o7 or7 (Below.refl _ _) o8 g10 or8 (by omega) (.inl (by omega))
    · have R312 := (R3.below b11 (Nat.le_refl _)).below b12 (Nat.le_refl _)
      have B12 := (b3.trans (b11.mono hs3)).trans (b12.mono (by omega))
      refine app_bytes h12 (gne (by omega)) R312 (by omega) fun a7 c7 w13 o7 g13 or7 => ?_
      have B13 := below_grown B12 (Nat.le_refl _) g13 fun k hk => by injection hk with hk; omega
      have hs123 := g13.size
      have R413 : RowAt w13 a4 ((A.take 300).map bV) := R4.below (below_grown (b11.trans (b12.mono (by omega))) (Nat.le_refl _) g13 fun k hk => by injection hk with hk; omega) (Nat.le_refl _)
      refine app_bytes ((g13.block _ (by omega) (by simp; omega)).trans (Below.kept b12 (by omega) h11)) (gne hs3) R413 (by omega) fun a8 c8 w14 o8 g14 or8 => ?_
      exact fin rfl rfl B13 (by omega) hs3 (by omega) o7 or7 (Below.refl _ _) o8 g14 or8 (by omega) (.inl (by omega))
  rintro a7 n7 c7 a8 n8 c8 w15 ⟨rfl, rfl, o7, o8, hdis, b15⟩
  have hub2 : Below w.heap.size w w15 := b2.trans (b15.mono b2.size)
  refine drewO_in fun w16 b16 _ => ?_
  have B16 := hub2.trans (b16.mono hub2.size)
  have gL : ∀ x ∈ [w.heap.size], x ∉ L := fun x hx hm => by rw [List.mem_singleton] at hx; have := hW.under x hm; omega
  have gM : ∀ x ∈ [w.heap.size], x ∉ M := fun x hx hm => by rw [List.mem_singleton] at hx; have := hR.under x hm; omega
  refine (rLast_any r m st es M w16 (hR.below B16)).mono ?_
  rintro e w17 ⟨rfl, b17⟩
  have B17 := B16.trans (b17.mono B16.size)
  refine ⟨keepG_below b17, _, rfl, ?_⟩
  refine (aNumber_any kp raw by' a3 a4 _ c3 _ c4 _ w17).mono ?_
  rintro e w18 ⟨n, rfl, b18⟩
  have B18 := B17.trans (b18.mono B17.size)
  refine ⟨keepG_below b18, _, rfl, ?_⟩
  refine drewO_in fun w19 b19 _ => ?_
  have B19 := B18.trans (b19.mono B18.size)
  have C19 : Below w15.heap.size w15 w19 := ((b16.trans (b17.mono b16.size)).trans (b18.mono (Nat.le_trans b16.size b17.size))).trans (b19.mono (Nat.le_trans (Nat.le_trans b16.size b17.size) b18.size))
  have O7 := o7.below C19 (Nat.le_refl _)
  have O8 := o8.below C19 (Nat.le_refl _)
  have W19 := hW.below B19
  have R19 := hR.below B19
  refine ⟨Q.take 300, rfl, O7.row, A.take 300, rfl, O8.row, br_not ?_⟩
  have hw2s : w.heap.size < w2.heap.size := by omega
  cases kp with
  | false =>
    refine br_f rfl ?_
    refine (wLook_any p _ L n a7 c7 (Q.take 300) w19 W19 O7.row).mono ?_
    rintro e w20 ⟨v, rfl, ov, b20⟩
    obtain ⟨av, cv, rfl⟩ := ov.isSlice
    have B20 := B19.trans (b20.mono B19.size)
    refine ⟨keepG_below b20, _, _, _, _, rfl, ?_⟩
    refine (rLook_any r m st es M n (Q.take 300) w20 (hR.below B20)).mono ?_
    rintro e w21 ⟨rfl, b21⟩
    have B21 := B20.trans (b21.mono B20.size)
    have OV := ov.below b21 (Nat.le_refl _)
    refine ⟨keepG_below b21, _, _, rfl, ?_⟩
    have fin : ∀ wx : World, Below w.heap.size w wx → ((Value.bool (decide (((refWin m st es).look n (Q.take 300)).2 = ((refWin m st es).look n (Q.take 300)).2)) = .bool true) ∧ ∃ L' M' es', WinAt wx L' p (refWin m st es') ∧ RefAt wx M' r m st es' ∧ Apart L' M' ∧ es'.length ≤ es.length + 1 ∧ Fr (L ++ M) w wx ∧ Gr L L' w.heap.size ∧ Gr M M' w.heap.size) := fun wx hb =>
      ⟨by simp, L, M, es, hW.below hb, hR.below hb, hap, by omega, Fr.ofBelow hb, Gr.refl _ _, Gr.refl _ _⟩
    generalize hans : ((refWin m st es).look n (Q.take 300)).1 = ans at *
    refine br_dec (fun hpos => ?_) fun hneg => ?_
    · cases ans with
      | nil => simp at hpos
      | cons x t =>
        refine br_y (by rw [strOf_size]; simp) ?_
        obtain ⟨gv, ofv, rfl, hcell⟩ := own_cell OV (i := 0) (v := bV x) rfl
        refine ⟨by omega, by simp, (x.toNat : Int), by simpa [bV] using hcell, by omega, by simp, ?_⟩
        obtain ⟨y, hy⟩ := bits_byte .xor (x.toNat : Int) 1
        rw [hy]
        refine OV.storeAt (i := 0) (by simp) ?_ ?_
        · intro x hx
          rw [List.mem_singleton] at hx
          have h5 := (OV.lt gv rfl).1
          have h6 := B19.size
          rintro rfl
          have h7 := hub2.size
          have h8 := b15.size
          have h9 := C19.size
          omega
        · intro w22 o22 f22 s22
          refine drewO_in fun w23 b23 _ => ⟨by omega, by rw [strOf_size, List.length_cons]; omega, by omega, by rw [strOf_size, List.length_cons]; omega, ?_⟩
          refine newO_in fun w24 h24 b24 s24 => ?_
          have hb0 : byteAt (strOf (x :: t)) 0 = (x.toNat : Int) := byteAt_strOf (x :: t) 0
          rw [hb0, hy] at h24
          have O24 := (o22.below b23 (Nat.le_refl _)).below b24 (Nat.le_refl _)
          refine ⟨[y], rfl, one_row y h24, ?_, y :: t, by simp, ?_, br_y ?_ (fin w24 ?_)⟩
          · have := OV.1
            have hlen : (x :: t).length ≤ 65536 := by have := Win.look_le (refWin m st es) W19.ok n (Q.take 300); rw [hans] at this; exact this
            rw [strOf_extract, strOf_size, strOf_size, strOf_size]
            simp only [List.length_take, List.length_drop, List.length_cons, List.length_nil] at hlen ⊢
            omega
          · exact O24.row
          · exact xor_head
          · have F2 := ((Fr.ofBelow (L := [gv]) B21).trans f22 (Gr.refl _ _)).below (b := w.heap.size) (fun k hk => by rw [List.mem_singleton] at hk; have := (OV.lt gv rfl).1; have := B19.size; omega) (Nat.le_refl _)
            exact (F2.trans (b23.mono F2.size)).trans (b24.mono (Nat.le_trans F2.size b23.size))
    · have : ans = [] := List.eq_nil_of_length_eq_zero (by omega)
      subst this
      exact ⟨[], rfl, .inl rfl, br_y rfl (fin w21 B21)⟩
  | true =>
    refine br_t rfl ?_
    have hs2 := hub2.size
    have far7 : ∀ {k : Nat}, (Value.slice a7 (Q.take 300).length c7).ownBlock = some k → w2.heap.size ≤ k ∧ k < w15.heap.size := fun hk => o7.lt _ hk
    have far8 : ∀ {k : Nat}, (Value.slice a8 (A.take 300).length c8).ownBlock = some k → w2.heap.size ≤ k ∧ k < w15.heap.size := fun hk => o8.lt _ hk
    have hs19 := C19.size
    refine (wKeep_any p _ L n a7 c7 (Q.take 300) a8 c8 (A.take 300) w19 W19 O7.row O8.row).mono ?_
    rintro e w25 ⟨rfl, L2, hw2, hf2, hg2⟩
    refine ⟨keepG_fr hf2 gL, _, rfl, ?_⟩
    have notL : ∀ {k : Nat}, w2.heap.size ≤ k → k ∉ L := fun hk hm => by have := hW.under _ hm; omega
    have notL2 : ∀ {k : Nat}, w2.heap.size ≤ k → k < w15.heap.size → k ∉ L2 := fun h1 h2 hm => (hg2 _ hm).elim (notL h1) fun h3 => by omega
    have notM : ∀ {k : Nat}, w2.heap.size ≤ k → k ∉ M := fun hk hm => by have := hR.under _ hm; omega
    have apM : Apart L2 M := fun k hk hm => (hg2 k hk).elim (fun h1 => hap k h1 hm) fun h1 => by have := hR.under k hm; omega
    have F25 : Fr L w w25 := (Fr.ofBelow (L := L) B19).trans hf2 (Gr.refl _ _)
    have P7 := O7.keep fun k hk => hf2.block k (by have := far7 hk; omega) (notL (far7 hk).1)
    have P8 := O8.keep fun k hk => hf2.block k (by have := far8 hk; omega) (notL (far8 hk).1)
    have R25 : RefAt w25 M r m st es := R19.fr hf2 (fun k hk hm => hap k hm hk)
    have gne7 : ∀ k, (Value.slice a7 (Q.take 300).length c7).ownBlock = some k → ∀ x ∈ [w.heap.size], x ≠ k := fun k hk x hx => by rw [List.mem_singleton] at hx; have := far7 hk; omega
    have gne8 : ∀ k, (Value.slice a8 (A.take 300).length c8).ownBlock = some k → ∀ x ∈ [w.heap.size], x ≠ k := fun k hk x hx => by rw [List.mem_singleton] at hx; have := far8 hk; omega
    refine ⟨fun x wx => ∃ (i : Nat) (bs : List UInt8), x = i ∧ i ≤ (Q.take 300).length ∧ Own wx w2.heap.size 5 1 (.slice a7 (Q.take 300).length c7) (Q.take 300).length (bs.map bV) ∧ Own wx w2.heap.size 5 1 (.slice a8 (A.take 300).length c8) (A.take 300).length ((A.take 300).map bV) ∧ WinAt wx L2 p ((refWin m st es).keep n (Q.take 300) (A.take 300)).2 ∧ RefAt wx M r m st es ∧ Fr L w wx,
      fun x _ => (Q.take 300).length - x.toNat, ⟨0, _, rfl, by omega, P7, P8, hw2, R25, F25⟩, ?_⟩
    rintro x w26 ⟨i, bs, rfl, hi, P7, P8, hw2, R26, F26⟩
    refine br_dec (fun hlt => ?_) fun hge => ?_
    · have hbl : bs.length = (Q.take 300).length := by have := P7.1; simpa using this
      have hib : i < bs.length := by omega
      obtain ⟨gv, ofv, rfl, hcell⟩ := own_cell P7 (i := i) (v := bV bs[i]) (by rw [List.getElem?_map, List.getElem?_eq_getElem hib]; rfl)
      refine ⟨by omega, by omega, (bs[i].toNat : Int), by simpa [bV] using hcell, by omega, by omega, ?_⟩
      obtain ⟨y, hy⟩ := bits_byte .xor (bs[i].toNat : Int) 3
      rw [hy, wr64 (by omega) (by omega)]
      refine P7.storeAt (i := i) (by omega) (gne7 gv rfl) ?_
      · intro w27 o27 f27 s27
        have hk : ∀ k ∈ [gv], (Value.slice (some ⟨gv, ofv, none⟩) (Q.take 300).length c7).ownBlock = some k := fun k hk => by rw [List.mem_singleton] at hk; rw [hk]; rfl
        refine ⟨⟨i + 1, bs.set i y, by omega, by omega, by rw [List.map_set]; exact o27, P8.keep fun k h8 => f27.block k (P8.lt k h8).2 fun hm => hdis k (hk k hm) h8, hw2.fr f27 fun k h1 h2 => notL2 (far7 (hk k h2)).1 (far7 (hk k h2)).2 h1, R26.fr f27 fun k h1 h2 => notM (far7 (hk k h2)).1 h1, F26.trans f27 fun k h1 => .inr (by have := far7 (hk k h1); omega)⟩, by dsimp only; omega⟩
    · obtain rfl : i = (Q.take 300).length := by omega
      refine ⟨fun x wx => ∃ (i : Nat) (bs : List UInt8), x = i ∧ i ≤ (A.take 300).length ∧ Own wx w2.heap.size 5 1 (.slice a8 (A.take 300).length c8) (A.take 300).length (bs.map bV) ∧ WinAt wx L2 p ((refWin m st es).keep n (Q.take 300) (A.take 300)).2 ∧ RefAt wx M r m st es ∧ Fr L w wx,
        fun x _ => (A.take 300).length - x.toNat, ⟨0, _, rfl, by omega, P8, hw2, R26, F26⟩, ?_⟩
      rintro x w28 ⟨i, bs', rfl, hi, P8, hw2, R28, F28⟩
      refine br_dec (fun hlt => ?_) fun hge => ?_
      · have hbl : bs'.length = (A.take 300).length := by have := P8.1; simpa using this
        have hib : i < bs'.length := by omega
        obtain ⟨gv, ofv, rfl, hcell⟩ := own_cell P8 (i := i) (v := bV bs'[i]) (by rw [List.getElem?_map, List.getElem?_eq_getElem hib]; rfl)
        refine ⟨by omega, by omega, (bs'[i].toNat : Int), by simpa [bV] using hcell, by omega, by omega, ?_⟩
        obtain ⟨y, hy⟩ := bits_byte .xor (bs'[i].toNat : Int) 3
        rw [hy, wr64 (by omega) (by omega)]
        refine P8.storeAt (i := i) (by omega) (gne8 gv rfl) ?_
        · intro w27 o27 f27 s27
          have hk : ∀ k ∈ [gv], (Value.slice (some ⟨gv, ofv, none⟩) (A.take 300).length c8).ownBlock = some k := fun k hk => by rw [List.mem_singleton] at hk; rw [hk]; rfl
          refine ⟨⟨i + 1, bs'.set i y, by omega, by omega, by rw [List.map_set]; exact o27, hw2.fr f27 fun k h1 h2 => notL2 (far8 (hk k h2)).1 (far8 (hk k h2)).2 h1, R28.fr f27 fun k h1 h2 => notM (far8 (hk k h2)).1 h1, F28.trans f27 fun k h1 => .inr (by have := far8 (hk k h1); omega)⟩, by dsimp only; omega⟩
      · refine (rDocKeep_any r m st es M n (Q.take 300) (A.take 300) w28 R28 hl).mono ?_
        rintro e w30 ⟨rfl, M', es', hR', hes, hlen, hfM, hgM⟩
        refine ⟨keepG_fr hfM gM, _, rfl, by simp, L2, M', es', ?_, hR', fun k h1 h2 => ?_, hlen, ?_, fun k h1 => (hg2 k h1).imp id fun h => by have := B19.size; omega, fun k h1 => (hgM k h1).imp id fun h => Nat.le_trans F28.size h⟩
        · rw [hes]; exact hw2.fr hfM apM
        · exact (hgM k h2).elim (apM k h1) fun h3 => by have := hw2.under k h1; omega
        · exact (F28.mono fun k hk => .inl (List.mem_append_left _ hk)).trans hfM fun k hk => .inl (List.mem_append_right _ hk)
end Go.Proofs.Ytjjmhmbmjpedkaa
