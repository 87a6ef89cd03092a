import Derived.Test.YtamlgnhnmilbdaaMCreditActs4
import Derived.Test.YtamlgnhnmilbdaaMCreditActs1
import Derived.Laws.BitsAllLaws
import Derived.Test.YtamlgnhnmilbdaaRows
import Derived.Deep.Cut
import Derived.Lib.Mul64
import Derived.Laws.Bits64b
import Derived.Test.YtamlgnhnmilbdaaMCreditActs3
import Derived.Laws.Externs
section
/- CreditTurns, walked. -/
namespace Go.Proofs.Ytamlgnhnmilbdaa
open Go.RowKit
structure TurnAt (w0 w : World) (p : Nat) (m la : Int) (a : Option Addr) (c : Nat) (es : List Ses) : Prop where
  ex : ∃ L, TabAt w L p m la es ∧ (∀ k, (Value.slice a es.length c).ownBlock = some k → k ∉ L) ∧ From w0.heap.size L
  own : Own w w0.heap.size 3 1 (.slice a es.length c) es.length ((es.map (·.id)).map iV)
  ids : Ids es
  le : ∀ s ∈ es, 1 ≤ s.id ∧ s.id ≤ la
  len : (es.length : Int) ≤ m
  below : Below w0.heap.size w0 w
theorem block_len (a : Option Addr) (n n' c c' : Nat) : (Value.slice a n c).ownBlock = (Value.slice a n' c').ownBlock := by cases a <;> rfl
theorem src_own {w : World} {b : Nat} {a : Option Addr} {n c : Nat} {zs : List Int} (h : Own w b 3 1 (.slice a n c) n (zs.map iV)) : Src Try.prog 1 22 (.slice a n c) n (zs.map iV) w := by
  have hs := Src.ofRow (P := Try.prog) (w := w) Try.underlying22 a c (zs.map iV) h.row one_iV
  have hl := h.1
  rw [Nat.mul_one] at hl
  rw [hl] at hs
  exact hs
theorem ids_inj {es : List Ses} (h : Ids es) {i j : Nat} {s t : Ses} (hi : es[i]? = some s) (hj : es[j]? = some t) (he : s.id = t.id) : i = j := by
  rcases Nat.lt_trichotomy i j with h1 | h1 | h1
  · have := h i j s t h1 hi hj; omega
  · exact h1
  · have := h j i t s h1 hj hi; omega
theorem ids_push {es : List Ses} (h : Ids es) {s : Ses} (hs : ∀ t ∈ es, t.id < s.id) : Ids (es ++ [s]) := by
  intro i j a b hij ha hb
  by_cases hj : j < es.length
  · rw [List.getElem?_append_left hj] at hb
    rw [List.getElem?_append_left (by omega)] at ha
    exact h i j a b hij ha hb
  · have hlt := (List.getElem?_eq_some_iff.1 hb).1
    rw [List.length_append, List.length_singleton] at hlt
    obtain rfl : j = es.length := by omega
    rw [List.getElem?_append_right (Nat.le_refl _), Nat.sub_self] at hb
    injection hb with hb; subst hb
    rw [List.getElem?_append_left (by omega)] at ha
    exact hs a (List.mem_of_getElem? ha)
theorem erase_ids (es : List Ses) (k : Nat) : ((es.map (·.id)).take k ++ (es.map (·.id)).drop (k + 1)) = (es.eraseIdx k).map (·.id) := by
  rw [List.eraseIdx_eq_take_drop_succ, List.map_append, List.map_take, List.map_drop]
set_option maxRecDepth 10000 in
theorem lTurns_walk (z : Int) (a1 : Option Addr) (c1 : Nat) (zs : List Int) (w : World) (hl : zs.length ≤ maxLen) (hr : RowAt w a1 (zs.map iV)) :
    Calls Try.prog 3 #[.int .i64 z, .slice a1 zs.length c1] w fun e w' => e = .returned (.bool true) ∧ Below w.heap.size w w' := by
  refine (GCred.lTurns_calls z a1 zs.length c1 w (fun v w' => v = .bool true ∧ Below w.heap.size w w') ?_).mono (by rintro e w' ⟨v, rfl, rfl, h⟩; exact ⟨rfl, h⟩)
  unfold GCred.lTurns_vc
  obtain ⟨m0, hm0, hmm⟩ := u64_mod z 16 (by decide)
  have hm1 : IntKind.i64.wrap (1 + IntKind.i64.wrap (Int.tmod (IntKind.u64.wrap z) 16)) = ((m0 + 1 : Nat) : Int) := by
    rw [show Int.tmod (IntKind.u64.wrap z) 16 = (m0 : Int) from hmm, wr64 (z := (m0 : Int)) (by omega) (by omega), wr64 (by omega) (by omega)]; omega
  rw [hm1]
  have hm16 : m0 + 1 ≤ 16 := by omega
  have hm1' : 1 ≤ m0 + 1 := by omega
  generalize m0 + 1 = m at *
  refine ⟨by decide, (cNew_any m w (by omega) (by omega)).mono ?_⟩
  rintro e w2 ⟨rfl, h2, b2⟩
  refine ⟨keepG_nil _ _, _, _, rfl, (credits_any w2).mono ?_⟩
  rintro e w3 ⟨rfl, b3⟩
  have B3 := b2.trans (b3.mono b2.size)
  refine ⟨keepG_nil _ _, _, rfl, br_f rfl (br_n (by decide) ?_)⟩
  generalize hp : w.heap.size = p at *
  refine ⟨fun x7 a8 n8 c8 x9 wx => ∃ (i : Nat) (la : Int) (es : List Ses), la = x7 ∧ x9 = i ∧ i ≤ zs.length ∧ i ≤ 60 ∧ es.length = n8 ∧ 0 ≤ la ∧ la ≤ 4 * i ∧ TurnAt w wx p m la a8 c8 es, fun _ _ _ _ x9 _ => 60 - x9.toNat, ⟨0, 0, [], rfl, rfl, by omega, by omega, rfl, by omega, by omega, ⟨[p], h2.below sesR b3, (fun k hk => by simp [Value.ownBlock] at hk), fun k hk => by rw [List.mem_singleton] at hk; omega⟩, Own.nil _ _ _ _, (fun i j s t _ h => by cases h), (fun s h => by cases h), by simp, by rw [hp]; exact B3⟩, ?_⟩
  rintro x7 a8 n8 c8 x9 wx ⟨i, la, es, rfl, rfl, hi, hi60, rfl, hla0, hla, hT⟩
  refine ⟨fun b wy => b = decide (i < zs.length ∧ i < 60) ∧ wx = wy, ?_, ?_⟩
  · exact br_dec (fun h => ⟨decide_eq_decide.2 (by omega), rfl⟩) fun h => ⟨(decide_eq_false (by omega)).symm, rfl⟩
  rintro b wy ⟨rfl, rfl⟩
  have hlen := hT.len
  have hrx := hr.below hT.below (by omega)
  have hbs := hT.below.size
  refine br_dec (fun hlt => ?_) fun hge => ?_
  · obtain ⟨b1, off1, rfl, hc1⟩ := hrx.int hlt.1
    have hcell : wx.cell? ⟨b1, off1 + (i : Int).toNat * 1, none⟩ = some (.int .i64 zs[i]) := by rw [Int.toNat_natCast, Nat.mul_one]; exact hc1
    refine ⟨fun b wy => wx = wy ∧ (b = true → 1 ≤ es.length) ∧ (b = false → (es.length : Int) < m), ?_, ?_⟩
    · refine br_dec (fun h => ⟨rfl, fun _ => by omega, fun h2 => by cases h2⟩) fun h => br_dec (fun h2 => ⟨by omega, by omega, zs[i], hcell, by decide, rfl, fun _ => by omega, fun _ => by omega⟩) fun h2 => ⟨rfl, (fun h3 => by cases h3), fun _ => by omega⟩
    rintro b wy ⟨rfl, hb1, hb2⟩
    refine br_split.2 ⟨fun hb => ?_, fun hb => ?_⟩
    · have hpos := hb1 hb
      refine ⟨fun x wy => ∃ k : Nat, x = k ∧ k < es.length ∧ wx = wy, ?_, ?_⟩
      · obtain ⟨k, hk, hkk⟩ := u64_mod zs[i] es.length hpos
        rw [wru64 (z := (es.length : Int)) (by omega) (by omega)]
        refine ⟨by omega, by omega, zs[i], hcell, by omega, k, ?_, hk, rfl⟩
        rw [hkk, wr64 (by omega) (by omega)]
      rintro x wy ⟨k, rfl, hk, rfl⟩
      obtain ⟨⟨L, hTab, hap, hL⟩, hO, hids, hle, _, hB⟩ := hT
      have hg : ((es.map (·.id)).map iV)[k]? = some (iV es[k].id) := by rw [List.getElem?_map, List.getElem?_map, List.getElem?_eq_getElem hk]; rfl
      obtain ⟨g8, off8, rfl, hc8⟩ := own_cell hO hg
      have hkr := hle _ (List.getElem_mem hk)
      refine ⟨by omega, by omega, es[k].id, by rw [Int.toNat_natCast]; exact hc8, (end_any hTab (by omega) hids es[k].id).mono ?_⟩
      rintro e w8 ⟨L', es', he, hTab', f8, gr8⟩
      rw [if_pos ⟨es[k], List.getElem_mem hk, rfl⟩] at he
      obtain ⟨rfl, j, s, hj, hsj, rfl⟩ := he
      obtain rfl : j = k := ids_inj hids hj (List.getElem?_eq_getElem hk) hsj
      have z8 := f8.size
      have hO8 := hO.keep (w' := w8) fun b hb => f8.block b (hO.lt b hb).2 (hap b hb)
      have hB8 := hB.trans (f8.below hL hB.size)
      have hL' := gr8.from hL hB.size
      have hap' : ∀ b, (Value.slice (some ⟨g8, off8, none⟩) es.length c8).ownBlock = some b → b ∉ L' := fun b hb hm => (gr8 b hm).elim (hap b hb) fun h => by have := (hO.lt b hb).2; omega
      obtain ⟨g9, off9, e9, hc9⟩ := own_cell hO8 hg
      injection e9 with e9; injection e9 with q1 q2; subst q1; subst q2
      have hlen' : (es.eraseIdx j).length = es.length - 1 := List.length_eraseIdx_of_lt hk
      refine ⟨keepG_nil _ _, _, rfl, br_n (by simp) ⟨by omega, by omega, es[j].id, by rw [Int.toNat_natCast]; exact hc9, (add_nil hTab' (by omega) es[j].id 1 (by omega) (by omega)).mono ?_⟩⟩
      rintro e w9 ⟨L2, hTab2, rfl, f9, gr9⟩
      rw [if_pos hkr.2] at hTab2
      rw [if_pos hkr.2] at hTab2
      have z9 := f9.size
      have hO9 := hO8.keep (w' := w9) fun b hb => f9.block b (hO8.lt b hb).2 (hap' b hb)
      have hB9 := hB8.trans (f9.below hL' hB8.size)
      have hL2 := gr9.from hL' hB8.size
      refine ⟨keepG_nil _ _, _, rfl, br_n (by rw [if_pos hkr.2]; simp) (drewO_in fun w10 b10 _ => ?_)⟩
      have z10 := b10.size
      obtain ⟨hcap, _⟩ := Own.cap hO9
      rw [wr64 (z := (j : Int) + 1) (by omega) (by omega), show ((j : Int) + 1).toNat = j + 1 by omega, Int.toNat_natCast]
      refine ⟨by omega, by omega, by omega, by omega, newO_in fun w11 n11 b11 s11 => ?_⟩
      have b911 : Below w9.heap.size w9 w11 := b10.trans (b11.mono b10.size)
      have hO11 := hO9.below b911 (Nat.le_refl _)
      have hpre := hO11.pre (i := j) (by omega)
      rw [Nat.mul_one, ← List.map_take] at hpre
      have hnew : Own w11 w.heap.size 3 1 (.slice (some ⟨w10.heap.size, 0, none⟩) 0 0) 0 (([] : List Int).map iV) := (own_empty 1 n11).base_le fun k hk => by simp [Value.ownBlock] at hk; omega
      refine app_ints hnew (src_own hpre) (by omega) (by omega) (by simp) fun a12 c12 w12 o12 f12 or12 => ?_
      have z12 := f12.size
      have hO12 := hO11.keep (w' := w12) fun b hb => f12.block b (hO11.lt b hb).2 (by simp [Value.ownBlock]; have := (hO9.lt b hb).2; omega)
      have htl := hO12.tail (P := Try.prog) hk Try.underlying22 one_iV
      rw [Nat.mul_one, ← List.map_drop] at htl
      refine app_ints o12 htl (by omega) (by omega) (by simp) fun a13 c13 w13 o13 f13 or13 => ?_
      rw [List.nil_append, erase_ids, show 0 + j + (es.length - (j + 1)) = (es.eraseIdx j).length by rw [hlen']; omega] at o13
      have far12 : ∀ b, (Value.slice a12 (0 + j) c12).ownBlock = some b → w10.heap.size ≤ b := fun b hb => by
        rcases or12 with h | ⟨g, h, hg⟩
        · rw [h] at hb; simp [Value.ownBlock] at hb; omega
        · rw [h] at hb; injection hb with hb; omega
      have far13 : ∀ b, (Value.slice a13 (0 + j + (es.length - (j + 1))) c13).ownBlock = some b → w10.heap.size ≤ b := fun b hb => by
        rcases or13 with h | ⟨g, h, hg⟩
        · exact far12 b (h ▸ hb)
        · rw [h] at hb; injection hb with hb; omega
      have B13 : Below w9.heap.size w9 w13 := (b911.trans (f12.below (b := w9.heap.size) (fun b hb => by simp [Value.ownBlock] at hb; omega) (by omega))).trans (f13.below (b := w9.heap.size) (fun b hb => by have := far12 b (by simpa using hb); omega) (by omega))
      rw [wr64 (z := (i : Int) + 1) (by omega) (by omega)]
      refine ⟨⟨i + 1, la, es.eraseIdx j, rfl, by omega, by omega, by omega, by rw [hlen']; omega, hla0, by omega, ⟨⟨L2, hTab2.below sesR B13, ?_, hL2⟩, o13, ids_erase hids j, fun s hs => hle s (List.mem_of_mem_eraseIdx hs), by rw [hlen']; omega, hB9.trans (B13.mono hB9.size)⟩⟩, by dsimp only; omega⟩
      intro b hb hm
      have h1 := far13 b ((block_len a13 _ _ c13 c13).trans hb)
      have := hTab2.under b hm
      omega
    · have hltm := hb2 hb
      obtain ⟨⟨L, hTab, hap, hL⟩, hO, hids, hle, _, hB⟩ := hT
      obtain ⟨q, hq, hqq⟩ := u64_mod zs[i] 4 (by decide)
      have hid : IntKind.i64.wrap (IntKind.i64.wrap (la + 1) + IntKind.i64.wrap (Int.tmod (IntKind.u64.wrap zs[i]) 4)) = la + 1 + q := by
        rw [show Int.tmod (IntKind.u64.wrap zs[i]) 4 = (q : Int) from hqq, wr64 (z := la + 1) (by omega) (by omega), wr64 (z := (q : Int)) (by omega) (by omega), wr64 (by omega) (by omega)]
      have hnode : IntKind.i64.wrap (1 + Int.tmod (i : Int) 32) = ((i % 32 + 1 : Nat) : Int) := by
        rw [Int.tmod_eq_emod_of_nonneg (by omega), wr64 (by omega) (by omega)]; omega
      refine ⟨by omega, by omega, zs[i], hcell, by decide, by decide, ?_⟩
      rw [hid, hnode]
      refine (add_nil hTab (by omega) (la + 1 + q) ((i % 32 + 1 : Nat) : Int) (by omega) (by omega)).mono ?_
      rintro e w14 ⟨L', hTab', rfl, f14, gr14⟩
      rw [if_neg (by omega), if_neg (by omega)] at hTab'
      rw [if_neg (by omega), if_neg (by omega)] at hTab'
      have z14 := f14.size
      have hO14 := hO.keep (w' := w14) fun b hb => f14.block b (hO.lt b hb).2 (hap b hb)
      have hB14 := hB.trans (f14.below hL hB.size)
      have hL' := gr14.from hL hB.size
      have hap' : ∀ b, (Value.slice a8 es.length c8).ownBlock = some b → b ∉ L' := fun b hb hm => (gr14 b hm).elim (hap b hb) fun h => by have := (hO.lt b hb).2; omega
      refine ⟨keepG_nil _ _, _, rfl, br_n (by rw [if_neg (by omega), if_neg (by omega)]; simp) (newO_in fun w15 n15 b15 s15 => ?_)⟩
      have hO15 := hO14.below b15 (Nat.le_refl _)
      refine app_ints hO15 (src_int n15 1) (by omega) (by omega) (by simp) fun a16 c16 w16 o16 f16 or16 => ?_
      have z16 := f16.size
      have hTab16 : TabAt w16 L' p m (la + 1 + q) (es ++ [⟨la + 1 + q, ((i % 32 + 1 : Nat) : Int), 0, 0, []⟩]) := (hTab'.below sesR b15).fr sesR f16 fun b hb hb2 => hap' b (by simpa using hb2) hb
      have hB16 := (hB14.trans (b15.mono hB14.size)).trans (f16.below (b := w.heap.size) (fun b hb => (hO.lt b (by simpa using hb)).1) (by omega))
      rw [wr64 (z := (i : Int) + 1) (by omega) (by omega)]
      refine ⟨⟨i + 1, la + 1 + q, es ++ [⟨la + 1 + q, ((i % 32 + 1 : Nat) : Int), 0, 0, []⟩], rfl, by omega, by omega, by omega, by simp, by omega, by omega, ⟨⟨L', hTab16, ?_, hL'⟩, ?_, ids_push hids fun t ht => ?_, fun s hs => ?_, by rw [List.length_append, List.length_singleton]; omega, hB16⟩⟩, by dsimp only; omega⟩
      · intro b hb hm
        replace hb := (block_len a16 (es.length + 1) _ c16 c16).trans hb
        rcases or16 with h | ⟨g, h, hg⟩
        · exact hap' b (h ▸ hb) hm
        · have h2 : some g = some b := h ▸ hb
          injection h2 with h2
          have := hTab'.under b hm
          omega
      · rw [List.length_append, List.length_singleton, List.map_append]
        exact o16
      · have := (hle t ht).2
        show t.id < la + 1 + q
        omega
      · rcases List.mem_append.1 hs with hs | hs
        · have := hle s hs; omega
        · rw [List.mem_singleton] at hs; subst hs
          show 1 ≤ la + 1 + (q : Int) ∧ la + 1 + (q : Int) ≤ la + 1 + q
          omega
  · obtain ⟨⟨L, hTab, hap, hL⟩, hO, hids, hle, _, hB⟩ := hT
    refine (ids_any hTab (by omega)).mono ?_
    rintro e w17 ⟨a17, c17, rfl, o17, b17⟩
    have hlm : (es.map (·.id)).length = es.length := List.length_map _
    refine ⟨keepG_nil _ _, _, _, _, rfl, ?_⟩
    have hO17 := hO.below b17 (Nat.le_refl _)
    have hsame := same_eq (zs := es.map (·.id)) (c := c17) (c2 := c8) (by omega) (by rw [hlm]; exact o17) (by rw [hlm]; exact hO17)
    rw [hlm] at hsame
    refine hsame.mono ?_
    rintro e w18 ⟨rfl, b18⟩
    have b1718 := b17.trans (b18.mono b17.size)
    refine ⟨keepG_nil _ _, _, rfl, br_t rfl ((last_any (hTab.below sesR b1718)).mono ?_)⟩
    rintro e w19 ⟨rfl, rfl⟩
    refine ⟨keepG_nil _ _, _, rfl, by simp, ?_⟩
    have := hB.trans (b1718.mono hB.size)
    rwa [hp] at this
end Go.Proofs.Ytamlgnhnmilbdaa
end
section
/- CreditActs: both tables, call by call: End, Step, Set; walked. -/
namespace Go.Proofs.Ytamlgnhnmilbdaa
open Go.RowKit
/-- Both tables, the same sessions. -/
structure CBoth (w : World) (B p r : Nat) (pl la : Int) (es : List Ses) : Prop where
  ex : ∃ L M, TabAt w L p pl la es ∧ RTabAt w M r pl la es ∧ Apart L M ∧ From B L ∧ From B M
  ids : Ids es
  ok : ∀ s ∈ es, SesOk s ∧ s.id ≤ la
  len : (es.length : Int) ≤ pl
  pl16 : pl ≤ 16
theorem CBoth.below {w w' : World} {B p r : Nat} {pl la : Int} {es : List Ses} (h : CBoth w B p r pl la es) (hb : Below w.heap.size w w') : CBoth w' B p r pl la es := by
  obtain ⟨⟨L, M, h1, h2, h3⟩, k1, k2, k3, k4⟩ := h
  exact ⟨⟨L, M, h1.below sesR hb, h2.below sesR hb, h3⟩, k1, k2, k3, k4⟩
theorem ids_set {es : List Ses} (h : Ids es) {i : Nat} {s t : Ses} (ht : es[i]? = some t) (he : t.id = s.id) : Ids (es.set i s) := by
  have hi := (List.getElem?_eq_some_iff.1 ht).1
  intro a b x y hab hx hy
  by_cases ha : i = a
  · subst ha
    rw [List.getElem?_set_self hi] at hx; injection hx with hx; subst hx
    rw [List.getElem?_set_ne (by omega)] at hy
    have := h i b t y hab ht hy; omega
  · rw [List.getElem?_set_ne ha] at hx
    by_cases hb : i = b
    · subst hb
      rw [List.getElem?_set_self hi] at hy; injection hy with hy; subst hy
      have := h a i x t hab hx ht; omega
    · rw [List.getElem?_set_ne hb] at hy
      exact h a b x y hab hx hy
theorem step_both {w : World} {B p r : Nat} {pl la : Int} {es : List Ses} (h : CBoth w B p r pl la es) (x n : Int) : ∃ k : Int,
    Calls Try.prog 22 #[.pointer (some ⟨p, 0, none⟩), .int .i64 x, .int .i64 n] w (fun e w' => e = .returned (.int .i64 k) ∧ Below w.heap.size w w') ∧
    ∀ w', Below w.heap.size w w' → Calls Try.prog 59 #[.pointer (some ⟨r, 0, none⟩), .int .i64 x, .int .i64 n] w' fun e w'' => e = .returned (.int .i64 k) ∧ w' = w'' := by
  obtain ⟨⟨L, M, hT, hR, hap, hL, hM⟩, hids, hok, hlen, hpl⟩ := h
  have hnum : ∀ s ∈ es, 0 ≤ s.num ∧ s.num ≤ 4611686018427387904 := fun s hs => (hok s hs).1.2.2.1
  by_cases hx : ∃ i s, At es x i s
  · obtain ⟨i, s, hi⟩ := hx
    refine ⟨if n ≠ s.num + 1 then 15 else 0, (step_any hT (by omega) hids hnum x n).mono ?_, fun w' hb => (rDocStep_any (hR.below sesR hb) (by omega) hnum x n).mono ?_⟩
    · rintro e w' ⟨h1 | h1, hb⟩
      · obtain ⟨j, t, hj, rfl⟩ := h1
        obtain rfl : i = j := ids_inj hids hi.1 hj.1 (hi.2.trans hj.2.symm)
        have := hi.1.symm.trans hj.1; injection this with this; subst this
        exact ⟨rfl, hb⟩
      · exact absurd hi.2 (h1.1 s (List.mem_of_getElem? hi.1))
    · rintro e w'' ⟨h1 | h1, hb⟩
      · obtain ⟨j, t, hj, rfl⟩ := h1
        obtain rfl : i = j := ids_inj hids hi.1 hj.1 (hi.2.trans hj.2.symm)
        have := hi.1.symm.trans hj.1; injection this with this; subst this
        exact ⟨rfl, hb⟩
      · exact absurd hi.2 (h1.1 s (List.mem_of_getElem? hi.1))
  · refine ⟨7, (step_any hT (by omega) hids hnum x n).mono ?_, fun w' hb => (rDocStep_any (hR.below sesR hb) (by omega) hnum x n).mono ?_⟩
    · rintro e w' ⟨h1 | h1, hb⟩
      · obtain ⟨j, t, hj, rfl⟩ := h1; exact absurd ⟨j, t, hj⟩ hx
      · exact ⟨h1.2, hb⟩
    · rintro e w'' ⟨h1 | h1, hb⟩
      · obtain ⟨j, t, hj, rfl⟩ := h1; exact absurd ⟨j, t, hj⟩ hx
      · exact ⟨h1.2, hb⟩
/-- Both end a session: the same answer. -/
theorem ends_pair {w : World} {B p r : Nat} {pl la : Int} {es : List Ses} {L M : List Nat} (hT : TabAt w L p pl la es) (hR : RTabAt w M r pl la es) (hap : Apart L M) (hL : From B L) (hM : From B M) (hids : Ids es) (hok : ∀ s ∈ es, SesOk s ∧ s.id ≤ la) (hlen : (es.length : Int) ≤ pl) (hpl : pl ≤ 16) (hB : B ≤ w.heap.size) (x : Int) : ∃ k : Int,
    Calls Try.prog 13 #[.pointer (some ⟨p, 0, none⟩), .int .i64 x] w fun e w' => e = .returned (.int .i64 k) ∧ Fr L w w' ∧ Calls Try.prog 58 #[.pointer (some ⟨r, 0, none⟩), .int .i64 x] w' fun e w'' => e = .returned (.int .i64 k) ∧ Fr M w' w'' ∧ ∃ es', CBoth w'' B p r pl la es' := by
  by_cases hx : ∃ i s, At es x i s
  · obtain ⟨i, s, hi⟩ := hx
    have hil : i < es.length := (List.getElem?_eq_some_iff.1 hi.1).1
    refine ⟨0, (end_any hT (by omega) hids x).mono ?_⟩
    rintro e w' ⟨L', es', he, hT', f, g⟩
    rw [if_pos ⟨s, List.mem_of_getElem? hi.1, hi.2⟩] at he
    obtain ⟨rfl, j, t, hj1, hj2, rfl⟩ := he
    obtain rfl : i = j := ids_inj hids hi.1 hj1 (hi.2.trans hj2.symm)
    refine ⟨rfl, f, (rDocEnd_any (hR.fr sesR f hap.symm) (by omega) x).mono ?_⟩
    rintro e w'' ⟨M', es2, hR', h2, f2, g2⟩
    rcases h2 with ⟨j, t, hj, rfl, rfl⟩ | ⟨hno, _⟩
    · obtain rfl : i = j := ids_inj hids hi.1 hj.1 (hi.2.trans hj.2.symm)
      have hsz := f.size
      have hap' : Apart L' M := hap.gr g hR.under
      refine ⟨rfl, f2, es.eraseIdx i, ⟨⟨L', M', hT'.fr sesR f2 hap', hR', (hap'.symm.gr g2 hT'.under).symm, g.from hL hB, g2.from hM (by omega)⟩, ids_erase hids i, fun s hs => hok s (List.mem_of_mem_eraseIdx hs), by rw [List.length_eraseIdx_of_lt hil]; omega, hpl⟩⟩
    · exact absurd hi.2 (hno s (List.mem_of_getElem? hi.1))
  · have hno : ∀ s ∈ es, s.id ≠ x := fun s hs he => by
      obtain ⟨i, hi⟩ := List.getElem?_of_mem hs
      exact hx ⟨i, s, hi, he⟩
    refine ⟨7, (end_any hT (by omega) hids x).mono ?_⟩
    rintro e w' ⟨L', es', he, hT', f, g⟩
    rw [if_neg (fun ⟨s, h1, h2⟩ => hno s h1 h2)] at he
    obtain ⟨rfl, rfl⟩ := he
    refine ⟨rfl, f, (rDocEnd_any (hR.fr sesR f hap.symm) (by omega) x).mono ?_⟩
    rintro e w'' ⟨M', es2, hR', h2, f2, g2⟩
    rcases h2 with ⟨j, t, hj, _⟩ | ⟨_, rfl, rfl⟩
    · exact absurd ⟨j, t, hj⟩ hx
    · have hsz := f.size
      have hap' : Apart L' M := hap.gr g hR.under
      exact ⟨rfl, f2, _, ⟨⟨L', M', hT'.fr sesR f2 hap', hR', (hap'.symm.gr g2 hT'.under).symm, g.from hL hB, g2.from hM (by omega)⟩, hids, hok, hlen, hpl⟩⟩
end Go.Proofs.Ytamlgnhnmilbdaa
end
section
/- CreditActs: both tables: Set and Add, the same answers; walked. -/
namespace Go.Proofs.Ytamlgnhnmilbdaa
open Go.RowKit
theorem set_pair {w : World} {B p r : Nat} {pl la : Int} {es : List Ses} {L M B2 : List Nat} (hT : TabAt w L p pl la es) (hR : RTabAt w M r pl la es) (hap : Apart L M) (hL : From B L) (hM : From B M) (hids : Ids es) (hok : ∀ s ∈ es, SesOk s ∧ s.id ≤ la) (hlen : (es.length : Int) ≤ pl) (hpl : pl ≤ 16) (hB : B ≤ w.heap.size)
    (s : Ses) (a1 a2 : Option Addr) (c1 c2 : Nat) (h1 : GrAt w a1 s.gs) (hc1 : s.gs.length ≤ c1) (h2 : GrIn w B2 a2 s.gs) (hc2 : s.gs.length ≤ c2) (hgl : s.gs.length ≤ 100000) (hBu : Under B2 w.heap.size) (hBf : From B B2) (hBL : Apart B2 L) (hBM : Apart B2 M) :
    ∃ k : Int, Calls Try.prog 21 #[.pointer (some ⟨p, 0, none⟩), sesV s a1 c1] w fun e w' => e = .returned (.int .i64 k) ∧ Fr L w w' ∧ Calls Try.prog 57 #[.pointer (some ⟨r, 0, none⟩), sesV s a2 c2] w' fun e w'' => e = .returned (.int .i64 k) ∧ Fr M w' w'' ∧ ∃ es', CBoth w'' B p r pl la es' := by
  have fin : ∀ {w' w'' : World} {L' M' : List Nat} {es' : List Ses}, TabAt w' L' p pl la es' → RTabAt w'' M' r pl la es' → Fr L w w' → Fr M w' w'' → Gr L L' w.heap.size → Gr (M ++ B2) M' w'.heap.size → Ids es' → (∀ s ∈ es', SesOk s ∧ s.id ≤ la) → (es'.length : Int) ≤ pl → CBoth w'' B p r pl la es' := by
    intro w' w'' L' M' es' k1 k2 f1 f2 g1 g2 k3 k4 k5
    have hz := f1.size
    have hap1 : Apart L' M := hap.gr g1 hR.under
    have hap2 : Apart L' B2 := hBL.symm.gr g1 hBu
    have hap3 : Apart L' M' := fun b hb hb2 => by
      rcases g2 b hb2 with h | h
      · exact (List.mem_append.1 h).elim (hap1 b hb) (hap2 b hb)
      · have := k1.under b hb; omega
    refine ⟨⟨L', M', k1.fr sesR f2 hap1, k2, hap3, g1.from hL hB, fun b hb => ?_⟩, k3, k4, k5, hpl⟩
    rcases g2 b hb with h | h
    · exact (List.mem_append.1 h).elim (hM b) (hBf b)
    · omega
  by_cases hs : SesOk s
  · by_cases hx : ∃ i t, At es s.id i t
    · obtain ⟨i, t, hi⟩ := hx
      refine ⟨0, (set_any hT (by omega) hids s a1 c1 h1 hc1 hgl).mono ?_⟩
      rintro e w' ⟨L', es', hT', hcase, f, g⟩
      rcases hcase with ⟨hno, _⟩ | ⟨_, ⟨j, u, hj, rfl⟩, rfl⟩ | ⟨_, hno, _⟩
      · exact absurd hs hno
      · obtain rfl : i = j := ids_inj hids hi.1 hj.1 (hi.2.trans hj.2.symm)
        have hg2 := h2.keep (w' := w') fun b hb => f.block b (hBu b hb) (hBL b hb)
        refine ⟨rfl, f, (rDocSet_any (hR.fr sesR f hap.symm) (by omega) s a2 c2 hg2 hc2 hgl (hBu.mono f.size) hBM).mono ?_⟩
        rintro e w'' ⟨M', es2, hR', hcase2, f2, g2⟩
        rcases hcase2 with ⟨hno, _⟩ | ⟨_, ⟨j, v, hj2, rfl⟩, rfl⟩ | ⟨_, hno, _⟩
        · exact absurd hs hno
        · obtain rfl : i = j := ids_inj hids hi.1 hj2.1 (hi.2.trans hj2.2.symm)
          refine ⟨rfl, f2, es.set i s, fin hT' hR' f f2 g g2 (ids_set hids hi.1 hi.2) (fun u hu => ?_) (by rw [List.length_set]; exact hlen)⟩
          rcases List.mem_or_eq_of_mem_set hu with hu | rfl
          · exact hok u hu
          · exact ⟨hs, by rw [← hi.2]; exact (hok t (List.mem_of_getElem? hi.1)).2⟩
        · exact absurd hi.2 (hno t (List.mem_of_getElem? hi.1))
      · exact absurd hi.2 (hno t (List.mem_of_getElem? hi.1))
    · refine ⟨7, (set_any hT (by omega) hids s a1 c1 h1 hc1 hgl).mono ?_⟩
      rintro e w' ⟨L', es', hT', hcase, f, g⟩
      rcases hcase with ⟨hno, _⟩ | ⟨_, ⟨j, u, hj, _⟩, _⟩ | ⟨_, hno, rfl, rfl⟩
      · exact absurd hs hno
      · exact absurd ⟨j, u, hj⟩ hx
      · have hg2 := h2.keep (w' := w') fun b hb => f.block b (hBu b hb) (hBL b hb)
        refine ⟨rfl, f, (rDocSet_any (hR.fr sesR f hap.symm) (by omega) s a2 c2 hg2 hc2 hgl (hBu.mono f.size) hBM).mono ?_⟩
        rintro e w'' ⟨M', es2, hR', hcase2, f2, g2⟩
        rcases hcase2 with ⟨hno2, _⟩ | ⟨_, ⟨j, v, hj2, _⟩, _⟩ | ⟨_, _, rfl, rfl⟩
        · exact absurd hs hno2
        · exact absurd ⟨j, v, hj2⟩ hx
        · exact ⟨rfl, f2, _, fin hT' hR' f f2 g g2 hids hok hlen⟩
  · refine ⟨1, (set_any hT (by omega) hids s a1 c1 h1 hc1 hgl).mono ?_⟩
    rintro e w' ⟨L', es', hT', hcase, f, g⟩
    rcases hcase with ⟨_, rfl, rfl⟩ | ⟨h, _⟩ | ⟨h, _⟩
    · have hg2 := h2.keep (w' := w') fun b hb => f.block b (hBu b hb) (hBL b hb)
      refine ⟨rfl, f, (rDocSet_any (hR.fr sesR f hap.symm) (by omega) s a2 c2 hg2 hc2 hgl (hBu.mono f.size) hBM).mono ?_⟩
      rintro e w'' ⟨M', es2, hR', hcase2, f2, g2⟩
      rcases hcase2 with ⟨_, rfl, rfl⟩ | ⟨h, _⟩ | ⟨h, _⟩
      · exact ⟨rfl, f2, _, fin hT' hR' f f2 g g2 hids hok hlen⟩
      · exact absurd h hs
      · exact absurd h hs
    · exact absurd h hs
    · exact absurd h hs
/-- What both tables are behind an Add. -/
def addLa (pl la : Int) (es : List Ses) (s : Ses) : Int := if SesOk s ∧ la < s.id ∧ (es.length : Int) < pl then s.id else la
def addEs (pl la : Int) (es : List Ses) (s : Ses) : List Ses := if SesOk s ∧ la < s.id ∧ (es.length : Int) < pl then es ++ [s] else es
def addE (pl la : Int) (es : List Ses) (s : Ses) : Int := if ¬ SesOk s then 1 else if s.id ≤ la then 13 else if (es.length : Int) ≥ pl then 10 else 0
theorem add_code {w : World} {L : List Nat} {p : Nat} {pl la : Int} {es : List Ses} (h : TabAt w L p pl la es) (hlen : (es.length : Int) ≤ pl) (hpl : pl ≤ 16) (s : Ses) (a : Option Addr) (c : Nat) (hg : GrAt w a s.gs) (hc : s.gs.length ≤ c) (hgl : s.gs.length ≤ 100000) :
    Calls Try.prog 14 #[.pointer (some ⟨p, 0, none⟩), sesV s a c] w fun e w' => ∃ L', TabAt w' L' p pl (addLa pl la es s) (addEs pl la es s) ∧ e = .returned (.int .i64 (addE pl la es s)) ∧ Fr L w w' ∧ Gr L L' w.heap.size := by
  have e1 : ((es.length : Int) ≠ pl) = ((es.length : Int) < pl) := propext ⟨fun h => by omega, fun h => by omega⟩
  have e2 : ((es.length : Int) = pl) = ((es.length : Int) ≥ pl) := propext ⟨fun h => by omega, fun h => by omega⟩
  refine (add_any h (by omega) s a c hg hc hgl).mono ?_
  rintro e w' ⟨L', h1, h2, h3⟩
  refine ⟨L', ?_, ?_, h3⟩
  · unfold addLa addEs
    simpa only [e1] using h1
  · unfold addE
    simpa only [e2] using h2
theorem add_ids {pl la : Int} {es : List Ses} {s : Ses} (hids : Ids es) (hok : ∀ s ∈ es, SesOk s ∧ s.id ≤ la) (hlen : (es.length : Int) ≤ pl) : Ids (addEs pl la es s) ∧ (∀ t ∈ addEs pl la es s, SesOk t ∧ t.id ≤ addLa pl la es s) ∧ ((addEs pl la es s).length : Int) ≤ pl := by
  unfold addEs addLa
  split
  · rename_i h
    obtain ⟨h1, h2, h3⟩ := h
    refine ⟨ids_push hids fun t ht => by have := (hok t ht).2; omega, fun t ht => ?_, by rw [List.length_append, List.length_singleton]; omega⟩
    rcases List.mem_append.1 ht with ht | ht
    · have := hok t ht; exact ⟨this.1, by omega⟩
    · rw [List.mem_singleton] at ht; subst ht; exact ⟨h1, Int.le_refl _⟩
  · exact ⟨hids, hok, hlen⟩
end Go.Proofs.Ytamlgnhnmilbdaa
end
section
/- CreditActs: one call on both tables; walked. -/
namespace Go.Proofs.Ytamlgnhnmilbdaa
open Go.RowKit
theorem stO_in {w : World} {b0 : Nat} {t : TypeId} {k g off n c j : Nat} {xs : List Value} (h : Own w b0 t k (.slice (some ⟨g, off, none⟩) n c) n xs) (hj : j < n * k) {v : Value} {gs : List Nat} (hgs : ∀ x ∈ gs, x ≠ g) {K : World → Prop}
    (hk : ∀ w1, Own w1 b0 t k (.slice (some ⟨g, off, none⟩) n c) n (xs.set j v) → Fr [g] w w1 → w1.heap.size = w.heap.size → K w1) : stO gs w g (off + j) [v] K := by
  obtain ⟨k1, k2, k3, k4⟩ := own_setL [v] j w xs h (by simp only [List.length_singleton]; omega)
  exact ⟨hgs, k1, fun w1 e1 => by subst e1; exact hk _ k2 k3 k4⟩
set_option maxRecDepth 10000 in
theorem do_any {w : World} {B p r : Nat} {pl la : Int} {es : List Ses} (h : CBoth w B p r pl la es) (hB : B ≤ w.heap.size) (what num : Int) (s : Ses) (a : Option Addr) (c : Nat) (hg : GrAt w a s.gs) (hc : s.gs.length ≤ c) :
    Calls Try.prog 24 #[.agg #[.int .i64 what, .int .i64 s.id, .int .i64 s.node, .int .i64 s.num, .int .i64 s.dl, .slice a s.gs.length c, .int .i64 num], .pointer (some ⟨p, 0, none⟩), .pointer (some ⟨r, 0, none⟩)] w fun e w' => e = .returned (.bool true) ∧ (∃ la' es', CBoth w' B p r pl la' es') ∧ Below B w w' := by
  refine (GCred2.ado_calls what s.id s.node s.num s.dl a s.gs.length c num (some ⟨p, 0, none⟩) (some ⟨r, 0, none⟩) w (fun v w' => v = .bool true ∧ (∃ la' es', CBoth w' B p r pl la' es') ∧ Below B w w') ?_).mono (by rintro e w' ⟨v, rfl, rfl, h⟩; exact ⟨rfl, h⟩)
  unfold GCred2.ado_vc
  obtain ⟨⟨L, M, hT, hR, hap, hL, hM⟩, hids, hok, hlen, hpl⟩ := id h
  have hLu := hT.under
  have hMu := hR.under
  refine newO_in fun w2 n2 b2 s2 => (tame_any s a c w2 (hg.below b2) hc).mono ?_
  rintro e w3 ⟨a3, c3, rfl, o3, b3⟩
  have B3 := b2.trans (b3.mono b2.size)
  have z3 := b3.size
  have h6 : (tamed s).gs.length ≤ 6 := by show (s.gs.take 6).length ≤ 6; rw [List.length_take]; omega
  refine ⟨keepG_below b3, _, _, _, _, _, _, _, rfl, newO_in fun w4 n4 b4 s4 w5 h5 => ⟨by decide, ?_⟩⟩
  generalize tamed s = t at *
  have z5 := h5.2
  have B4 := B3.trans (b4.mono B3.size)
  have B5 := box_below B4 (by omega) h5
  have o5 := (o3.below b4 (Nat.le_refl _)).keep (w' := w5) fun k hk => h5.1.block k (by have := (o3.lt k hk).2; omega) (by rw [List.mem_singleton]; have := (o3.lt k hk).2; omega)
  have hc3 : t.gs.length ≤ c3 := (Own.cap o3).1
  have B2lt : ∀ k ∈ (Value.slice a3 t.gs.length c3).ownBlock.toList, w2.heap.size ≤ k ∧ k < w3.heap.size := fun k hk => o3.lt k (by simpa using hk)
  have gin : ∀ {wx : World}, (∀ k, w2.heap.size ≤ k → k < w3.heap.size → wx.heap[k]? = w5.heap[k]?) → GrIn wx (Value.slice a3 t.gs.length c3).ownBlock.toList a3 t.gs := fun hk => (gr_own o5).keep fun k hm => hk k (B2lt k hm).1 (B2lt k hm).2
  obtain ⟨q, hq, hqq⟩ := u64_mod what 4 (by decide)
  have hq1 : IntKind.i64.wrap (Int.tmod (IntKind.u64.wrap what) 4) = (q : Int) := by
    rw [show Int.tmod (IntKind.u64.wrap what) 4 = (q : Int) from hqq, wr64 (by omega) (by omega)]
  rw [hq1]
  have notbox : ∀ g ∈ [w3.heap.size, w.heap.size], g ∉ L ∧ g ∉ M := fun g hg => by
    simp at hg
    refine ⟨fun hm => ?_, fun hm => ?_⟩
    · have := hLu g hm; omega
    · have := hMu g hm; omega
  refine br_dec (fun h0 => ?_) fun h0 => br_dec (fun h1 => ?_) fun h1 => br_dec (fun h2 => ?_) fun h2 => ?_
  · refine (to_any t a3 c3 w5 (gin fun _ _ _ => rfl).anywhere (by omega)).mono ?_
    rintro e w6 ⟨a6, c6, rfl, o6, b6⟩
    have z6 := b6.size
    refine ⟨keepG_below b6, _, _, _, _, _, _, _, rfl, newO_in fun w7 n7 b7 s7 w8 h8 => ?_⟩
    have z8 := h8.2
    have B6 := B5.trans (b6.mono B5.size)
    have B8 := box_below (B6.trans (b7.mono B6.size)) (by have := B6.size; omega) h8
    have o8 := (o6.below b7 (Nat.le_refl _)).keep (w' := w8) fun k hk => h8.1.block k (by have := (o6.lt k hk).2; omega) (by rw [List.mem_singleton]; have := (o6.lt k hk).2; omega)
    have kp8 : ∀ k, k < w6.heap.size → w8.heap[k]? = w6.heap[k]? := fun k hk => (h8.1.block k (by omega) (by rw [List.mem_singleton]; omega)).trans (b7.block k hk)
    have x8 : ∀ k, (Value.slice a6 t.gs.length c6).ownBlock = some k → w5.heap.size ≤ k ∧ k < w6.heap.size := fun k hk => o6.lt k hk
    refine (add_code (hT.below sesR B8) hlen hpl t a6 c6 (gr_own o8).anywhere (Own.cap o8).1 (by omega)).mono ?_
    rintro e w9 ⟨L', hT9, rfl, f9, g9⟩
    have z9 := f9.size
    have nL : ∀ k, w.heap.size ≤ k → k ∉ L := fun k hk hm => by have := hLu k hm; omega
    have nM : ∀ k, w.heap.size ≤ k → k ∉ M := fun k hk hm => by have := hMu k hm; omega
    have zB5 := B5.size
    refine ⟨keepG_fr f9 (fun g hg => nL g (by simp at hg; omega)), _, rfl, ?_⟩
    have o9 := o8.keep (w' := w9) fun k hk => f9.block k (by have := x8 k hk; omega) (nL k (by have := x8 k hk; omega))
    have ints0 : ∀ j, j < t.gs.length → ∃ z : Int, (t.gs.flatMap g4Cells)[j * 4 + 1]? = some (.int .i64 z) := fun j hj => ⟨t.gs[j].units, by rw [flat_get g4_len t.gs j _ 1 (List.getElem?_eq_getElem hj) (by omega)]; rfl⟩
    refine ⟨fun y wx => ∃ (i : Nat) (xs : List Value), y = i ∧ i ≤ t.gs.length ∧ Own wx w5.heap.size 115 4 (.slice a6 t.gs.length c6) t.gs.length xs ∧ (∀ j, j < t.gs.length → ∃ z : Int, xs[j * 4 + 1]? = some (.int .i64 z)) ∧ Fr (Value.slice a6 t.gs.length c6).ownBlock.toList w9 wx ∧ wx.heap.size = w9.heap.size, fun y _ => t.gs.length - y.toNat, ⟨0, _, rfl, by omega, o9, ints0, Fr.refl _ _, rfl⟩, ?_⟩
    rintro y wx ⟨i, xs, rfl, hi, ox, hin, fx, zx⟩
    refine br_dec (fun hlt => ?_) fun hge => ?_
    · have hil : i < t.gs.length := by omega
      obtain ⟨g, off, rfl, _⟩ := own_somewhere ox (by omega)
      obtain ⟨z, hz⟩ := hin i hil
      have hgx := x8 g rfl
      refine ⟨by omega, by omega, z, ?_, by omega, by omega, ?_⟩
      · rw [Int.toNat_natCast, Nat.add_assoc]; exact ox.cells g off c6 rfl _ _ hz
      rw [Int.toNat_natCast, Nat.add_assoc]
      refine stO_in ox (by omega) (fun x hx => by simp at hx; omega) fun w11 o11 f11 z11 => ?_
      rw [wr64 (by omega) (by omega)]
      refine ⟨⟨i + 1, _, by omega, by omega, o11, fun j hj => ?_, fx.trans f11 (fun b hb => by rw [List.mem_singleton] at hb; subst hb; exact .inl (by simp [Value.ownBlock])), by omega⟩, by dsimp only; omega⟩
      by_cases hij : i = j
      · subst hij
        exact ⟨_, List.getElem?_set_self (by have := (List.getElem?_eq_some_iff.1 hz).1; omega)⟩
      · obtain ⟨z2, hz2⟩ := hin j hj
        exact ⟨z2, by rw [List.getElem?_set_ne (by omega)]; exact hz2⟩
    · have apx : ∀ k ∈ (Value.slice a6 t.gs.length c6).ownBlock.toList, w5.heap.size ≤ k ∧ k < w6.heap.size := fun k hk => x8 k (by simpa using hk)
      have hTx := hT9.fr sesR fx fun b hb hm => by
        have := apx b hm
        rcases g9 b hb with h | h
        · have := hLu b h; omega
        · omega
      have hRx := ((hR.below sesR B8).fr sesR f9 hap.symm).fr sesR fx fun b hb hm => by have := apx b hm; have := hMu b hb; omega
      have hgx := gin (wx := wx) fun k k1 k2 => by
        rw [fx.block k (by omega) (fun hm => by have := apx k hm; omega), f9.block k (by omega) (nL k (by omega)), kp8 k (by omega)]
        exact b6.block k (by omega)
      refine (rDocAdd_any hRx (by omega) t a3 c3 hgx hc3 (by omega) (fun b hb => by have := B2lt b hb; omega) (fun b hb hm => by have := B2lt b hb; have := hMu b hm; omega)).mono ?_
      rintro e w12 ⟨M', hR12, rfl, f12, g12⟩
      have z12 := f12.size
      obtain ⟨i1, i2, i3⟩ := add_ids (pl := pl) (la := la) (es := es) (s := t) hids hok hlen
      have hapM : Apart L' M := fun b hb hm => (g9 b hb).elim (fun h => hap b h hm) fun h => by have := hMu b hm; omega
      have hapLM : Apart L' M' := fun b hb hm => by
        rcases g12 b hm with h | h
        · rcases List.mem_append.1 h with h | h
          · exact hapM b hb h
          · have := B2lt b h
            rcases g9 b hb with h | h
            · have := hLu b h; omega
            · omega
        · have := hTx.under b hb; omega
      refine ⟨keepG_fr f12 (fun g hg => nM g (by simp at hg; omega)), _, rfl, by simp [addE], ⟨_, _, ⟨⟨L', M', hTx.fr sesR f12 hapM, hR12, hapLM, fun b hb => ?_, fun b hb => ?_⟩, i1, i2, i3, hpl⟩⟩, ?_⟩
      · exact (g9 b hb).elim (hL b) fun h => by omega
      · rcases g12 b hb with h | h
        · exact (List.mem_append.1 h).elim (hM b) fun h => by have := B2lt b h; omega
        · omega
      · exact ((((B8.mono hB).trans (f9.below hL (by omega))).trans (fx.below (b := B) (fun b hb => by have := apx b hb; omega) (by omega))).trans (f12.below hM (by omega)))
  · refine drewO_in fun w13 b13 _ => ?_
    have z13 := b13.size
    have zB5 := B5.size
    have B13 := B5.trans (b13.mono B5.size)
    refine (to_any t a3 c3 w13 (gin fun k k1 k2 => b13.block k (by omega)).anywhere (by omega)).mono ?_
    rintro e w14 ⟨a14, c14, rfl, o14, b14⟩
    have B14 := B13.trans (b14.mono B13.size)
    have z14 := b14.size
    obtain ⟨k, hk⟩ := set_pair (hT.below sesR B14) (hR.below sesR B14) hap hL hM hids hok hlen hpl (by omega) t a14 a3 c14 c3 (gr_own o14).anywhere (Own.cap o14).1 (gin fun k k1 k2 => by rw [b14.block k (by omega)]; exact b13.block k (by omega)) hc3 (by omega) (fun b hb => by have := B2lt b hb; omega) (fun b hb => by have := B2lt b hb; omega) (fun b hb hm => by have := B2lt b hb; have := hLu b hm; omega) (fun b hb hm => by have := B2lt b hb; have := hMu b hm; omega)
    refine ⟨keepG_below b14, _, _, _, _, _, _, _, rfl, hk.mono ?_⟩
    rintro e w15 ⟨rfl, f15, hk2⟩
    have z15 := f15.size
    refine ⟨keepG_fr f15 fun g hg => (notbox g hg).1, _, rfl, hk2.mono ?_⟩
    rintro e w16 ⟨rfl, f16, es', hCB⟩
    exact ⟨keepG_fr f16 fun g hg => (notbox g hg).2, _, rfl, by simp, ⟨la, es', hCB⟩, ((B14.mono hB).trans (f15.below hL (by omega))).trans (f16.below hM (by omega))⟩
  · refine drewO_in fun w17 b17 _ => ?_
    have B17 := B5.trans (b17.mono B5.size)
    have zB := B17.size
    obtain ⟨k, hk⟩ := ends_pair (hT.below sesR B17) (hR.below sesR B17) hap hL hM hids hok hlen hpl (by omega) t.id
    refine hk.mono ?_
    rintro e w18 ⟨rfl, f18, hk2⟩
    have z18 := f18.size
    refine ⟨keepG_fr f18 fun g hg => (notbox g hg).1, _, rfl, hk2.mono ?_⟩
    rintro e w19 ⟨rfl, f19, es', hCB⟩
    exact ⟨keepG_fr f19 fun g hg => (notbox g hg).2, _, rfl, by simp, ⟨la, es', hCB⟩, ((B17.mono hB).trans (f18.below hL (by omega))).trans (f19.below hM (by omega))⟩
  · refine drewO_in fun w20 b20 _ => ?_
    have B20 := B5.trans (b20.mono B5.size)
    obtain ⟨k, hk1, hk2⟩ := step_both (h.below B20) t.id num
    refine hk1.mono ?_
    rintro e w21 ⟨rfl, b21⟩
    refine ⟨keepG_below b21, _, rfl, (hk2 w21 b21).mono ?_⟩
    rintro e w22 ⟨rfl, rfl⟩
    have B21 := B20.trans (b21.mono B20.size)
    exact ⟨fun _ _ _ => rfl, _, rfl, by simp, ⟨la, es, h.below B21⟩, B21.mono hB⟩
end Go.Proofs.Ytamlgnhnmilbdaa
end
section
/- CreditActs: what is told of no table; sessions handed back; walked. -/
namespace Go.Proofs.Ytamlgnhnmilbdaa
open Go.RowKit
theorem from_any (s : Ses) (a : Option Addr) (c : Nat) (w : World) (h : GrAt w a s.gs) (hm : s.gs.length ≤ 100000) :
    Calls Try.prog 61 #[sesV s a c] w fun e w' => ∃ a' c', e = .returned (sesV s a' c') ∧ Own w' w.heap.size 161 4 (.slice a' s.gs.length c') s.gs.length (s.gs.flatMap g4Cells) ∧ Below w.heap.size w w' := by
  refine (GCred2.lfrom_calls s.id s.node s.num s.dl a s.gs.length c w (fun v w' => ∃ a' c', v = sesV s a' c' ∧ Own w' w.heap.size 161 4 (.slice a' s.gs.length c') s.gs.length (s.gs.flatMap g4Cells) ∧ Below w.heap.size w w') ?_).mono (by rintro e w' ⟨v, rfl, a', c', rfl, h⟩; exact ⟨a', c', rfl, h⟩)
  unfold GCred2.lfrom_vc
  refine newO_in fun w2 n2 b2 s2 => newO_in fun w3 n3 b3 s3 => newO_in fun w4 n4 b4 s4 w5 h5 => ?_
  have B4 := (b2.trans (b3.mono b2.size)).trans (b4.mono (by omega))
  have B5 := box_below B4 (by omega) h5
  have z5 := h5.2
  refine ⟨fun x4 y0 y1 y2 y3 a3 n3 c3 wx => ∃ i : Nat, x4 = i ∧ y0 = s.id ∧ y1 = s.node ∧ y2 = s.num ∧ y3 = s.dl ∧ i ≤ s.gs.length ∧ i = n3 ∧ Own wx (w.heap.size + 3) 161 4 (.slice a3 i c3) i ((s.gs.take i).flatMap g4Cells) ∧ Below w.heap.size w wx ∧ w.heap.size + 3 ≤ wx.heap.size, fun x4 _ _ _ _ _ _ _ _ => s.gs.length - x4.toNat, ⟨0, rfl, rfl, rfl, rfl, rfl, by omega, rfl, Own.nil _ _ _ _, B5, by omega⟩, ?_⟩
  rintro x4 y0 y1 y2 y3 a3 n3 c3 wx ⟨i, rfl, rfl, rfl, rfl, rfl, hi, rfl, hO, hb, hsz⟩
  refine br_dec (fun hlt => ?_) fun hge => ?_
  · have hil : i < s.gs.length := by omega
    obtain ⟨b, off, ha, hc4⟩ := RowsAt.get (h.below hb) hil
    subst ha
    refine ⟨by omega, by omega, s.gs[i].grp, s.gs[i].units, s.gs[i].amount, s.gs[i].fin, by rw [Int.toNat_natCast]; exact hc4, newO_in fun w7 n7 b7 s7 w8 h8 => newO_in fun w9 n9 b9 s9 => ?_⟩
    have hlx : ∀ k, (Value.slice a3 i c3).ownBlock = some k → w.heap.size + 3 ≤ k ∧ k < wx.heap.size := fun k hk => hO.lt k hk
    have z8 := h8.2
    have o8 := (hO.below b7 (Nat.le_refl _)).keep (w' := w8) fun k hk => h8.1.block k (by have := hlx k hk; omega) (by rw [List.mem_singleton]; have := hlx k hk; omega)
    have o9 := o8.below b9 (Nat.le_refl _)
    refine ⟨1, (s.gs.take i).flatMap g4Cells, g4Cells s.gs[i], o9.base_le fun _ _ => Nat.zero_le _, src_block Try.underlying51 (n := 1) (size := 4) n9 rfl rfl, by unfold maxLen; omega, by omega, fun g hg e => ?_, ?_⟩
    · have := hlx g e
      simp at hg
      omega
    intro a10 c10 w10 o10 g10 or10 _ w11 h11
    have z10 := g10.size
    have far : ∀ k, (Value.slice a10 (i + 1) c10).ownBlock = some k → w.heap.size + 3 ≤ k := fun k hk => by
      rcases or10 with h1 | ⟨g, h1, hg⟩
      · exact (hlx k (h1 ▸ hk)).1
      · rw [h1] at hk; injection hk with hk; omega
    have o11 := (o10.keep (w' := w11) fun k hk => h11.1.block k (o10.lt k hk).2 (by rw [List.mem_singleton]; have := far k hk; omega)).base_le far
    have B8 : Below w.heap.size w w8 := hb.trans ((box_below b7 (Nat.le_refl _) h8).mono hb.size)
    have B9 := B8.trans (b9.mono B8.size)
    have B10 : Below w.heap.size w w10 := below_gr B9 B9.size g10 fun k hk => by have := hlx k hk; omega
    have B11 := box_below B10 (by omega) h11
    rw [wr64 (by omega) (by omega)]
    refine ⟨⟨i + 1, by omega, rfl, rfl, rfl, rfl, by omega, rfl, ?_, B11, by have := h11.2; omega⟩, by dsimp only; omega⟩
    rw [List.take_add_one, List.getElem?_eq_getElem hil, List.flatMap_append]
    simpa using o11
  · obtain rfl : i = s.gs.length := by omega
    intro w12 h12
    rw [List.take_length] at hO
    have o12 := hO.keep (w' := w12) fun k hk => h12.1.block k (hO.lt k hk).2 (by rw [List.mem_singleton]; have := (hO.lt k hk).1; omega)
    exact ⟨a3, c3, rfl, o12.base_le fun k hk => by have := (hO.lt k hk).1; omega, box_below hb (by omega) h12⟩
theorem none_any (w : World) : Calls Try.prog 18 #[] w fun e w' => e = .returned (.pointer none) ∧ w = w' := by
  refine (GCred2.lnone_calls w (fun v w' => v = .pointer none ∧ w = w') ?_).mono (by rintro e w' ⟨v, rfl, rfl, rfl⟩; exact ⟨rfl, rfl⟩)
  exact ⟨rfl, rfl⟩
theorem find_nil (x : Int) (w : World) : Calls Try.prog 46 #[.pointer none, .int .i64 x] w fun e w' => e = .returned (.tuple #[.int .i64 0, .int .i64 1]) ∧ w = w' := by
  refine (GCred.find_calls none x w (fun v w' => v = .tuple #[.int .i64 0, .int .i64 1] ∧ w = w') ?_).mono (by rintro e w' ⟨v, rfl, rfl, rfl⟩; exact ⟨rfl, rfl⟩)
  exact br_t rfl ⟨rfl, rfl⟩
theorem get_nil (x : Int) (w : World) : Calls Try.prog 19 #[.pointer none, .int .i64 x] w fun e w' => e = .returned (.tuple #[sesV ⟨0, 0, 0, 0, []⟩ none 0, .int .i64 1]) ∧ Below w.heap.size w w' := by
  refine (GCred2.get_calls none x w (fun v w' => v = .tuple #[sesV ⟨0, 0, 0, 0, []⟩ none 0, .int .i64 1] ∧ Below w.heap.size w w') ?_).mono (by rintro e w' ⟨v, rfl, rfl, h⟩; exact ⟨rfl, h⟩)
  unfold GCred2.get_vc
  refine newO_in fun w2 n2 b2 s2 => (find_nil x w2).mono ?_
  rintro e w3 ⟨rfl, rfl⟩
  exact ⟨fun _ _ _ => rfl, _, _, rfl, br_y (by decide) fun w4 h4 => ⟨rfl, box_below b2 (Nat.le_refl _) h4⟩⟩
theorem end_nil' (x : Int) (w : World) : Calls Try.prog 13 #[.pointer none, .int .i64 x] w fun e w' => e = .returned (.int .i64 1) ∧ w = w' := by
  refine (GCred.tend_calls none x w (fun v w' => v = .int .i64 1 ∧ w = w') ?_).mono (by rintro e w' ⟨v, rfl, rfl, rfl⟩; exact ⟨rfl, rfl⟩)
  unfold GCred.tend_vc
  refine (find_nil x w).mono ?_
  rintro e w3 ⟨rfl, rfl⟩
  exact ⟨keepG_nil _ _, _, _, rfl, br_y (by decide) ⟨rfl, rfl⟩⟩
theorem step_nil (x n : Int) (w : World) : Calls Try.prog 22 #[.pointer none, .int .i64 x, .int .i64 n] w fun e w' => e = .returned (.int .i64 1) ∧ w = w' := by
  refine (GCred2.step_calls none x n w (fun v w' => v = .int .i64 1 ∧ w = w') ?_).mono (by rintro e w' ⟨v, rfl, rfl, rfl⟩; exact ⟨rfl, rfl⟩)
  unfold GCred2.step_vc
  refine (find_nil x w).mono ?_
  rintro e w3 ⟨rfl, rfl⟩
  exact ⟨keepG_nil _ _, _, _, rfl, br_y (by decide) ⟨rfl, rfl⟩⟩
theorem add_none (w : World) : Calls Try.prog 14 #[.pointer none, .agg #[.int .i64 0, .int .i64 0, .int .i64 0, .int .i64 0, .slice none 0 0]] w fun e w' => e = .returned (.int .i64 1) ∧ Below w.heap.size w w' := by
  refine (GCred.add_calls none 0 0 0 0 none 0 0 w (fun v w' => v = .int .i64 1 ∧ Below w.heap.size w w') ?_).mono (by rintro e w' ⟨v, rfl, rfl, h⟩; exact ⟨rfl, h⟩)
  unfold GCred.add_vc
  exact newO_in fun w2 n2 b2 s2 => br_t rfl ⟨rfl, b2⟩
theorem set_none (w : World) : Calls Try.prog 21 #[.pointer none, .agg #[.int .i64 0, .int .i64 0, .int .i64 0, .int .i64 0, .slice none 0 0]] w fun e w' => e = .returned (.int .i64 1) ∧ Below w.heap.size w w' := by
  refine (GCred2.set_calls none 0 0 0 0 none 0 0 w (fun v w' => v = .int .i64 1 ∧ Below w.heap.size w w') ?_).mono (by rintro e w' ⟨v, rfl, rfl, h⟩; exact ⟨rfl, h⟩)
  unfold GCred2.set_vc
  refine newO_in fun w2 n2 b2 s2 => (right_any ⟨0, 0, 0, 0, []⟩ none 0 w2 (.inl rfl) (Nat.le_refl _) (Nat.zero_le _)).mono ?_
  rintro e w3 ⟨rfl, b3⟩
  exact ⟨keepG_below b3, _, rfl, br_t (by decide) ⟨rfl, b2.trans (b3.mono b2.size)⟩⟩
theorem ids_nil (w : World) : Calls Try.prog 16 #[.pointer none] w fun e w' => e = .returned (.slice none 0 0) ∧ w = w' := by
  refine (GCred.ids_calls none w (fun v w' => v = .slice none 0 0 ∧ w = w') ?_).mono (by rintro e w' ⟨v, rfl, rfl, rfl⟩; exact ⟨rfl, rfl⟩)
  exact br_t rfl ⟨rfl, rfl⟩
theorem last_nil (w : World) : Calls Try.prog 17 #[.pointer none] w fun e w' => e = .returned (.int .i64 0) ∧ w = w' := by
  refine (GCred.last_calls none w (fun v w' => v = .int .i64 0 ∧ w = w') ?_).mono (by rintro e w' ⟨v, rfl, rfl, rfl⟩; exact ⟨rfl, rfl⟩)
  exact br_t rfl ⟨rfl, rfl⟩
theorem held_nil (x : Int) (w : World) : Calls Try.prog 23 #[.pointer none, .int .i64 x] w fun e w' => e = .returned (.int .i64 0) ∧ w = w' := by
  refine (GCred2.held_calls none x w (fun v w' => v = .int .i64 0 ∧ w = w') ?_).mono (by rintro e w' ⟨v, rfl, rfl, rfl⟩; exact ⟨rfl, rfl⟩)
  exact br_t rfl ⟨rfl, rfl⟩
theorem cNew_bad (m : Int) (w : World) (h : m < 1 ∨ 16 < m) : Calls Try.prog 11 #[.int .i64 m] w fun e w' => e = .returned (.tuple #[.pointer none, .int .i64 1]) ∧ w = w' := by
  refine (GCred.new_calls m w (fun v w' => v = .tuple #[.pointer none, .int .i64 1] ∧ w = w') ?_).mono (by rintro e w' ⟨v, rfl, rfl, rfl⟩; exact ⟨rfl, rfl⟩)
  unfold GCred.new_vc
  refine (within_any m 1 16 w).mono ?_
  rintro e w2 ⟨rfl, rfl⟩
  exact ⟨keepG_nil _ _, _, rfl, br_t (by rw [decide_eq_false (by omega)]; rfl) ⟨rfl, rfl⟩⟩
end Go.Proofs.Ytamlgnhnmilbdaa
end
section
/- CreditActs: the rows of calls that come in; two sessions that are the same. -/
namespace Go.Proofs.Ytamlgnhnmilbdaa
open Go.RowKit Go.WideShapes Go.ChangeShapes
structure CAct where
  what : Int
  s : Ses
  num : Int
def CActAt (w : World) (b off : Nat) (x : CAct) : Prop := ∃ a c, cellsAt w b off [.int .i64 x.what, .int .i64 x.s.id, .int .i64 x.s.node, .int .i64 x.s.num, .int .i64 x.s.dl, .slice a x.s.gs.length c, .int .i64 x.num] ∧ GrAt w a x.s.gs ∧ x.s.gs.length ≤ c
theorem CActAt.below {w w' : World} {b off : Nat} {x : CAct} (h : CActAt w b off x) (hb : Below w.heap.size w w') : CActAt w' b off x := by
  obtain ⟨a, c, h1, h2, h3⟩ := h
  exact ⟨a, c, cellsAt_below h1 hb (Nat.le_refl _), h2.below hb, h3⟩
def shGr : Sh := .agg (.fcons 0 1 (.int .i64) (.fcons 1 1 (.int .i64) (.fcons 2 1 (.int .i64) (.fcons 3 1 .bool .fnil))))
def shSes : Sh := .agg (.fcons 0 1 (.int .i64) (.fcons 1 1 (.int .i64) (.fcons 2 1 (.int .i64) (.fcons 3 1 (.int .i64) (.fcons 4 1 (.slice shGr 4) .fnil)))))
def shCAct : Sh := .agg (.fcons 0 1 (.int .i64) (.fcons 1 5 shSes (.fcons 6 1 (.int .i64) .fnil)))
theorem gr_elem {w : World} (cs' : List Value) (b off : Nat) (hl : cs'.length = 4) (hc : cellsAt w b off cs') (h : shGr.Has w cs') : ∃ g, cellsAt w b off (g4Cells g) := by
  obtain ⟨⟨x, hx, _⟩, ⟨y, hy, _⟩, ⟨z, hz, _⟩, ⟨k, hk⟩, _⟩ := h
  match cs', hl with
  | [v0, v1, v2, v3], _ =>
    simp at hx hy hz hk
    subst hx; subst hy; subst hz; subst hk
    exact ⟨⟨x, y, z, k⟩, hc⟩
theorem cact_elem {w : World} (cs' : List Value) (b off : Nat) (hl : cs'.length = 7) (hc : cellsAt w b off cs') (h : shCAct.Has w cs') : ∃ x, CActAt w b off x := by
  obtain ⟨⟨x, hx, _⟩, ⟨⟨y1, h1, _⟩, ⟨y2, h2, _⟩, ⟨y3, h3, _⟩, ⟨y4, h4, _⟩, hg, _⟩, ⟨z, hz, _⟩, _⟩ := h
  obtain ⟨gs, a, c, hg1, hg2, _, hg3⟩ := has_rows (R := fun w b off g => cellsAt w b off (g4Cells g)) (by decide) gr_elem hg
  match cs', hl with
  | [v0, v1, v2, v3, v4, v5, v6], _ =>
    simp at hx h1 h2 h3 h4 hz hg1
    subst hx; subst h1; subst h2; subst h3; subst h4; subst hz; subst hg1
    exact ⟨⟨x, ⟨y1, y2, y3, y4, gs⟩, z⟩, a, c, hc, hg3, hg2⟩
theorem open_cacts {H : Type} {enc : TypeId × Value → H} {W : World} {t : TypeId} {v : Value} {d : DataW H} {p : List MemPlace} (hf : fitsB Try.prog (.slice shCAct 7) t = true) (hv : ∃ a l c, v = .slice a l c) (h : DataW.Trod enc Try.prog W 0 (fun _ => true) true t v d p) :
    ∃ (xs : List CAct) (a : Option Addr) (c : Nat), v = .slice a xs.length c ∧ RowsAt CActAt 7 W a xs ∧ xs.length ≤ c ∧ c ≤ maxLen := open_rows (by decide) cact_elem hf hv h
theorem same17_eq (s : Ses) (a a2 : Option Addr) (c c2 : Nat) (w : World) (h1 : GrAt w a s.gs) (h2 : GrAt w a2 s.gs) (hm : s.gs.length ≤ 100000) :
    Calls Try.prog 60 #[sesV s a c, sesV s a2 c2] w fun e w' => e = .returned (.bool true) ∧ Below w.heap.size w w' := by
  refine (GCred2.rSame_calls s.id s.node s.num s.dl a s.gs.length c s.id s.node s.num s.dl a2 s.gs.length c2 w (fun v w' => v = .bool true ∧ Below w.heap.size w w') ?_).mono (by rintro e w' ⟨v, rfl, rfl, h⟩; exact ⟨rfl, h⟩)
  unfold GCred2.rSame_vc
  refine newO_in fun w2 n2 b2 s2 => newO_in fun w3 n3 b3 s3 => br_n (by simp) (br_n (by simp) (br_n (by simp) (br_n (by simp) (br_n (by simp) ?_))))
  have B3 := b2.trans (b3.mono b2.size)
  refine ⟨fun x wx => ∃ i : Nat, x = i ∧ i ≤ s.gs.length ∧ Below w.heap.size w wx, fun x _ => s.gs.length - x.toNat, ⟨0, rfl, by omega, B3⟩, ?_⟩
  rintro x wx ⟨i, rfl, hi, hb⟩
  refine br_dec (fun hlt => drewO_in fun w5 b5 _ => ?_) fun hge => ⟨rfl, hb⟩
  have B5 := hb.trans (b5.mono hb.size)
  have hil : i < s.gs.length := by omega
  obtain ⟨b, off, ha, hc1⟩ := RowsAt.get (h1.below B5) hil
  obtain ⟨b', off', ha2, hc2⟩ := RowsAt.get (h2.below B5) hil
  subst ha; subst ha2
  refine ⟨by omega, by omega, s.gs[i].grp, s.gs[i].units, s.gs[i].amount, s.gs[i].fin, by rw [Int.toNat_natCast]; exact hc1, by omega, by omega, s.gs[i].grp, s.gs[i].units, s.gs[i].amount, s.gs[i].fin, by rw [Int.toNat_natCast]; exact hc2, br_f (by simp) ?_⟩
  rw [wr64 (by omega) (by omega)]
  exact ⟨⟨i + 1, by omega, by omega, B5⟩, by dsimp only; omega⟩
end Go.Proofs.Ytamlgnhnmilbdaa
end
section
/- Numbers in ten parts of 32 bits: what one part of a sum, a difference, a product is. No program in sight. -/
namespace Go.Proofs.Ytamlgnhnmilbdaa
open Go.RowKit
def limb (n i : Nat) : Nat := n / 2 ^ (32 * i) % 4294967296
def uV (n : Nat) : Value := .int .u64 n
def arr (f : Nat → Nat) (neg : Bool) : Array Value := #[uV (f 0), uV (f 1), uV (f 2), uV (f 3), uV (f 4), uV (f 5), uV (f 6), uV (f 7), uV (f 8), uV (f 9), .bool neg]
def bigM (n : Nat) (neg : Bool) : Value := .agg (arr (limb n) neg)
def bigOf (z : Int) : Value := bigM z.natAbs (decide (z < 0))
theorem limb_lt (n i : Nat) : limb n i < 4294967296 := Nat.mod_lt _ (by omega)
theorem cases10 {P : Nat → Prop} (h0 : P 0) (h1 : P 1) (h2 : P 2) (h3 : P 3) (h4 : P 4) (h5 : P 5) (h6 : P 6) (h7 : P 7) (h8 : P 8) (h9 : P 9) : ∀ i, i < 10 → P i := by
  intro i hi
  match i, hi with
  | 0, _ => exact h0
  | 1, _ => exact h1
  | 2, _ => exact h2
  | 3, _ => exact h3
  | 4, _ => exact h4
  | 5, _ => exact h5
  | 6, _ => exact h6
  | 7, _ => exact h7
  | 8, _ => exact h8
  | 9, _ => exact h9
  | n + 10, h => omega
theorem arr_get (f : Nat → Nat) (neg : Bool) : ∀ i, i < 10 → (arr f neg)[i]? = some (.int .u64 (f i)) := cases10 rfl rfl rfl rfl rfl rfl rfl rfl rfl rfl
theorem arr_neg (f : Nat → Nat) (neg : Bool) : (arr f neg)[10]? = some (.bool neg) := rfl
theorem arr_size (f : Nat → Nat) (neg : Bool) : (arr f neg).size = 11 := rfl
theorem arr_congr {f g : Nat → Nat} (neg : Bool) (h : ∀ i, i < 10 → f i = g i) : arr f neg = arr g neg := by
  unfold arr
  rw [h 0 (by omega), h 1 (by omega), h 2 (by omega), h 3 (by omega), h 4 (by omega), h 5 (by omega), h 6 (by omega), h 7 (by omega), h 8 (by omega), h 9 (by omega)]
theorem arr_set (f : Nat → Nat) (neg : Bool) (v : Nat) : ∀ i, i < 10 → (arr f neg).setIfInBounds i (.int .u64 v) = arr (fun k => if k = i then v else f k) neg := cases10 rfl rfl rfl rfl rfl rfl rfl rfl rfl rfl
theorem arr_setNeg (f : Nat → Nat) (neg b : Bool) : (arr f neg).setIfInBounds 10 (.bool b) = arr f b := rfl
theorem arr_one (f : Nat → Nat) (neg : Bool) : (arr f neg).all (·.oneCell') = true := by simp [arr, uV, Value.oneCell']
theorem arr_zero : arr (fun _ => 0) false = #[.int .u64 0, .int .u64 0, .int .u64 0, .int .u64 0, .int .u64 0, .int .u64 0, .int .u64 0, .int .u64 0, .int .u64 0, .int .u64 0, .bool false] := rfl
theorem limb_zero (i : Nat) : limb 0 i = 0 := by unfold limb; rw [Nat.zero_div]
theorem bigOf_zero : bigOf 0 = .agg (arr (fun _ => 0) false) := by
  show Value.agg (arr (limb 0) false) = _
  rw [arr_congr false (g := fun _ => 0) (fun i _ => limb_zero i)]

/-! One step of a sum. -/
def carry (n m i : Nat) : Nat := (n % 2 ^ (32 * i) + m % 2 ^ (32 * i)) / 2 ^ (32 * i)
theorem pow_succ32 (i : Nat) : 2 ^ (32 * (i + 1)) = 2 ^ (32 * i) * 4294967296 := by rw [Nat.mul_add, Nat.pow_add]
theorem mod_limb (n i : Nat) : n % 2 ^ (32 * (i + 1)) = n % 2 ^ (32 * i) + 2 ^ (32 * i) * limb n i := by
  rw [pow_succ32, Nat.mod_mul]; rfl
theorem carry_zero (n m : Nat) : carry n m 0 = 0 := by unfold carry; simp [Nat.mod_one]
theorem carry_le (n m i : Nat) : carry n m i ≤ 1 := by
  unfold carry
  have hp : 0 < 2 ^ (32 * i) := Nat.pow_pos (by omega)
  have h1 := Nat.mod_lt n hp
  have h2 := Nat.mod_lt m hp
  have : (n % 2 ^ (32 * i) + m % 2 ^ (32 * i)) / 2 ^ (32 * i) < 2 := by rw [Nat.div_lt_iff_lt_mul hp]; omega
  omega
theorem add_step (n m i : Nat) : (limb n i + limb m i + carry n m i) / 4294967296 = carry n m (i + 1) ∧ (limb n i + limb m i + carry n m i) % 4294967296 = limb (n + m) i := by
  have hp : 0 < 2 ^ (32 * i) := Nat.pow_pos (by omega)
  constructor
  · unfold carry
    rw [mod_limb, mod_limb, pow_succ32]
    generalize 2 ^ (32 * i) = p at *
    rw [← Nat.div_div_eq_div_mul]
    congr 1
    rw [show n % p + p * limb n i + (m % p + p * limb m i) = (n % p + m % p) + p * (limb n i + limb m i) by rw [Nat.mul_add]; omega, Nat.add_mul_div_left _ _ hp]
    omega
  · unfold carry limb
    generalize 2 ^ (32 * i) = p at *
    have h : (n + m) / p = n / p + m / p + (n % p + m % p) / p := by
      conv => lhs; rw [← Nat.div_add_mod n p, ← Nat.div_add_mod m p]
      rw [show p * (n / p) + n % p + (p * (m / p) + m % p) = (n % p + m % p) + p * (n / p + m / p) by rw [Nat.mul_add]; omega, Nat.add_mul_div_left _ _ hp]
      omega
    rw [h]
    omega
theorem u64_mask (s : Nat) (h : s < 18446744073709551616) : bits BinOp.and IntKind.u64 (s : Int) 4294967295 = ((s % 4294967296 : Nat) : Int) := by
  rw [show (4294967295 : Int) = ((4294967295 : Nat) : Int) from rfl, u64_and_nat _ _ h (by omega), show (4294967295 : Nat) = 2 ^ 32 - 1 from rfl, Nat.and_two_pow_sub_one_eq_mod]
/-! One step of a difference. -/
def borrow (n m i : Nat) : Nat := if n % 2 ^ (32 * i) < m % 2 ^ (32 * i) then 1 else 0
theorem borrow_zero (n m : Nat) : borrow n m 0 = 0 := by unfold borrow; simp [Nat.mod_one]
theorem borrow_le (n m i : Nat) : borrow n m i ≤ 1 := by unfold borrow; split <;> omega
theorem sub_step (n m i : Nat) (h : m ≤ n) : 1 - (limb n i + 4294967296 - limb m i - borrow n m i) / 4294967296 = borrow n m (i + 1) ∧ (limb n i + 4294967296 - limb m i - borrow n m i) % 4294967296 = limb (n - m) i := by
  have hp : 0 < 2 ^ (32 * i) := Nat.pow_pos (by omega)
  constructor
  · unfold borrow
    rw [mod_limb, mod_limb]
    have lx := limb_lt n i
    have ly := limb_lt m i
    have r1 := Nat.mod_lt n hp
    have r2 := Nat.mod_lt m hp
    generalize limb n i = x at *
    generalize limb m i = y at *
    generalize 2 ^ (32 * i) = p at *
    generalize n % p = r at *
    generalize m % p = s at *
    rcases Nat.lt_trichotomy x y with hxy | hxy | hxy
    · have h1 : p * (x + 1) ≤ p * y := Nat.mul_le_mul_left p hxy
      rw [Nat.mul_add, Nat.mul_one] at h1
      rw [if_pos (show r + p * x < s + p * y by omega)]
      split <;> omega
    · subst hxy
      by_cases hrs : r < s
      · rw [if_pos hrs, if_pos (by omega)]; omega
      · rw [if_neg hrs, if_neg (by omega)]; omega
    · have h1 : p * (y + 1) ≤ p * x := Nat.mul_le_mul_left p hxy
      rw [Nat.mul_add, Nat.mul_one] at h1
      rw [if_neg (show ¬ (r + p * x < s + p * y) by omega)]
      split <;> omega
  · unfold borrow limb
    have r1 := Nat.mod_lt n hp
    have r2 := Nat.mod_lt m hp
    generalize 2 ^ (32 * i) = p at *
    have e1 := Nat.div_add_mod n p
    have e2 := Nat.div_add_mod m p
    have hd : m / p ≤ n / p := Nat.div_le_div_right h
    have key : (n - m) / p = n / p - m / p - (if n % p < m % p then 1 else 0) := by
      split
      · rename_i hlt
        have hne : m / p < n / p := by
          rcases Nat.lt_or_ge (m / p) (n / p) with h1 | h1
          · exact h1
          · have : n / p = m / p := by omega
            rw [this] at e1
            omega
        have hm : p * (m / p + 1) ≤ p * (n / p) := Nat.mul_le_mul_left p hne
        rw [Nat.mul_add, Nat.mul_one] at hm
        have e3 : n - m = (p + n % p - m % p) + p * (n / p - m / p - 1) := by
          rw [Nat.mul_sub, Nat.mul_sub]
          omega
        rw [e3, Nat.add_mul_div_left _ _ hp, Nat.div_eq_of_lt (by omega)]
        omega
      · have hm : p * (m / p) ≤ p * (n / p) := Nat.mul_le_mul_left p hd
        have e3 : n - m = (n % p - m % p) + p * (n / p - m / p) := by
          rw [Nat.mul_sub]
          omega
        rw [e3, Nat.add_mul_div_left _ _ hp, Nat.div_eq_of_lt (by omega)]
        omega
    rw [key]
    have hb : n % p < m % p → m / p < n / p := fun hlt => by
      rcases Nat.lt_or_ge (m / p) (n / p) with h1 | h1
      · exact h1
      · have : n / p = m / p := by omega
        rw [this] at e1
        omega
    generalize n / p = a at *
    generalize m / p = b at *
    split
    · rename_i hlt
      have := hb hlt
      omega
    · omega
/-! From the top: the first part that parts them decides. -/
theorem div_limb (n i : Nat) : n / 2 ^ (32 * i) = 4294967296 * (n / 2 ^ (32 * (i + 1))) + limb n i := by
  rw [pow_succ32, ← Nat.div_div_eq_div_mul]
  unfold limb
  omega
theorem less_same {n m i : Nat} (h : n / 2 ^ (32 * (i + 1)) = m / 2 ^ (32 * (i + 1))) (h2 : limb n i = limb m i) : n / 2 ^ (32 * i) = m / 2 ^ (32 * i) := by rw [div_limb n, div_limb m, h, h2]
theorem less_apart {n m i : Nat} (h : n / 2 ^ (32 * (i + 1)) = m / 2 ^ (32 * (i + 1))) (h2 : limb n i ≠ limb m i) : decide (limb n i < limb m i) = decide (n < m) := by
  have e1 := div_limb n i
  have e2 := div_limb m i
  rw [h] at e1
  have hp : 0 < 2 ^ (32 * i) := Nat.pow_pos (by omega)
  have f1 := Nat.div_add_mod n (2 ^ (32 * i))
  have f2 := Nat.div_add_mod m (2 ^ (32 * i))
  have r1 := Nat.mod_lt n hp
  have r2 := Nat.mod_lt m hp
  generalize 2 ^ (32 * i) = p at *
  generalize limb n i = x at *
  generalize limb m i = y at *
  rcases Nat.lt_or_gt_of_ne h2 with hxy | hxy
  · have h3 : n / p + 1 ≤ m / p := by omega
    have h4 := Nat.mul_le_mul_left p h3
    rw [Nat.mul_add, Nat.mul_one] at h4
    rw [decide_eq_true hxy, decide_eq_true (by omega)]
  · have h3 : m / p + 1 ≤ n / p := by omega
    have h4 := Nat.mul_le_mul_left p h3
    rw [Nat.mul_add, Nat.mul_one] at h4
    rw [decide_eq_false (by omega), decide_eq_false (by omega)]
/-- More than all ten parts hold. (A name: the number itself is never to be reckoned.) -/
def lim : Nat := 2 ^ (32 * 10)
theorem lim_eq : lim = 2 ^ (32 * 10) := by unfold lim; rfl
theorem lim_div {n : Nat} (h : n < lim) : n / 2 ^ (32 * 10) = 0 := by rw [← lim_eq]; exact Nat.div_eq_of_lt h
theorem lim_big {n k : Nat} (hk : k ≤ 32 * 10) (h : n < 2 ^ k) : n < lim := by
  have h2 := Nat.pow_le_pow_right (n := 2) (by omega) hk
  rw [← lim_eq] at h2
  exact Nat.lt_of_lt_of_le h h2
theorem top_zero {n : Nat} (h : n < lim) : n / 2 ^ (32 * (9 + 1)) = 0 := by
  rw [show 9 + 1 = 10 from rfl]; exact lim_div h
theorem all_same {n m : Nat} (h : n / 2 ^ (32 * 0) = m / 2 ^ (32 * 0)) : n = m := by simpa using h
/-- Nought has no part. -/
theorem limb_all_zero {n : Nat} (h : n < lim) (h0 : ∀ i, i < 10 → limb n i = 0) : n = 0 := by
  have e : ∀ k, k ≤ 10 → n / 2 ^ (32 * (10 - k)) = 0 := by
    intro k
    induction k with
    | zero => intro _; rw [Nat.sub_zero]; exact lim_div h
    | succ k ih =>
      intro hk
      have h1 := ih (by omega)
      rw [div_limb, show 10 - (k + 1) + 1 = 10 - k by omega, h1, h0 _ (by omega)]
  have := e 10 (by omega)
  simpa using this
theorem limb_small {n i : Nat} (h : n < 2 ^ (32 * i)) : limb n i = 0 := by unfold limb; rw [Nat.div_eq_of_lt h]
end Go.Proofs.Ytamlgnhnmilbdaa
end
section
/- 'add' of the reference, walked. -/
namespace Go.Proofs.Ytamlgnhnmilbdaa
open Go.RowKit
/-- A block that holds a row, whole. -/
def Blk (w : World) (g : Nat) (cs : Array Value) (t : TypeId) : Prop := w.heap[g]? = some (.cells cs t (0, 0))
theorem Blk.cell {w : World} {g : Nat} {cs : Array Value} {t : TypeId} (h : Blk w g cs t) (i : Nat) : w.cell? ⟨g, i, none⟩ = cs[i]? := cell_of_row _ _ _ _ _ _ h
theorem Blk.frozen {w : World} {g : Nat} {cs : Array Value} {t : TypeId} (h : Blk w g cs t) (i : Nat) : w.frozen? ⟨g, i, none⟩ = false := frozen_of_row _ _ _ _ _ h
theorem Blk.setCell {w : World} {g : Nat} {cs : Array Value} {t : TypeId} (h : Blk w g cs t) (i : Nat) (v : Value) : Blk (w.setCell ⟨g, i, none⟩ v) g (cs.setIfInBounds i v) t := heap_setCell_same _ _ _ _ _ _ h
theorem Blk.other {w : World} {g k i : Nat} {cs : Array Value} {t : TypeId} {v : Value} (h : Blk w g cs t) (hne : g ≠ k) : Blk (w.setCell ⟨k, i, none⟩ v) g cs t := (heap_setCell_other _ _ _ _ hne).trans h
theorem Blk.new {w : World} {cs : Array Value} {t : TypeId} {k : Nat} (h : k = w.heap.size) : Blk (w.alloc (.cells cs t)) k cs t := al_new h
theorem Blk.alloc {w : World} {g : Nat} {cs : Array Value} {t : TypeId} (h : Blk w g cs t) (o : Obj) : Blk (w.alloc o) g cs t := al_old h
theorem Blk.setRow {w : World} {g : Nat} {cs : Array Value} {t : TypeId} (h : Blk w g cs t) (ds : Array Value) : Blk (w.setRow g ds) g ds t := setRow_heap _ _ _ _ _ _ h
theorem Blk.otherRow {w : World} {g k : Nat} {cs : Array Value} {t : TypeId} (h : Blk w g cs t) (ds : Array Value) (hne : g ≠ k) : Blk (w.setRow k ds) g cs t := by
  unfold Blk at *
  simp only [World.setRow, Array.getElem?_modify]
  rw [if_neg (fun e => hne e.symm)]
  exact h
theorem Blk.lt {w : World} {g : Nat} {cs : Array Value} {t : TypeId} (h : Blk w g cs t) : g < w.heap.size := heap_lt h
theorem Blk.below {w w' : World} {g B : Nat} {cs : Array Value} {t : TypeId} (h : Blk w g cs t) (hb : Below B w w') (hB : w.heap.size ≤ B) : Blk w' g cs t := Below.kept hb (Nat.lt_of_lt_of_le h.lt hB) h
theorem al3 (w : World) (A B C : Obj) : ((w.alloc A).alloc B |>.alloc C).heap[w.heap.size]? = some A ∧ ((w.alloc A).alloc B |>.alloc C).heap[w.heap.size + 1]? = some B ∧ ((w.alloc A).alloc B |>.alloc C).heap[w.heap.size + 1 + 1]? = some C ∧
    Below w.heap.size w ((w.alloc A).alloc B |>.alloc C) :=
  ⟨al_old (al_old (al_new rfl)), al_old (al_new (by simp)), al_new (by simp), ((Below_one A).alloc (by simp) B).alloc (by simp; omega) C⟩
def mix (n m i k : Nat) : Nat := if k < i then limb (n + m) k else limb n k
set_option maxRecDepth 100000 in
set_option maxHeartbeats 1000000 in
theorem radd_any (n m : Nat) (na nb : Bool) (w : World) :
    Calls Try.prog 134 #[bigM n na, bigM m nb] w fun e w' => e = .returned (bigM (n + m) na) ∧ Below w.heap.size w w' := by
  unfold bigM
  go_enter Try.func134, Try.ntmps134
  go_wp2
  rw [← arr_zero]
  obtain ⟨h1, h2, h3, hb⟩ := al3 w (.cells (arr (limb n) na) 199) (.cells (arr (limb m) nb) 199) (.cells (arr (fun _ => 0) false) 199)
  generalize ((w.alloc (.cells (arr (limb n) na) 199)).alloc (.cells (arr (limb m) nb) 199)).alloc (.cells (arr (fun _ => 0) false) 199) = W at *
  have H1 := hid h1; have H2 := hid h2; have H3 := hid h3; have HB := hid hb
  clear h1 h2 h3 hb
  go_loopw [5,6,7,8,9,10,11,12,13,14,15,16,17,18,19,20,21,22,23,24,25,26,27,28,29] (fun t5 t6 _ _ _ _ _ _ _ _ _ _ _ _ _ _ _ _ _ _ _ _ _ _ _ wr => ∃ i : Nat, i ≤ 10 ∧ t6 = .int .i64 i ∧ t5 = uV (carry n m i) ∧ Blk wr w.heap.size (arr (mix n m i) na) 199 ∧ Blk wr (w.heap.size + 1) (arr (limb m) nb) 199 ∧ Blk wr (w.heap.size + 1 + 1) (arr (fun _ => 0) false) 199 ∧ Below w.heap.size w wr) (fun t5 t6 _ _ _ _ _ _ _ _ _ _ _ _ _ _ _ _ _ _ _ _ _ _ _ wr => 10 - (intOf t6).toNat)
  case atStart => exact ⟨0, by omega, rfl, by rw [carry_zero]; rfl, by rw [arr_congr (g := limb n) na (fun i _ => by unfold mix; rw [if_neg (by omega)])]; exact H1.out, H2.out, H3.out, HB.out⟩
  case round =>
    obtain ⟨i, hi, rfl, rfl, hA, hB, hC, hW⟩ := hrel
    have HA := hid hA; have HBb := hid hB; have HC := hid hC; have HW := hid hW
    clear hA hB hC hW
    by_cases hlt : i < 10
    · have c1 : wr.cell? ⟨w.heap.size, i, none⟩ = some (.int .u64 (limb n i : Nat)) := by rw [HA.out.cell, arr_get _ _ i hlt]; unfold mix; rw [if_neg (by omega)]
      have c2 : wr.cell? ⟨w.heap.size + 1, i, none⟩ = some (.int .u64 (limb m i : Nat)) := by rw [HBb.out.cell, arr_get _ _ i hlt]
      have hst := add_step n m i
      have l1 := limb_lt n i
      have l2 := limb_lt m i
      have l3 := carry_le n m i
      generalize limb n i = x at *
      generalize limb m i = y at *
      generalize carry n m i = o at *
      obtain ⟨s1, s2⟩ := hst
      have S1 := hid s1; have S2 := hid s2
      clear s1 s2
      have q1 : IntKind.u64.wrap ((x : Int) + (y : Int)) = (x : Int) + (y : Int) := by rw [IntKind.wrap_u64]; omega
      have q2 : IntKind.u64.wrap ((x : Int) + (y : Int) + (o : Int)) = (x : Int) + (y : Int) + (o : Int) := by rw [IntKind.wrap_u64]; omega
      have q3 : bits BinOp.and IntKind.u64 ((x : Int) + (y : Int) + (o : Int)) 4294967295 = (((x + y + o) % 4294967296 : Nat) : Int) := by rw [← u64_mask (x + y + o) (by omega)]; simp
      have i0 : (0 : Int) ≤ (i : Int) := by omega
      have i1 : (i : Int) < 10 := by omega
      unfold uV
      go_wp2
      refine wp_region_early [0, 1, 2, 3, 4, 5, 6, 7, 8, 9, 10, 11] [] [] (fun wx => wx.cell? ⟨w.heap.size, i, none⟩ = some (.int .u64 (x : Int)) ∧ wx.cell? ⟨w.heap.size + 1, i, none⟩ = some (.int .u64 (y : Int))) (by kernel_rfl) (by kernel_rfl) (by kernel_rfl) (by rfl) ⟨c1, c2⟩ ?_
      apply Exists.intro
      refine ⟨fun wx hx => ?_, ?_⟩
      · obtain ⟨x1, x2⟩ := hx
        repeat (refine seI_step rfl (fun K hK => ?_); go_simp; refine hK _ ?_; clear hK K)
        exact seI_nil rfl
      refine wpTA_nil .nil ?_
      go_wp2
      refine NoPanic.normal ?_
      have f1 : wr.frozen? ⟨w.heap.size, i, none⟩ = false := HA.out.frozen i
      go_wp2
      go_roundw
      case rel =>
        refine ⟨i + 1, by omega, by go_num, by rw [← S1.out]; rfl, ?_, HBb.out.other (by omega), HC.out.other (by omega), (HW.out.setCell (p := ⟨w.heap.size, i, none⟩) (Nat.le_refl _) _).drew⟩
        have h1 := HA.out.setCell i (.int .u64 (((x + y + o) % 4294967296 : Nat) : Int))
        rw [arr_set _ _ _ i hlt, S2.out] at h1
        rw [arr_congr (g := fun k => if k = i then limb (n + m) i else mix n m i k) na (fun k _ => by
          unfold mix
          by_cases hk : k = i
          · subst hk; simp
          · by_cases hk2 : k < i
            · simp [hk, hk2, show k < i + 1 by omega]
            · simp [hk, hk2, show ¬ k < i + 1 by omega])]
        have q4 : ((x : Int) + (y : Int) + (o : Int)) % 4294967296 = ((limb (n + m) i : Nat) : Int) := by rw [← S2.out]; omega
        rw [q4]
        exact h1
      case measure => simp [intOf]; omega
    · obtain rfl : i = 10 := by omega
      have hA : Blk wr w.heap.size (arr (limb (n + m)) na) 199 := by
        have := HA.out
        rw [arr_congr (g := limb (n + m)) na (fun k hk => by unfold mix; rw [if_pos hk])] at this
        exact this
      have HA := hid hA
      clear hA
      go_wp2_with (first | (refine wpList_load_row rfl 199 (.tmp 2) rfl w.heap.size rfl 199 (arr (limb (n + m)) na) (0, 0) _ HA.out Try.underlying199 rfl (by kernel_rfl) ?_) | (refine wpList_store_row rfl 199 (.tmp 4) (.tmp 30) rfl (w.heap.size + 1 + 1) (arr (limb (n + m)) na) rfl rfl 199 (arr (fun _ => 0) false) HC.out (by kernel_rfl) rfl (arr_one _ _) ?_))
      refine bodyPost_ret (results_cell_row rfl _ _ (w.heap.size + 1 + 1) 199 (arr (limb (n + m)) na) (0, 0) _ rfl (HC.out.setRow _) Try.underlying199 rfl (by kernel_rfl)) rfl ⟨rfl, ?_⟩
      exact HW.out.trans (Below_setRow (Below.refl _ _) (by omega) _)
end Go.Proofs.Ytamlgnhnmilbdaa
end
section
/- '==' of two arrays of integers. No program in sight. -/
namespace Go.Proofs.Ytamlgnhnmilbdaa
open Go.RowKit
variable {P : Program}
theorem run_part1 {e : TypeId} {k : IntKind} (he : P.underlying e = some (.int k)) (w : World) (cs : Array Value) (i : Nat) (v : Value) (h : cs[i]? = some v) : (part e cs i).run P w = .ok v w := by
  simp [part, isAgg, run_underlying he, h]
theorem run_eqRange {e : TypeId} {k : IntKind} (he : P.underlying e = some (.int k)) (w : World) (xs ys : Array Value) (d : Nat) (f g : Nat → Int) : ∀ (l : List Nat), (∀ i ∈ l, xs[i]? = some (.int k (f i)) ∧ ys[i]? = some (.int k (g i))) →
    (forIn (m := Sem) l ((none, ()) : Option Bool × Unit) fun i (_ : Option Bool × Unit) => do
      let a ← part e xs (i * 1)
      let b ← part e ys (i * 1)
      let r ← Op.equalIn (d + 1) e a b
      if (!r) = true then pure (ForInStep.done (some false, ())) else pure (ForInStep.yield (none, ()))).run P w =
      .ok (if l.all (fun i => f i == g i) then (none, ()) else (some false, ())) w := by
  intro l
  induction l with
  | nil => intro _; rfl
  | cons i l ih =>
    intro h
    obtain ⟨h1, h2⟩ := h i (by simp)
    have e1 := run_part1 he w xs (i * 1) _ (by rw [Nat.mul_one]; exact h1)
    have e2 := run_part1 he w ys (i * 1) _ (by rw [Nat.mul_one]; exact h2)
    have e3 := run_equalIn_int (P := P) w d e k k (f i) (g i) he
    simp only [List.forIn_cons, Sem.run_bind, e1, e2, e3, Result.andThen_ok]
    cases hq : (f i == g i)
    · simp [hq]
    · simp only [Bool.not_true, Bool.false_eq_true, if_false, Sem.run_pure, Result.andThen_ok, List.all_cons, hq, Bool.true_and]
      exact ih fun j hj => h j (by simp [hj])
theorem run_equalIn_arr {t e : TypeId} {k : IntKind} {n : Nat} (d : Nat) (ht : P.underlying t = some (.array n e)) (he : P.underlying e = some (.int k)) (hs : ∀ w, (sizeOf e).run P w = .ok 1 w) (xs ys : Array Value) (f g : Nat → Int)
    (h : ∀ i, i < n → xs[i]? = some (.int k (f i)) ∧ ys[i]? = some (.int k (g i))) (w : World) : (Op.equalIn (d + 2) t (.agg xs) (.agg ys)).run P w = .ok ((List.range n).all fun i => f i == g i) w := by
  unfold Op.equalIn
  simp only [Sem.run_bind, run_underlying ht, Result.andThen_ok, hs]
  rw [Std.Legacy.Range.forIn_eq_forIn_range']
  have hr := run_eqRange (P := P) he w xs ys d f g (List.range n) (fun i hi => h i (List.mem_range.1 hi))
  simp only [Std.Legacy.Range.size, Nat.sub_zero, Nat.add_sub_cancel, Nat.div_one, ← List.range_eq_range']
  rw [hr]
  split
  · rename_i hq
    simp [hq]
  · rename_i hq
    simp [hq]
end Go.Proofs.Ytamlgnhnmilbdaa
end
section
/- 'sub', 'less', 'zero' of the reference, walked. -/
namespace Go.Proofs.Ytamlgnhnmilbdaa
open Go.RowKit
def mixS (n m i k : Nat) : Nat := if k < i then limb (n - m) k else limb n k
set_option maxRecDepth 100000 in
set_option maxHeartbeats 1000000 in
theorem rsub_any (n m : Nat) (na nb : Bool) (hmn : m ≤ n) (w : World) :
    Calls Try.prog 136 #[bigM n na, bigM m nb] w fun e w' => e = .returned (bigM (n - m) na) ∧ Below w.heap.size w w' := by
  unfold bigM
  have HMN := hid hmn; clear hmn
  go_enter Try.func136, Try.ntmps136
  go_wp2
  rw [← arr_zero]
  obtain ⟨h1, h2, h3, hb⟩ := al3 w (.cells (arr (limb n) na) 199) (.cells (arr (limb m) nb) 199) (.cells (arr (fun _ => 0) false) 199)
  generalize ((w.alloc (.cells (arr (limb n) na) 199)).alloc (.cells (arr (limb m) nb) 199)).alloc (.cells (arr (fun _ => 0) false) 199) = W at *
  have H1 := hid h1; have H2 := hid h2; have H3 := hid h3; have HB := hid hb
  clear h1 h2 h3 hb
  go_loopw [5,6,7,8,9,10,11,12,13,14,15,16,17,18,19,20,21,22,23,24,25,26,27,28,29,30,31] (fun t5 t6 _ _ _ _ _ _ _ _ _ _ _ _ _ _ _ _ _ _ _ _ _ _ _ _ _ wr => ∃ i : Nat, i ≤ 10 ∧ t6 = .int .i64 i ∧ t5 = uV (borrow n m i) ∧ Blk wr w.heap.size (arr (mixS n m i) na) 199 ∧ Blk wr (w.heap.size + 1) (arr (limb m) nb) 199 ∧ Blk wr (w.heap.size + 1 + 1) (arr (fun _ => 0) false) 199 ∧ Below w.heap.size w wr) (fun t5 t6 _ _ _ _ _ _ _ _ _ _ _ _ _ _ _ _ _ _ _ _ _ _ _ _ _ wr => 10 - (intOf t6).toNat)
  case atStart => exact ⟨0, by omega, rfl, by rw [borrow_zero]; rfl, by rw [arr_congr (g := limb n) na (fun i _ => by unfold mixS; rw [if_neg (by omega)])]; exact H1.out, H2.out, H3.out, HB.out⟩
  case round =>
    obtain ⟨i, hi, rfl, rfl, hA, hB, hC, hW⟩ := hrel
    have HA := hid hA; have HBb := hid hB; have HC := hid hC; have HW := hid hW
    clear hA hB hC hW
    by_cases hlt : i < 10
    · have c1 : wr.cell? ⟨w.heap.size, i, none⟩ = some (.int .u64 (limb n i : Nat)) := by rw [HA.out.cell, arr_get _ _ i hlt]; unfold mixS; rw [if_neg (by omega)]
      have c2 : wr.cell? ⟨w.heap.size + 1, i, none⟩ = some (.int .u64 (limb m i : Nat)) := by rw [HBb.out.cell, arr_get _ _ i hlt]
      have hst := sub_step n m i HMN.out
      have l1 := limb_lt n i
      have l2 := limb_lt m i
      have l3 := borrow_le n m i
      generalize limb n i = x at *
      generalize limb m i = y at *
      generalize borrow n m i = o at *
      obtain ⟨s1, s2⟩ := hst
      have S1 := hid s1; have S2 := hid s2
      clear s1 s2
      have q0 : IntKind.u64.wrap ((x : Int) + 4294967296) = (x : Int) + 4294967296 := by rw [IntKind.wrap_u64]; omega
      have q1 : IntKind.u64.wrap ((x : Int) + 4294967296 - (y : Int)) = (x : Int) + 4294967296 - (y : Int) := by rw [IntKind.wrap_u64]; omega
      have q2 : IntKind.u64.wrap ((x : Int) + 4294967296 - (y : Int) - (o : Int)) = (x : Int) + 4294967296 - (y : Int) - (o : Int) := by rw [IntKind.wrap_u64]; omega
      have i0 : (0 : Int) ≤ (i : Int) := by omega
      have i1 : (i : Int) < 10 := by omega
      unfold uV
      go_wp2
      refine wp_region_early [0, 1, 2, 3, 4, 5, 6, 7, 8, 9, 10, 11, 12] [] [] (fun wx => wx.cell? ⟨w.heap.size, i, none⟩ = some (.int .u64 (x : Int)) ∧ wx.cell? ⟨w.heap.size + 1, i, none⟩ = some (.int .u64 (y : Int))) (by kernel_rfl) (by kernel_rfl) (by kernel_rfl) (by rfl) ⟨c1, c2⟩ ?_
      apply Exists.intro
      refine ⟨fun wx hx => ?_, ?_⟩
      · obtain ⟨x1, x2⟩ := hx
        repeat (refine seI_step rfl (fun K hK => ?_); go_simp; refine hK _ ?_; clear hK K)
        exact seI_nil rfl
      refine wpTA_nil .nil ?_
      go_wp2
      refine NoPanic.normal ?_
      have f1 : wr.frozen? ⟨w.heap.size, i, none⟩ = false := HA.out.frozen i
      clear q0 q1 q2
      go_wp2
      go_roundw
      case rel =>
        refine ⟨i + 1, by omega, by go_num, by rw [← S1.out]; congr 1; omega, ?_, HBb.out.other (by omega), HC.out.other (by omega), (HW.out.setCell (p := ⟨w.heap.size, i, none⟩) (Nat.le_refl _) _).drew⟩
        have h1 := HA.out.setCell i (.int .u64 (((x + 4294967296 - y - o) % 4294967296 : Nat) : Int))
        rw [arr_set _ _ _ i hlt, S2.out] at h1
        rw [arr_congr (g := fun k => if k = i then limb (n - m) i else mixS n m i k) na (fun k _ => by
          unfold mixS
          by_cases hk : k = i
          · subst hk; simp
          · by_cases hk2 : k < i
            · simp [hk, hk2, show k < i + 1 by omega]
            · simp [hk, hk2, show ¬ k < i + 1 by omega])]
        have q4 : bits BinOp.and IntKind.u64 ((x : Int) + 4294967296 - (y : Int) - (o : Int)) 4294967295 = ((limb (n - m) i : Nat) : Int) := by rw [show (x : Int) + 4294967296 - (y : Int) - (o : Int) = ((x + 4294967296 - y - o : Nat) : Int) by omega, u64_mask _ (by omega), S2.out]
        rw [q4]
        exact h1
      case measure => simp [intOf]; omega
    · obtain rfl : i = 10 := by omega
      have hA : Blk wr w.heap.size (arr (limb (n - m)) na) 199 := by
        have := HA.out
        rw [arr_congr (g := limb (n - m)) na (fun k hk => by unfold mixS; rw [if_pos hk])] at this
        exact this
      have HA := hid hA
      clear hA
      go_wp2_with (first | (refine wpList_load_row rfl 199 (.tmp 2) rfl w.heap.size rfl 199 (arr (limb (n - m)) na) (0, 0) _ HA.out Try.underlying199 rfl (by kernel_rfl) ?_) | (refine wpList_store_row rfl 199 (.tmp 4) (.tmp 32) rfl (w.heap.size + 1 + 1) (arr (limb (n - m)) na) rfl rfl 199 (arr (fun _ => 0) false) HC.out (by kernel_rfl) rfl (arr_one _ _) ?_))
      refine bodyPost_ret (results_cell_row rfl _ _ (w.heap.size + 1 + 1) 199 (arr (limb (n - m)) na) (0, 0) _ rfl (HC.out.setRow _) Try.underlying199 rfl (by kernel_rfl)) rfl ⟨rfl, ?_⟩
      exact HW.out.trans (Below_setRow (Below.refl _ _) (by omega) _)
theorem al2 (w : World) (A B : Obj) : ((w.alloc A).alloc B).heap[w.heap.size]? = some A ∧ ((w.alloc A).alloc B).heap[w.heap.size + 1]? = some B ∧ Below w.heap.size w ((w.alloc A).alloc B) :=
  ⟨al_old (al_new rfl), al_new (by simp), (Below_one A).alloc (by simp) B⟩
set_option maxRecDepth 100000 in
set_option maxHeartbeats 1000000 in
theorem rless_any (n m : Nat) (na nb : Bool) (hn : n < lim) (hm : m < lim) (w : World) :
    Calls Try.prog 135 #[bigM n na, bigM m nb] w fun e w' => e = .returned (.bool (decide (n < m))) ∧ Below w.heap.size w w' := by
  unfold bigM
  have HT := hid (show n / 2 ^ (32 * (9 + 1)) = m / 2 ^ (32 * (9 + 1)) by rw [top_zero hn, top_zero hm])
  clear hn hm
  go_enter Try.func135, Try.ntmps135
  go_wp2
  obtain ⟨h1, h2, hb⟩ := al2 w (.cells (arr (limb n) na) 199) (.cells (arr (limb m) nb) 199)
  generalize (w.alloc (.cells (arr (limb n) na) 199)).alloc (.cells (arr (limb m) nb) 199) = W at *
  have H1 := hid h1; have H2 := hid h2; have HB := hid hb
  clear h1 h2 hb
  go_loopw [5,6,7,8,9,10,11,12,13,14,15,16,17,18,19,20,21,22,23,24,25,26,27] (fun t5 _ _ _ _ _ _ _ _ _ _ _ _ _ _ _ _ _ _ _ _ _ _ wr => ∃ j : Int, -1 ≤ j ∧ j ≤ 9 ∧ t5 = .int .i64 j ∧ n / 2 ^ (32 * (j + 1).toNat) = m / 2 ^ (32 * (j + 1).toNat) ∧ Blk wr w.heap.size (arr (limb n) na) 199 ∧ Blk wr (w.heap.size + 1) (arr (limb m) nb) 199 ∧ Below w.heap.size w wr) (fun t5 _ _ _ _ _ _ _ _ _ _ _ _ _ _ _ _ _ _ _ _ _ _ wr => (intOf t5 + 1).toNat)
  case atStart => exact ⟨9, by omega, by omega, rfl, (by rw [show ((9 : Int) + 1).toNat = 9 + 1 from rfl]; exact HT.out), H1.out, H2.out, HB.out⟩
  case round =>
    obtain ⟨j, hj1, hj2, rfl, hup, hA, hB, hW⟩ := hrel
    have HU := hid hup; have HA := hid hA; have HBb := hid hB; have HW := hid hW
    clear hup hA hB hW
    by_cases hlt : 0 ≤ j
    · obtain ⟨i, rfl⟩ := Int.eq_ofNat_of_zero_le hlt
      have hU := HU.out
      rw [show ((i : Int) + 1).toNat = i + 1 by omega] at hU
      have hlt : i < 10 := by omega
      have c1 : wr.cell? ⟨w.heap.size, i, none⟩ = some (.int .u64 (limb n i : Nat)) := by rw [HA.out.cell, arr_get _ _ i hlt]
      have c2 : wr.cell? ⟨w.heap.size + 1, i, none⟩ = some (.int .u64 (limb m i : Nat)) := by rw [HBb.out.cell, arr_get _ _ i hlt]
      have i0 : (0 : Int) ≤ (i : Int) := by omega
      have i1 : (i : Int) < 10 := by omega
      have HU2 := hid hU
      clear hU HU
      by_cases hxy : limb n i = limb m i
      · have hs := hid (less_same HU2.out hxy)
        rw [hxy] at c1
        clear hxy
        generalize limb m i = y at *
        have hne : ((y : Int) != (y : Int)) = false := by simp
        go_wp2
        refine wp_region_early [0, 1, 2, 3, 4, 5, 6, 7, 8] [] [] (fun wx => wx.cell? ⟨w.heap.size, i, none⟩ = some (.int .u64 (y : Int)) ∧ wx.cell? ⟨w.heap.size + 1, i, none⟩ = some (.int .u64 (y : Int))) (by kernel_rfl) (by kernel_rfl) (by kernel_rfl) (by rfl) ⟨c1, c2⟩ ?_
        apply Exists.intro
        refine ⟨fun wx hx => ?_, ?_⟩
        · obtain ⟨x1, x2⟩ := hx
          repeat (refine seI_step rfl (fun K hK => ?_); go_simp; refine hK _ ?_; clear hK K)
          exact seI_nil rfl
        refine wpTA_nil .nil ?_
        go_wp2
        refine NoPanic.normal ?_
        go_wp2
        go_roundw
        case rel => exact ⟨(i : Int) - 1, by omega, by omega, rfl, by rw [show ((i : Int) - 1 + 1).toNat = i by omega]; exact hs.out, HA.out, HBb.out, HW.out.drew⟩
        case measure => simp [intOf]
      · have hs := hid (less_apart HU2.out hxy)
        have hne : ((limb n i : Int) != (limb m i : Int)) = true := by simp; omega
        generalize limb n i = x at *
        generalize limb m i = y at *
        clear hxy
        go_wp2
        refine wp_region_early [0, 1, 2, 3, 4, 5, 6, 7, 8] [] [] (fun wx => wx.cell? ⟨w.heap.size, i, none⟩ = some (.int .u64 (x : Int)) ∧ wx.cell? ⟨w.heap.size + 1, i, none⟩ = some (.int .u64 (y : Int))) (by kernel_rfl) (by kernel_rfl) (by kernel_rfl) (by rfl) ⟨c1, c2⟩ ?_
        apply Exists.intro
        refine ⟨fun wx hx => ?_, ?_⟩
        · obtain ⟨x1, x2⟩ := hx
          repeat (refine seI_step rfl (fun K hK => ?_); go_simp; refine hK _ ?_; clear hK K)
          exact seI_nil rfl
        refine wpTA_nil .nil ?_
        go_wp2
        refine NoPanic.normal ?_
        go_wp2
        refine wp_region_early [0, 1, 2, 3, 4, 5, 6, 7, 8, 9] [] [] (fun wx => wx.cell? ⟨w.heap.size, i, none⟩ = some (.int .u64 (x : Int)) ∧ wx.cell? ⟨w.heap.size + 1, i, none⟩ = some (.int .u64 (y : Int))) (by kernel_rfl) (by kernel_rfl) (by kernel_rfl) (by rfl) ⟨c1, c2⟩ ?_
        apply Exists.intro
        refine ⟨fun wx hx => ?_, ?_⟩
        · obtain ⟨x1, x2⟩ := hx
          repeat (refine seI_step rfl (fun K hK => ?_); go_simp; refine hK _ ?_; clear hK K)
          exact seI_nil rfl
        refine wpTA_nil .nil ?_
        go_wp2
        refine NoPanic.normal ?_
        go_wp2
        go_ret
        exact ⟨by rw [← hs.out]; simp, HW.out.drew.drew⟩
    · obtain rfl : j = -1 := by omega
      have hs := hid (show n = m from all_same HU.out)
      go_wp2
      go_ret
      exact ⟨by rw [hs.out]; simp, HW.out⟩
theorem all_limbs (n : Nat) (hn : n < lim) : ((List.range 10).all fun i => ((limb n i : Nat) : Int) == 0) = decide (n = 0) := by
  by_cases h : n = 0
  · subst h
    rw [decide_eq_true rfl, List.all_eq_true]
    intro i _
    rw [limb_zero]; rfl
  · rw [decide_eq_false h, List.all_eq_false]
    refine Classical.byContradiction fun hc => h (limb_all_zero hn fun i hi => Classical.byContradiction fun h0 => hc ⟨i, List.mem_range.2 hi, ?_⟩)
    simp; omega
set_option maxRecDepth 100000 in
set_option maxHeartbeats 1000000 in
theorem rzero_any (n : Nat) (na : Bool) (hn : n < lim) (w : World) :
    Calls Try.prog 137 #[bigM n na] w fun e w' => e = .returned (.bool (decide (n = 0))) ∧ Below w.heap.size w w' := by
  have heq : ∀ W : World, (Op.equalIn 10000 197 (.agg #[uV (limb n 0), uV (limb n 1), uV (limb n 2), uV (limb n 3), uV (limb n 4), uV (limb n 5), uV (limb n 6), uV (limb n 7), uV (limb n 8), uV (limb n 9)])
      (.agg #[.int .u64 0, .int .u64 0, .int .u64 0, .int .u64 0, .int .u64 0, .int .u64 0, .int .u64 0, .int .u64 0, .int .u64 0, .int .u64 0])).run Try.prog W = .ok (decide (n = 0)) W := fun W => by
    have h := run_equalIn_arr (P := Try.prog) 9998 Try.underlying197 Try.underlying23 (fun w => by kernel_rfl) #[uV (limb n 0), uV (limb n 1), uV (limb n 2), uV (limb n 3), uV (limb n 4), uV (limb n 5), uV (limb n 6), uV (limb n 7), uV (limb n 8), uV (limb n 9)]
      #[.int .u64 0, .int .u64 0, .int .u64 0, .int .u64 0, .int .u64 0, .int .u64 0, .int .u64 0, .int .u64 0, .int .u64 0, .int .u64 0] (fun i => ((limb n i : Nat) : Int)) (fun _ => 0) (cases10 ⟨rfl, rfl⟩ ⟨rfl, rfl⟩ ⟨rfl, rfl⟩ ⟨rfl, rfl⟩ ⟨rfl, rfl⟩ ⟨rfl, rfl⟩ ⟨rfl, rfl⟩ ⟨rfl, rfl⟩ ⟨rfl, rfl⟩ ⟨rfl, rfl⟩) W
    rw [all_limbs n hn] at h
    exact h
  unfold bigM arr
  clear hn
  generalize decide (n = 0) = r at *
  go_enter Try.func137, Try.ntmps137
  go_wp2
  go_ret
  exact ⟨by simp, Below_one _⟩
end Go.Proofs.Ytamlgnhnmilbdaa
end
section
/- 'Plus', 'Of', 'Minus', 'Int' of the reference, walked. -/
namespace Go.Proofs.Ytamlgnhnmilbdaa
open Go.RowKit
theorem loadBig {ops : Array Oper} {rest : List Oper} {o : Oper} {a : Act} {w : World} {Q : Exit → Act → World → Prop} (hgd : o.guard = none) (x : Operand) (ho : o.op = .load 199 x) (g : Nat) (hx : a.eval x = .pointer (some ⟨g, 0, none⟩))
    (f : Nat → Nat) (neg : Bool) (hg : Blk w g (arr f neg) 199) (h : wpList Try.prog ops Q rest (a.put o.dst (.agg (arr f neg))) w) : wpList Try.prog ops Q (o :: rest) a w :=
  wpList_load_row hgd 199 x ho g hx 199 (arr f neg) (0, 0) _ hg Try.underlying199 rfl (by kernel_rfl) h
theorem storeBig {ops : Array Oper} {rest : List Oper} {o : Oper} {a : Act} {w : World} {Q : Exit → Act → World → Prop} (hgd : o.guard = none) (x y : Operand) (ho : o.op = .store 199 x y) (g : Nat) (f : Nat → Nat) (neg : Bool) (hx : a.eval x = .pointer (some ⟨g, 0, none⟩)) (hy : a.eval y = .agg (arr f neg))
    (old : Array Value) (hg : Blk w g old 199) (ho2 : old.size = 11) (h : wpList Try.prog ops Q rest (a.put o.dst undef) (w.setRow g (arr f neg))) : wpList Try.prog ops Q (o :: rest) a w :=
  wpList_store_row hgd 199 x y ho g (arr f neg) hx hy 199 old hg (by kernel_rfl) ho2 (arr_one _ _) h
theorem retBig {fn : Func} {p : Tmp} (h : fn.results = #[.cell p 199]) (tmps : Array Value) (w : World) (g : Nat) (f : Nat → Nat) (neg : Bool) (hp : tmps.getD p undef = .pointer (some ⟨g, 0, none⟩)) (hg : Blk w g (arr f neg) 199) : (results fn tmps).run Try.prog w = .ok (.agg (arr f neg)) w :=
  results_cell_row h tmps w g 199 (arr f neg) (0, 0) _ hp hg Try.underlying199 rfl (by kernel_rfl)
set_option maxRecDepth 100000 in
set_option maxHeartbeats 1000000 in
theorem plus_same (n m : Nat) (na : Bool) (w : World) :
    Calls Try.prog 126 #[bigM n na, bigM m na] w fun e w' => e = .returned (bigM (n + m) na) ∧ Below w.heap.size w w' := by
  unfold bigM
  have hn := arr_neg (limb n) na
  have hm := arr_neg (limb m) na
  go_enter Try.func126, Try.ntmps126
  have hbool : ((na == na) = true) := by simp
  obtain ⟨h1, h2, h3, hb⟩ := al3 w (.cells (arr (limb n) na) 199) (.cells (arr (limb m) na) 199) (.cells (arr (fun _ => 0) false) 199)
  rw [arr_zero] at h1 h2 h3 hb
  have H1 := hid h1; have H2 := hid h2; have H3 := hid h3; have HB := hid hb
  clear h1 h2 h3 hb
  go_wp2_with (first
    | (refine loadBig rfl (.tmp 2) rfl w.heap.size rfl (limb n) na H1.out ?_)
    | (refine loadBig rfl (.tmp 3) rfl (w.heap.size + 1) rfl (limb m) na H2.out ?_))
  refine (radd_any n m na na _).mono ?_
  rintro e W1 ⟨rfl, hb1⟩
  have K3 := hid (Blk.below (show Blk _ (w.heap.size + 1 + 1) _ 199 from H3.out) hb1 (Nat.le_refl _))
  have B1 := hid (HB.out.trans (hb1.mono HB.out.size))
  clear hb1 hn hm hbool H1 H2 H3 HB
  go_wp2_with (refine storeBig rfl (.tmp 4) (.tmp 13) rfl (w.heap.size + 1 + 1) (limb (n + m)) na rfl rfl _ (K3.out) rfl ?_)
  refine bodyPost_ret (retBig rfl _ _ (w.heap.size + 1 + 1) (limb (n + m)) na rfl (K3.out.setRow _)) rfl ⟨rfl, ?_⟩
  exact B1.out.trans (Below_setRow (Below.refl _ _) (by omega) _)
/-- What is left of two numbers of unlike signs. -/
def diffM (n m : Nat) (na nb : Bool) : Value := if n < m then bigM (m - n) nb else bigM (n - m) (if n = m then false else na)
set_option maxRecDepth 100000 in
set_option maxHeartbeats 2000000 in
theorem plus_less (n m : Nat) (na nb : Bool) (hne : na ≠ nb) (hn3 : n < lim) (hm3 : m < lim) (hlt : n < m) (w : World) :
    Calls Try.prog 126 #[bigM n na, bigM m nb] w fun e w' => e = .returned (bigM (m - n) nb) ∧ Below w.heap.size w w' := by
  unfold bigM
  have hn := arr_neg (limb n) na
  have hm := arr_neg (limb m) nb
  have hbool : ((na == nb) = false) := by simpa using hne
  have HN := hid hn3; have HM := hid hm3; have HL := hid hlt
  clear hn3 hm3 hne hlt
  go_enter Try.func126, Try.ntmps126
  obtain ⟨h1, h2, h3, hb⟩ := al3 w (.cells (arr (limb n) na) 199) (.cells (arr (limb m) nb) 199) (.cells (arr (fun _ => 0) false) 199)
  rw [arr_zero] at h1 h2 h3 hb
  have H1 := hid h1; have H2 := hid h2; have H3 := hid h3; have HB := hid hb
  clear h1 h2 h3 hb
  go_wp2_with (first
    | (refine loadBig rfl (.tmp 2) rfl w.heap.size rfl (limb n) na H1.out ?_)
    | (refine loadBig rfl (.tmp 3) rfl (w.heap.size + 1) rfl (limb m) nb H2.out ?_))
  refine (rless_any n m na nb HN.out HM.out _).mono ?_
  rintro e W1 ⟨rfl, hb1⟩
  rw [decide_eq_true HL.out]
  have K1 := hid (Blk.below (show Blk _ w.heap.size _ 199 from H1.out) hb1 (Nat.le_refl _))
  have K2 := hid (Blk.below (show Blk _ (w.heap.size + 1) _ 199 from H2.out) hb1 (Nat.le_refl _))
  have K3 := hid (Blk.below (show Blk _ (w.heap.size + 1 + 1) _ 199 from H3.out) hb1 (Nat.le_refl _))
  have B1 := hid (HB.out.trans (hb1.mono HB.out.size))
  clear hb1 hn hm hbool H1 H2 H3 HB
  have L2 := hid ((K2.out.otherRow (k := w.heap.size) (arr (limb m) nb) (by omega)).setRow (arr (limb n) na))
  have L1 := hid ((K1.out.setRow (arr (limb m) nb)).otherRow (k := w.heap.size + 1) (arr (limb n) na) (by omega))
  have L3 := hid ((K3.out.otherRow (k := w.heap.size) (arr (limb m) nb) (by omega)).otherRow (k := w.heap.size + 1) (arr (limb n) na) (by omega))
  have LB := hid (Below_setRow (Below_setRow B1.out (Nat.le_refl _) (arr (limb m) nb)) (show w.heap.size ≤ w.heap.size + 1 by omega) (arr (limb n) na))
  go_wp2_with (first
    | (refine loadBig rfl (.tmp 3) rfl (w.heap.size + 1) rfl (limb m) nb K2.out ?_)
    | (refine loadBig rfl (.tmp 2) rfl w.heap.size rfl (limb n) na K1.out ?_)
    | (refine storeBig rfl (.tmp 2) (.tmp 17) rfl w.heap.size (limb m) nb rfl rfl _ (K1.out) rfl ?_)
    | (refine storeBig rfl (.tmp 3) (.tmp 18) rfl (w.heap.size + 1) (limb n) na rfl rfl _ ((K2.out.otherRow _ (by omega))) rfl ?_)
    | (refine loadBig rfl (.tmp 2) rfl w.heap.size rfl (limb m) nb L1.out ?_)
    | (refine loadBig rfl (.tmp 3) rfl (w.heap.size + 1) rfl (limb n) na L2.out ?_))
  generalize (W1.setRow w.heap.size (arr (limb m) nb)).setRow (w.heap.size + 1) (arr (limb n) na) = W2 at *
  refine (rsub_any m n nb na (Nat.le_of_lt HL.out) _).mono ?_
  rintro e W3 ⟨rfl, hb3⟩
  clear K1 K2 K3 L1 L2
  have M3 := hid (L3.out.below hb3 (Nat.le_refl _))
  have MB := hid (LB.out.trans (hb3.mono LB.out.size))
  clear hb3 L3
  have hsz : ∀ k, k < w.heap.size + 1 + 1 + 1 → k < W3.heap.size ∨ k = w.heap.size + 1 + 1 := fun k hk => by have := M3.out.lt; omega
  have HS := hid hsz; clear hsz
  go_wp2_with (first
    | (refine storeBig rfl (.tmp 5) (.tmp 21) rfl W3.heap.size (limb (m - n)) nb rfl rfl _ (.new rfl) rfl ?_)
    | (refine loadBig rfl (.tmp 5) rfl W3.heap.size rfl (limb (m - n)) nb ((Blk.new rfl).setRow _) ?_))
  refine (rzero_any (m - n) nb (by have := HM.out; omega) _).mono ?_
  rintro e W4 ⟨rfl, hb4⟩
  rw [decide_eq_false (show ¬ (m - n = 0) by have := HL.out; omega)]
  have N5 := hid (Blk.below ((Blk.new (w := W3) rfl).setRow (arr (limb (m - n)) nb)) hb4 (Nat.le_refl _))
  have N3 := hid (Blk.below ((M3.out.alloc _).otherRow (arr (limb (m - n)) nb) (by have := M3.out.lt; omega)) hb4 (Nat.le_refl _))
  have NB := hid ((Below_setRow (MB.out.alloc MB.out.size _) (g := W3.heap.size) MB.out.size (arr (limb (m - n)) nb)).trans (hb4.mono (by have := MB.out.size; simp; omega)))
  clear hb4
  go_wp2_with (first
    | (refine loadBig rfl (.tmp 5) rfl W3.heap.size rfl (limb (m - n)) nb N5.out ?_)
    | (refine storeBig rfl (.tmp 4) (.tmp 25) rfl (w.heap.size + 1 + 1) (limb (m - n)) nb rfl rfl _ N3.out rfl ?_))
  refine bodyPost_ret (retBig rfl _ _ (w.heap.size + 1 + 1) (limb (m - n)) nb rfl (N3.out.setRow _)) rfl ⟨rfl, ?_⟩
  exact NB.out.trans (Below_setRow (Below.refl _ _) (by omega) _)
set_option maxRecDepth 100000 in
set_option maxHeartbeats 2000000 in
theorem plus_ge (n m : Nat) (na nb : Bool) (hne : na ≠ nb) (hn3 : n < lim) (hm3 : m < lim) (hlt : m ≤ n) (r : Bool) (hr0 : r = if n = m then false else na) (w : World) :
    Calls Try.prog 126 #[bigM n na, bigM m nb] w fun e w' => e = .returned (bigM (n - m) r) ∧ Below w.heap.size w w' := by
  unfold bigM
  have hn := arr_neg (limb n) na
  have hm := arr_neg (limb m) nb
  have hbool : ((na == nb) = false) := by simpa using hne
  have HN := hid hn3; have HM := hid hm3; have HL := hid hlt; have HR := hid hr0
  clear hn3 hm3 hne hlt hr0
  go_enter Try.func126, Try.ntmps126
  obtain ⟨h1, h2, h3, hb⟩ := al3 w (.cells (arr (limb n) na) 199) (.cells (arr (limb m) nb) 199) (.cells (arr (fun _ => 0) false) 199)
  rw [arr_zero] at h1 h2 h3 hb
  have H1 := hid h1; have H2 := hid h2; have H3 := hid h3; have HB := hid hb
  clear h1 h2 h3 hb
  go_wp2_with (first
    | (refine loadBig rfl (.tmp 2) rfl w.heap.size rfl (limb n) na H1.out ?_)
    | (refine loadBig rfl (.tmp 3) rfl (w.heap.size + 1) rfl (limb m) nb H2.out ?_))
  refine (rless_any n m na nb HN.out HM.out _).mono ?_
  rintro e W1 ⟨rfl, hb1⟩
  rw [decide_eq_false (show ¬ n < m by have := HL.out; omega)]
  have K1 := hid (Blk.below (show Blk _ w.heap.size _ 199 from H1.out) hb1 (Nat.le_refl _))
  have K2 := hid (Blk.below (show Blk _ (w.heap.size + 1) _ 199 from H2.out) hb1 (Nat.le_refl _))
  have K3 := hid (Blk.below (show Blk _ (w.heap.size + 1 + 1) _ 199 from H3.out) hb1 (Nat.le_refl _))
  have B1 := hid (HB.out.trans (hb1.mono HB.out.size))
  clear hb1 hn hm hbool H1 H2 H3 HB
  go_wp2_with (first
    | (refine loadBig rfl (.tmp 2) rfl w.heap.size rfl (limb n) na K1.out ?_)
    | (refine loadBig rfl (.tmp 3) rfl (w.heap.size + 1) rfl (limb m) nb K2.out ?_))
  refine (rsub_any n m na nb HL.out _).mono ?_
  rintro e W3 ⟨rfl, hb3⟩
  have M3 := hid (K3.out.below hb3 (Nat.le_refl _))
  have MB := hid (B1.out.trans (hb3.mono B1.out.size))
  clear hb3 K1 K2 K3
  go_wp2_with (first
    | (refine storeBig rfl (.tmp 5) (.tmp 21) rfl W3.heap.size (limb (n - m)) na rfl rfl _ (.new rfl) rfl ?_)
    | (refine loadBig rfl (.tmp 5) rfl W3.heap.size rfl (limb (n - m)) na ((Blk.new rfl).setRow _) ?_))
  refine (rzero_any (n - m) na (by have := HN.out; omega) _).mono ?_
  rintro e W4 ⟨rfl, hb4⟩
  have N5 := hid (Blk.below ((Blk.new (w := W3) rfl).setRow (arr (limb (n - m)) na)) hb4 (Nat.le_refl _))
  have N3 := hid (Blk.below ((M3.out.alloc _).otherRow (arr (limb (n - m)) na) (by have := M3.out.lt; omega)) hb4 (Nat.le_refl _))
  have NB := hid ((Below_setRow (MB.out.alloc MB.out.size _) (g := W3.heap.size) MB.out.size (arr (limb (n - m)) na)).trans (hb4.mono (by have := MB.out.size; simp; omega)))
  have hl5 := M3.out.lt
  have HL5 := hid hl5
  clear hb4 hl5
  by_cases heq : n = m
  · have hl := HL.out
    obtain rfl : r = false := by rw [HR.out, if_pos heq]
    rw [decide_eq_true (show n - m = 0 by omega)]
    clear heq hl
    have hc : W4.cell? ⟨W3.heap.size, 10, none⟩ = some (.bool na) := N5.out.cell 10
    have hf := N5.out.frozen 10
    have P5 := hid ((N5.out.setCell 10 (.bool false)))
    have P3 := hid (N3.out.other (k := W3.heap.size) (i := 10) (v := .bool false) (by have := HL5.out; omega))
    have PB := hid (NB.out.setCell (p := ⟨W3.heap.size, 10, none⟩) MB.out.size (.bool false))
    rw [arr_setNeg] at P5
    go_wp2_with (first
      | (refine loadBig rfl (.tmp 5) rfl W3.heap.size rfl (limb (n - m)) false P5.out ?_)
      | (refine storeBig rfl (.tmp 4) (.tmp 25) rfl (w.heap.size + 1 + 1) (limb (n - m)) false rfl rfl _ P3.out rfl ?_))
    refine bodyPost_ret (retBig rfl _ _ (w.heap.size + 1 + 1) (limb (n - m)) false rfl (P3.out.setRow _)) rfl ⟨rfl, ?_⟩
    exact PB.out.trans (Below_setRow (Below.refl _ _) (by omega) _)
  · have hl := HL.out
    obtain rfl : na = r := by rw [HR.out, if_neg heq]
    rw [decide_eq_false (show ¬ n - m = 0 by omega)]
    clear heq hl
    go_wp2_with (first
      | (refine loadBig rfl (.tmp 5) rfl W3.heap.size rfl (limb (n - m)) na N5.out ?_)
      | (refine storeBig rfl (.tmp 4) (.tmp 25) rfl (w.heap.size + 1 + 1) (limb (n - m)) na rfl rfl _ N3.out rfl ?_))
    refine bodyPost_ret (retBig rfl _ _ (w.heap.size + 1 + 1) (limb (n - m)) na rfl (N3.out.setRow _)) rfl ⟨rfl, ?_⟩
    exact NB.out.trans (Below_setRow (Below.refl _ _) (by omega) _)
theorem rPlus_any (x y : Int) (hx : 2 * x.natAbs < lim) (hy : 2 * y.natAbs < lim) (w : World) :
    Calls Try.prog 126 #[bigOf x, bigOf y] w fun e w' => e = .returned (bigOf (x + y)) ∧ Below w.heap.size w w' := by
  have p1 : x.natAbs < lim := by omega
  have p2 : y.natAbs < lim := by omega
  by_cases h : decide (x < 0) = decide (y < 0)
  · refine (show Calls Try.prog 126 #[bigM x.natAbs (decide (x < 0)), bigM y.natAbs (decide (y < 0))] w _ from ?_)
    rw [← h]
    refine (plus_same x.natAbs y.natAbs (decide (x < 0)) w).mono ?_
    rintro e w' ⟨rfl, hb⟩
    refine ⟨?_, hb⟩
    unfold bigOf
    have h2 : (x < 0) ↔ (y < 0) := by simpa using h
    rw [show (x + y).natAbs = x.natAbs + y.natAbs by omega, show decide (x + y < 0) = decide (x < 0) by rw [decide_eq_decide]; omega]
  · have h2 : ¬ ((x < 0) ↔ (y < 0)) := by simpa using h
    by_cases hlt : x.natAbs < y.natAbs
    · refine (plus_less x.natAbs y.natAbs _ _ h p1 p2 hlt w).mono ?_
      rintro e w' ⟨rfl, hb⟩
      refine ⟨?_, hb⟩
      unfold bigOf
      rw [show (x + y).natAbs = y.natAbs - x.natAbs by omega, show decide (x + y < 0) = decide (y < 0) by rw [decide_eq_decide]; omega]
    · refine (plus_ge x.natAbs y.natAbs _ _ h p1 p2 (by omega) _ rfl w).mono ?_
      rintro e w' ⟨rfl, hb⟩
      refine ⟨?_, hb⟩
      unfold bigOf
      rw [show (x + y).natAbs = x.natAbs - y.natAbs by omega]
      split
      · rw [show decide (x + y < 0) = false by rw [decide_eq_false_iff_not]; omega]
      · rw [show decide (x + y < 0) = decide (x < 0) by rw [decide_eq_decide]; omega]
end Go.Proofs.Ytamlgnhnmilbdaa
end
section
/- 'Of', 'Minus', 'Int' of the reference, walked. -/
namespace Go.Proofs.Ytamlgnhnmilbdaa
open Go.RowKit
theorem ofArr (u : Nat) (h : u < 18446744073709551616) (neg : Bool) : arr (limb u) neg = #[.int .u64 ((u % 4294967296 : Nat) : Int), .int .u64 ((u / 4294967296 : Nat) : Int), .int .u64 0, .int .u64 0, .int .u64 0, .int .u64 0, .int .u64 0, .int .u64 0, .int .u64 0, .int .u64 0, .bool neg] := by
  have hz : ∀ i, 2 ≤ i → limb u i = 0 := fun i hi => limb_small (Nat.lt_of_lt_of_le h (Nat.pow_le_pow_right (n := 2) (by omega) (show 64 ≤ 32 * i by omega)))
  have h0 : limb u 0 = u % 4294967296 := by unfold limb; simp
  have h1 : limb u 1 = u / 4294967296 := by unfold limb; rw [show 2 ^ (32 * 1) = 4294967296 from rfl]; omega
  unfold arr uV
  rw [h0, h1, hz 2 (by omega), hz 3 (by omega), hz 4 (by omega), hz 5 (by omega), hz 6 (by omega), hz 7 (by omega), hz 8 (by omega), hz 9 (by omega)]
  rfl
set_option maxRecDepth 100000 in
set_option maxHeartbeats 1000000 in
theorem rOf_any (n : Int) (w : World) (h1 : -9223372036854775808 ≤ n) (h2 : n ≤ 9223372036854775807) :
    Calls Try.prog 127 #[.int .i64 n] w fun e w' => e = .returned (bigOf n) ∧ Below w.heap.size w w' := by
  by_cases hn : 0 ≤ n
  · obtain ⟨u, rfl⟩ := Int.eq_ofNat_of_zero_le hn
    have ha := hid (ofArr u (by omega) false)
    have hm := u64_mask u (by omega)
    have hf : ¬ ((u : Int) < 0) := by omega
    go_enter Try.func127, Try.ntmps127
    go_wp2
    refine bodyPost_ret (retBig rfl _ _ w.heap.size (limb u) false rfl ?_) rfl ⟨?_, (Below_one _).alloc (by simp) _⟩
    · rw [ha.out]
      exact al_old (al_new rfl)
    · unfold bigOf bigM
      rw [show ((u : Int)).natAbs = u by omega, show decide ((u : Int) < 0) = false by simp]
  · obtain ⟨u, rfl⟩ : ∃ u : Nat, n = -(u : Int) := ⟨n.natAbs, by omega⟩
    have ha := hid (ofArr u (by omega) true)
    have hm := u64_mask u (by omega)
    have hw : IntKind.u64.wrap (-(u : Int)) = 18446744073709551616 - (u : Int) := by rw [IntKind.wrap_u64]; omega
    have hw2 : IntKind.u64.wrap (-(18446744073709551616 - (u : Int))) = (u : Int) := by rw [IntKind.wrap_u64]; omega
    have hlt : (-(u : Int) < 0) = True := by simp; omega
    go_enter Try.func127, Try.ntmps127
    go_wp2
    refine bodyPost_ret (retBig rfl _ _ w.heap.size (limb u) true rfl ?_) rfl ⟨?_, (Below_one _).alloc (by simp) _⟩
    · rw [ha.out]
      exact al_old (al_new rfl)
    · unfold bigOf bigM
      rw [show (-(u : Int)).natAbs = u by omega, show decide (-(u : Int) < 0) = true by simp; omega]
def fitB (z : Int) : Bool := decide (-9223372036854775808 ≤ z ∧ z ≤ 9223372036854775807)
/-- A number and whether it is an int. -/
def fitV (z : Int) : Value := .tuple #[.int .i64 (if fitB z = true then z else 0), .bool (fitB z)]
theorem fitV_yes {z : Int} (h1 : -9223372036854775808 ≤ z) (h2 : z ≤ 9223372036854775807) : fitV z = .tuple #[.int .i64 z, .bool true] := by
  have : fitB z = true := by unfold fitB; simp [h1, h2]
  unfold fitV; rw [this]; rfl
theorem fitV_no {z : Int} (h : z < -9223372036854775808 ∨ 9223372036854775807 < z) : fitV z = .tuple #[.int .i64 0, .bool false] := by
  have : fitB z = false := by unfold fitB; simp; omega
  unfold fitV; rw [this]; rfl
theorem high_zero {n : Nat} (hn : n < lim) (h : ∀ k, 2 ≤ k → k < 10 → limb n k = 0) : n < 18446744073709551616 := by
  have e : ∀ k, k ≤ 8 → n / 2 ^ (32 * (10 - k)) = 0 := by
    intro k
    induction k with
    | zero => intro _; rw [Nat.sub_zero]; exact lim_div hn
    | succ k ih =>
      intro hk
      rw [div_limb, show 10 - (k + 1) + 1 = 10 - k by omega, ih (by omega), h _ (by omega) (by omega)]
  have := e 8 (by omega)
  have h2 : n / 18446744073709551616 = 0 := this
  omega
theorem or_limbs (n : Nat) (h : n < 18446744073709551616) : bits BinOp.or IntKind.u64 ((limb n 0 : Nat) : Int) (((limb n 1 : Nat) : Int) * 4294967296) = (n : Int) := by
  have h0 : limb n 0 = n % 4294967296 := by unfold limb; simp
  have h1 : limb n 1 = n / 4294967296 := by unfold limb; rw [show 2 ^ (32 * 1) = 4294967296 from rfl]; omega
  rw [h0, h1, show ((n / 4294967296 : Nat) : Int) * 4294967296 = ((n / 4294967296 * 4294967296 : Nat) : Int) by omega, u64_or_nat _ _ (by omega) (by omega), Nat.or_comm, nat_join 32 _ _ (by omega) (by omega)]
  omega
set_option maxRecDepth 100000 in
set_option maxHeartbeats 1000000 in
theorem rInt_any (n : Nat) (neg : Bool) (hn : n < lim) (w : World) (v : Value) (hv : v = fitV (if neg = true then -(n : Int) else n)) :
    Calls Try.prog 128 #[bigM n neg] w fun e w' => e = .returned v ∧ Below w.heap.size w w' := by
  unfold bigM
  have HV := hid hv; have HN := hid hn
  clear hv hn
  go_enter Try.func128, Try.ntmps128
  go_wp2
  have hB := hid (Blk.new (w := w) (cs := arr (limb n) neg) (t := 199) rfl)
  have hb := hid (Below_one (w := w) (.cells (arr (limb n) neg) 199))
  generalize w.alloc (.cells (arr (limb n) neg) 199) = W at *
  go_loop [4,6,7,8,9,10,11,12,13,14] (fun t4 _ _ _ _ _ _ _ _ _ => ∃ i : Nat, 2 ≤ i ∧ i ≤ 10 ∧ t4 = .int .i64 i ∧ ∀ k, 2 ≤ k → k < i → limb n k = 0) (fun t4 _ _ _ _ _ _ _ _ _ => 10 - (intOf t4).toNat)
  case atStart => exact ⟨2, by omega, by omega, rfl, fun k _ _ => by omega⟩
  case round =>
    obtain ⟨i, hi2, hi, rfl, hz⟩ := hrel
    have HZ := hid hz; clear hz
    by_cases hlt : i < 10
    · have hc : W.cell? ⟨w.heap.size, i, none⟩ = some (.int .u64 (limb n i : Nat)) := by rw [hB.out.cell, arr_get _ _ i hlt]
      by_cases h0 : limb n i = 0
      · rw [h0] at hc
        have H0 := hid h0; clear h0
        go_wp2
        go_round
        case rel => exact ⟨i + 1, by omega, by omega, by go_num, fun k hk hk2 => by
          by_cases hki : k = i
          · rw [hki]; exact H0.out
          · exact HZ.out k hk (by omega)⟩
        case measure => simp [intOf]; omega
      · have hne : (((limb n i : Nat) : Int) != 0) = true := by simp; omega
        have hbig : 18446744073709551616 ≤ n := by
          refine Classical.byContradiction fun hc => h0 (limb_small (Nat.lt_of_lt_of_le (show n < 2 ^ 64 by omega) (Nat.pow_le_pow_right (by omega) (by omega))))
        obtain rfl : v = .tuple #[.int .i64 0, .bool false] := by rw [HV.out]; split <;> exact fitV_no (by omega)
        clear HV h0 hbig
        generalize limb n i = x at *
        go_wp2
        go_ret2
        exact ⟨rfl, hb.out⟩
    · obtain rfl : i = 10 := by omega
      have hsm := high_zero HN.out HZ.out
      have c0 : W.cell? ⟨w.heap.size, 0, none⟩ = some (.int .u64 (limb n 0 : Nat)) := by rw [hB.out.cell, arr_get _ _ 0 (by omega)]
      have c1 : W.cell? ⟨w.heap.size, 1, none⟩ = some (.int .u64 (limb n 1 : Nat)) := by rw [hB.out.cell, arr_get _ _ 1 (by omega)]
      have c2 : W.cell? ⟨w.heap.size, 10, none⟩ = some (.bool neg) := by rw [hB.out.cell, arr_neg]
      have l0 := limb_lt n 0
      have l1 := limb_lt n 1
      have hor := or_limbs n hsm
      have HSM := hid hsm; clear hsm
      generalize limb n 0 = x0 at *
      generalize limb n 1 = x1 at *
      cases neg with
      | true =>
        by_cases hbig : (9223372036854775808 : Int) < (n : Int)
        · obtain rfl : v = .tuple #[.int .i64 0, .bool false] := by rw [HV.out]; simp; exact fitV_no (by omega)
          go_wp2
          go_ret2
          exact ⟨rfl, hb.out⟩
        · obtain rfl : v = .tuple #[.int .i64 (-(n : Int)), .bool true] := by rw [HV.out]; simp; exact fitV_yes (by omega) (by omega)
          have hw : wrap64 (IntKind.u64.wrap (-(n : Int))) = -(n : Int) := by rw [IntKind.wrap_u64]; unfold wrap64; omega
          go_wp2
          go_ret2
          exact ⟨rfl, hb.out⟩
      | false =>
        by_cases hbig : (9223372036854775808 : Int) ≤ (n : Int)
        · obtain rfl : v = .tuple #[.int .i64 0, .bool false] := by rw [HV.out]; simp; exact fitV_no (by omega)
          go_wp2
          go_ret2
          exact ⟨rfl, hb.out⟩
        · obtain rfl : v = .tuple #[.int .i64 (n : Int), .bool true] := by rw [HV.out]; simp; exact fitV_yes (by omega) (by omega)
          go_wp2
          go_ret2
          exact ⟨rfl, hb.out⟩
theorem rIntZ_any (z : Int) (hz : z.natAbs < lim) (w : World) : Calls Try.prog 128 #[bigOf z] w fun e w' => e = .returned (fitV z) ∧ Below w.heap.size w w' :=
  rInt_any z.natAbs (decide (z < 0)) hz w (fitV z) (by
    by_cases h : z < 0
    · rw [decide_eq_true h, if_pos rfl, show -((z.natAbs : Nat) : Int) = z by omega]
    · rw [decide_eq_false h, if_neg (by simp), show ((z.natAbs : Nat) : Int) = z by omega])
/-- The same load behind a guard that lets it run. -/
theorem loadBigG {ops : Array Oper} {rest : List Oper} {o : Oper} {a : Act} {w : World} {Q : Exit → Act → World → Prop} (hgd : Region.wanted o (yielded ops a.tmps) = true) (x : Operand) (ho : o.op = .load 199 x) (g : Nat) (hx : a.eval x = .pointer (some ⟨g, 0, none⟩))
    (f : Nat → Nat) (neg : Bool) (hg : Blk w g (arr f neg) 199) (h : wpList Try.prog ops Q rest (a.put o.dst (.agg (arr f neg))) w) : wpList Try.prog ops Q (o :: rest) a w :=
  wpList_step fun _ hK => by
    rw [if_pos hgd]
    exact wp_load_row 199 x ho g hx 199 (arr f neg) (0, 0) _ hg Try.underlying199 rfl (by kernel_rfl) (hK _ _ h)
end Go.Proofs.Ytamlgnhnmilbdaa
end
section
/- 'Add', 'Sub', 'Mul' of the code, walked. -/
namespace Go.Proofs.Ytamlgnhnmilbdaa
open Go.RowKit
theorem maskN (a : Nat) (ha : a < 18446744073709551616) : bits .and .u64 (a : Int) 4294967295 = ((a % 4294967296 : Nat) : Int) := u64_mask a ha
theorem divN (a : Nat) : (a : Int) / 4294967296 = ((a / 4294967296 : Nat) : Int) := by omega
theorem mulN (a b : Nat) : (a : Int) * (b : Int) = ((a * b : Nat) : Int) := (Int.natCast_mul a b).symm
theorem addN (a b : Nat) : (a : Int) + (b : Int) = ((a + b : Nat) : Int) := (Int.natCast_add a b).symm
theorem wrapN (a : Nat) (ha : a < 18446744073709551616) : IntKind.u64.wrap (a : Int) = (a : Int) := by rw [IntKind.wrap_u64]; omega
theorem wrapM (a : Nat) : IntKind.u64.wrap (a : Int) = ((a % 18446744073709551616 : Nat) : Int) := by rw [IntKind.wrap_u64]; omega
end Go.Proofs.Ytamlgnhnmilbdaa
end
section
/- Lists of ints: 'Sum' of the code and of the reference, 'Same'. -/
namespace Go.Proofs.Ytamlgnhnmilbdaa
open Go.RowKit
theorem seI_load_row {P : Program} {ops : Array Oper} {wx : World} {Q : Act → Prop} {i : Nat} {r : List Nat} {a : Act} {o : Oper} (ho : ops[i]? = some o) (hgd : o.guard = none) (ty : TypeId) (x : Operand) (hop : o.op = .load ty x)
    (g : Nat) (hx : a.eval x = .pointer (some ⟨g, 0, none⟩)) (t : TypeId) (cs : Array Value) (fr : Nat × Nat) (d : TypeDesc) (hg : wx.heap[g]? = some (.cells cs t fr))
    (hu : P.underlying ty = some d) (hd : (match d with | .struct _ | .array _ _ => true | _ => false) = true) (hi : (P.info? ty).map (·.size) = some cs.size)
    (h : seI P ops wx Q r (a.put o.dst (.agg cs))) : seI P ops wx Q (i :: r) a := by
  refine seI_step ho fun K hK => ?_
  rw [if_pos (by simp [Region.wanted, hgd])]
  unfold Oper.still execOp
  simp only [hop, hx, Instr.loadAt, Instr.sureAddr, Sem.run_bind, Sem.run_pure, Result.andThen_ok, run_loadVar_row wx g t ty cs fr d hg hu hd hi]
  rw [Oper.stillUpon_value]
  exact hK _ h
theorem seI_loadBig {ops : Array Oper} {wx : World} {Q : Act → Prop} {i : Nat} {r : List Nat} {a : Act} {o : Oper} (ho : ops[i]? = some o) (hgd : o.guard = none) (x : Operand) (hop : o.op = .load 199 x) (g : Nat) (hx : a.eval x = .pointer (some ⟨g, 0, none⟩))
    (f : Nat → Nat) (neg : Bool) (hg : Blk wx g (arr f neg) 199) (h : seI Try.prog ops wx Q r (a.put o.dst (.agg (arr f neg)))) : seI Try.prog ops wx Q (i :: r) a :=
  seI_load_row ho hgd 199 x hop g hx 199 (arr f neg) (0, 0) _ hg Try.underlying199 rfl (by kernel_rfl) h
def total (zs : List Int) : Int := zs.foldl (· + ·) 0
theorem total_take_succ {zs : List Int} {k : Nat} (h : k < zs.length) : total (zs.take (k + 1)) = total (zs.take k) + zs[k] := by
  unfold total
  rw [List.take_succ_eq_append_getElem h, List.foldl_append]
  rfl
theorem total_bound {zs : List Int} (h : ints zs) : ∀ k, k ≤ zs.length → -9223372036854775808 * (k : Int) ≤ total (zs.take k) ∧ total (zs.take k) ≤ 9223372036854775808 * (k : Int) := by
  intro k
  induction k with
  | zero => intro _; simp [total]
  | succ k ih =>
    intro hk
    have := ih (by omega)
    have hz := h zs[k] (List.getElem_mem _)
    rw [total_take_succ (by omega)]
    omega
theorem add64 (x y : Int) (hx : 0 ≤ x) (hy : 0 ≤ y) (w : World) : (callFunc 125 #[.int .u64 x, .int .u64 y, .int .u64 0]).run Try.prog w =
    .ok (.value (.tuple #[.int .u64 ((x + y) % 18446744073709551616), .int .u64 ((x + y) / 18446744073709551616)])) w := by
  rw [run_callFunc_extern Try.func125 (by kernel_rfl) (by kernel_rfl) (by kernel_rfl) (e := add64Entry) (by kernel_rfl), run_add64 x y 0 hx hy (by omega) (by omega)]
  simp [Result.andThen]
def sLo (z : Int) : Int := z % 18446744073709551616
def sHi (z : Int) : Int := z / 18446744073709551616 % 18446744073709551616
theorem lo_step (s n : Int) : (sLo s + IntKind.u64.wrap n) % 18446744073709551616 = sLo (s + n) := by rw [IntKind.wrap_u64]; unfold sLo; omega
theorem hi_step (s n : Int) (h1 : -9223372036854775808 ≤ n) (h2 : n ≤ 9223372036854775807) :
    IntKind.u64.wrap (sHi s + IntKind.u64.wrap (IntKind.u64.wrap (n / 9223372036854775808) + (sLo s + IntKind.u64.wrap n) / 18446744073709551616)) = sHi (s + n) := by
  simp only [IntKind.wrap_u64]
  have e1 : n = n % 18446744073709551616 + 18446744073709551616 * (n / 9223372036854775808) := by omega
  have e2 : s = sLo s + 18446744073709551616 * (s / 18446744073709551616) := by unfold sLo; omega
  have e3 : (s + n) / 18446744073709551616 = s / 18446744073709551616 + n / 9223372036854775808 + (sLo s + n % 18446744073709551616) / 18446744073709551616 := by
    have e4 : s + n = (sLo s + n % 18446744073709551616) + 18446744073709551616 * (s / 18446744073709551616 + n / 9223372036854775808) := by omega
    generalize sLo s + n % 18446744073709551616 = z at *
    generalize s / 18446744073709551616 = q at *
    generalize n / 9223372036854775808 = r at *
    omega
  unfold sHi
  rw [e3]
  generalize (sLo s + n % 18446744073709551616) / 18446744073709551616 = z
  generalize s / 18446744073709551616 = q
  generalize n / 9223372036854775808 = r
  omega
set_option maxRecDepth 100000 in
set_option maxHeartbeats 2000000 in
theorem aSum_any (a : Option Addr) (cap : Nat) (zs : List Int) (w : World) (v : Value) (hv : v = fitV (total zs)) (hi : ints zs) (hl : zs.length ≤ 1000000) (hr : RowAt w a (zs.map iV)) :
    Calls Try.prog 105 #[.slice a zs.length cap] w fun e w' => e = .returned v ∧ w' = w := by
  have HR := hid hr; have HI := hid hi; have HV := hid hv; have HL := hid hl
  clear hr hi hv
  go_enter Try.func105, Try.ntmps105
  go_wp2
  go_loop [4,5,7,8,11,12,13,14,15,16,17,18,19,20,21,22,23,24,25,26,27,28,29] (fun t4 t5 _ _ t11 _ _ _ _ _ _ _ _ _ _ _ _ _ _ _ _ _ _ => ∃ k : Nat, k ≤ zs.length ∧ t11 = .int .i64 k ∧ t4 = .int .u64 (sHi (total (zs.take k))) ∧ t5 = .int .u64 (sLo (total (zs.take k)))) (fun _ _ _ _ t11 _ _ _ _ _ _ _ _ _ _ _ _ _ _ _ _ _ _ => zs.length - (intOf t11).toNat)
  case atStart => exact ⟨0, by omega, rfl, rfl, rfl⟩
  case round =>
    obtain ⟨k, hk, rfl, rfl, rfl⟩ := hrel
    by_cases hlt : k < zs.length
    · obtain ⟨b, off, rfl, hc⟩ := HR.out.int hlt
      have hz := HI.out zs[k] (List.getElem_mem _)
      have HT := hid (total_take_succ hlt)
      have hB := hid (total_bound HI.out k (by omega))
      have hB2 := hid (total_bound HI.out (k + 1) (by omega))
      generalize zs[k] = n at *
      obtain ⟨s, hs⟩ : ∃ s, s = total (zs.take k) := ⟨_, rfl⟩
      rw [← hs] at HT hB ⊢
      clear hs
      obtain ⟨x, hx⟩ : ∃ x, x = sLo s := ⟨_, rfl⟩
      obtain ⟨y, hy⟩ : ∃ y, y = sHi s := ⟨_, rfl⟩
      rw [← hx, ← hy]
      have x1 : 0 ≤ x := by rw [hx]; unfold sLo; omega
      obtain ⟨u, hu⟩ : ∃ u, u = IntKind.u64.wrap n := ⟨_, rfl⟩
      have hn := hu.symm
      have u1 : 0 ≤ u := by rw [hu, IntKind.wrap_u64]; omega
      have HX := hid hx; have HY := hid hy; have HU := hid hu; have HZ := hid hz
      clear hx hy hu hz
      have hadd := fun w => add64 x u x1 u1 w
      go_wp2_with (simp only [hadd])
      go_round
      case rel =>
        refine ⟨k + 1, by omega, by go_num, ?_, ?_⟩
        · rw [HT.out, ← hi_step s n HZ.out.1 HZ.out.2, HX.out, HY.out, HU.out]
        · rw [HT.out, ← lo_step, HX.out, HU.out]
      case measure => simp [intOf]; omega
    · obtain rfl : k = zs.length := by omega
      have hB := hid (total_bound HI.out zs.length (by omega))
      rw [List.take_length] at hB ⊢
      generalize total zs = s at *
      obtain ⟨x, hx⟩ : ∃ x, x = sLo s := ⟨_, rfl⟩
      obtain ⟨y, hy⟩ : ∃ y, y = sHi s := ⟨_, rfl⟩
      rw [← hx, ← hy]
      by_cases hf : fitB s = true
      · have hf2 : -9223372036854775808 ≤ s ∧ s ≤ 9223372036854775807 := by simpa [fitB] using hf
        obtain rfl : v = .tuple #[.int .i64 s, .bool true] := by rw [HV.out]; exact fitV_yes hf2.1 hf2.2
        have hw : wrap64 x = s := by rw [hx]; unfold sLo wrap64; omega
        have hy2 : (y != IntKind.u64.wrap (s / 9223372036854775808)) = false := by rw [hy, IntKind.wrap_u64]; unfold sHi; simp; omega
        clear HV hf hf2 hx hy hB
        have HW := hid hw
        go_wp2
        go_ret2
        exact ⟨rfl, rfl⟩
      · have hf2 : s < -9223372036854775808 ∨ 9223372036854775807 < s := by simp [fitB] at hf; omega
        obtain rfl : v = .tuple #[.int .i64 0, .bool false] := by rw [HV.out]; exact fitV_no hf2
        have hy2 : (y != IntKind.u64.wrap (wrap64 x / 9223372036854775808)) = true := by
          have := hB.out; rw [hy, hx, IntKind.wrap_u64]; unfold sHi sLo wrap64; simp; omega
        clear HV hf hf2 hx hy hB
        go_wp2
        go_ret2
        exact ⟨rfl, rfl⟩
set_option maxRecDepth 100000 in
set_option maxHeartbeats 2000000 in
theorem rSame_any (a b : Option Addr) (ca cb : Nat) (zs : List Int) (w : World) (hl : zs.length ≤ 1000000) (hra : RowAt w a (zs.map iV)) (hrb : RowAt w b (zs.map iV)) :
    Calls Try.prog 15 #[.slice a zs.length ca, .slice b zs.length cb] w fun e w' => e = .returned (.bool true) ∧ Below w.heap.size w w' := by
  have HA := hid hra; have HB := hid hrb
  clear hra hrb
  go_enter Try.func15, Try.ntmps15
  go_wp2
  go_loopw [5,11,12,13,14,15,16,17,18,19,20,21,22,23,24,25] (fun t5 _ _ _ _ _ _ _ _ _ _ _ _ _ _ _ wr => ∃ k : Nat, k ≤ zs.length ∧ t5 = .int .i64 k ∧ Below w.heap.size w wr) (fun t5 _ _ _ _ _ _ _ _ _ _ _ _ _ _ _ wr => zs.length - (intOf t5).toNat)
  case atStart => exact ⟨0, by omega, rfl, Below.refl _ _⟩
  case round =>
    obtain ⟨k, hk, rfl, hb⟩ := hrel
    have HW := hid hb; clear hb
    by_cases hlt : k < zs.length
    · obtain ⟨b1, off1, rfl, hc1⟩ := (HA.out.below HW.out (Nat.le_refl _)).int hlt
      obtain ⟨b2, off2, rfl, hc2⟩ := (HB.out.below HW.out (Nat.le_refl _)).int hlt
      generalize zs[k] = n at *
      have i0 : (0 : Int) ≤ (k : Int) := by omega
      have i1 : (k : Int) < (zs.length : Int) := by omega
      go_wp2
      refine wp_region_early [0, 1, 2, 3, 4, 5, 6, 7, 8] [] [] (fun wx => wx.cell? ⟨b1, off1 + k, none⟩ = some (.int .i64 n) ∧ wx.cell? ⟨b2, off2 + k, none⟩ = some (.int .i64 n)) (by kernel_rfl) (by kernel_rfl) (by kernel_rfl) (by rfl) ⟨hc1, hc2⟩ ?_
      apply Exists.intro
      refine ⟨fun wx hx => ?_, ?_⟩
      · obtain ⟨x1, x2⟩ := hx
        repeat (refine seI_step rfl (fun K hK => ?_); go_simp; refine hK _ ?_; clear hK K)
        exact seI_nil rfl
      refine wpTA_nil .nil ?_
      go_wp2
      refine NoPanic.normal ?_
      go_wp2
      go_roundw
      case rel => exact ⟨k + 1, by omega, by go_num, HW.out.drew⟩
      case measure => simp [intOf]; omega
    · obtain rfl : k = zs.length := by omega
      go_wp2
      go_ret
      exact ⟨rfl, HW.out⟩
set_option maxRecDepth 100000 in
set_option maxHeartbeats 2000000 in
theorem rSum_any (a : Option Addr) (cap : Nat) (zs : List Int) (w : World) (v : Value) (hv : v = fitV (total zs)) (hi : ints zs) (hl : zs.length ≤ 1000000) (hr : RowAt w a (zs.map iV)) :
    Calls Try.prog 106 #[.slice a zs.length cap] w fun e w' => e = .returned v ∧ Below w.heap.size w w' := by
  obtain ⟨x, o, hf⟩ : ∃ x o, fitV (total zs) = .tuple #[.int .i64 x, .bool o] := ⟨_, _, rfl⟩
  have HF := hid hf
  rw [hf] at hv
  subst hv
  clear hf
  have HR := hid hr; have HI := hid hi
  have B40 : ∀ k, k ≤ zs.length → 2 * (total (zs.take k)).natAbs < lim := fun k hk => by
    have := total_bound hi k hk
    exact lim_big (k := 100) (by omega) (by omega)
  have HBN := hid B40
  clear hr hi B40
  go_enter Try.func106, Try.ntmps106
  go_wp2
  rw [← arr_zero]
  have hB := hid (Blk.new (w := w) (cs := arr (fun _ => 0) false) (t := 199) rfl)
  have hb := hid (Below_one (w := w) (.cells (arr (fun _ => 0) false) 199))
  generalize w.alloc (.cells (arr (fun _ => 0) false) 199) = W at *
  go_loopw [5,6,7,8,9,10,11,12,13,14,15,16,17,18] (fun t5 _ _ _ _ _ _ _ _ _ _ _ _ _ wr => ∃ k : Nat, k ≤ zs.length ∧ t5 = .int .i64 k ∧ Blk wr w.heap.size (arr (limb (total (zs.take k)).natAbs) (decide (total (zs.take k) < 0))) 199 ∧ Below w.heap.size w wr) (fun t5 _ _ _ _ _ _ _ _ _ _ _ _ _ wr => zs.length - (intOf t5).toNat)
  case atStart => exact ⟨0, by omega, rfl, by rw [List.take_zero]; show Blk _ _ (arr (limb 0) false) _; rw [arr_congr false (g := fun _ => 0) (fun i _ => limb_zero i)]; exact hB.out, hb.out⟩
  case round =>
    obtain ⟨k, hk, rfl, hblk, hbw⟩ := hrel
    have HK := hid hblk; have HW := hid hbw
    clear hblk hbw
    by_cases hlt : k < zs.length
    · obtain ⟨b, off, rfl, hc⟩ := (HR.out.below HW.out (Nat.le_refl _)).int hlt
      have HZ := hid (HI.out zs[k] (List.getElem_mem _))
      have HT := hid (total_take_succ hlt)
      have HN := hid (HBN.out k hk)
      generalize zs[k] = n at *
      obtain ⟨s, hs⟩ : ∃ s, s = total (zs.take k) := ⟨_, rfl⟩
      rw [← hs] at HT HN HK
      clear hs
      have i0 : (0 : Int) ≤ (k : Int) := by omega
      have i1 : (k : Int) < (zs.length : Int) := by omega
      go_wp2
      refine wp_region_early [0, 1, 2, 3, 4] [5] [6, 7] (fun wx => Blk wx w.heap.size (arr (limb s.natAbs) (decide (s < 0))) 199 ∧ wx.cell? ⟨b, off + k, none⟩ = some (.int .i64 n)) (by kernel_rfl) (by kernel_rfl) (by kernel_rfl) (by rfl) ⟨HK.out, hc⟩ ?_
      apply Exists.intro
      refine ⟨fun wx hx => ?_, ?_⟩
      · obtain ⟨x1, x2⟩ := hx
        refine seI_loadBig rfl rfl (.tmp 4) rfl w.heap.size rfl (limb s.natAbs) (decide (s < 0)) x1 ?_
        repeat (refine seI_step rfl (fun K hK => ?_); go_simp; refine hK _ ?_; clear hK K)
        exact seI_nil rfl
      refine wpTA_cons rfl ?_
      have HB1 := hid (HW.out.drew)
      have HK1 := hid (show Blk wr.drew w.heap.size (arr (limb s.natAbs) (decide (s < 0))) 199 from HK.out)
      have HC1 := hid (show wr.drew.cell? ⟨b, off + k, none⟩ = some (.int .i64 n) from hc)
      clear hc
      generalize wr.drew = W1 at *
      go_wp2_with fail
      refine (rOf_any n _ HZ.out.1 (by have := HZ.out.2; omega)).mono ?_
      rintro e W2 ⟨rfl, hb2⟩
      have HB2 := hid (HB1.out.trans (hb2.mono HB1.out.size))
      have HK2 := hid (HK1.out.below hb2 (Nat.le_refl _))
      have hc2 : W2.cell? ⟨b, off + k, none⟩ = some (.int .i64 n) := (hb2.cell (p := ⟨b, off + k, none⟩) (block_lt_of_cell HC1.out)).trans HC1.out
      have HC2 := hid hc2
      have HB12 := hid hb2
      clear hc2 hb2
      go_wp2
      refine ⟨⟨HK2.out, HC2.out⟩, wpTA_nil (.cons rfl (.cons rfl .nil)) ?_⟩
      have HNN := hid (show 2 * n.natAbs < lim from lim_big (k := 100) (by omega) (by have := HZ.out; omega))
      go_wp2_with fail
      refine (rPlus_any s n HN.out HNN.out _).mono ?_
      rintro e W3 ⟨rfl, hb3⟩
      rw [← HT.out]
      have HB3 := hid (HB2.out.trans (hb3.mono HB2.out.size))
      have HK3 := hid (HK2.out.below hb3 (Nat.le_refl _))
      clear hb3
      obtain ⟨s2, hs2⟩ : ∃ s2, s2 = total (zs.take (k + 1)) := ⟨_, rfl⟩
      rw [← hs2]
      have HS2 := hid hs2; clear hs2
      go_wp2_with (refine storeBig rfl (.tmp 4) (.tmp 18) rfl w.heap.size (limb s2.natAbs) (decide (s2 < 0)) rfl rfl _ HK3.out rfl ?_)
      refine NoPanic.normal ?_
      go_wp2
      go_roundw
      case rel => exact ⟨k + 1, by omega, by go_num, by rw [← HS2.out]; exact HK3.out.setRow _, HB3.out.trans (Below_setRow (Below.refl _ _) (Nat.le_refl _) _)⟩
      case measure => simp [intOf]; omega
    · obtain rfl : k = zs.length := by omega
      have hN := hid (HBN.out zs.length (Nat.le_refl _))
      rw [List.take_length] at HK hN
      have hcall := fun W => hid (rIntZ_any (total zs) (by have := hN.out; omega) W)
      go_wp2_with (refine loadBig rfl (.tmp 4) rfl w.heap.size rfl (limb (total zs).natAbs) (decide (total zs < 0)) HK.out ?_)
      refine (hcall _).out.mono ?_
      rintro e W3 ⟨rfl, hb3⟩
      have HB3 := hid (HW.out.trans (hb3.mono HW.out.size))
      clear hb3 hcall
      rw [HF.out]
      go_wp2
      go_ret2
      exact ⟨rfl, HB3.out⟩
end Go.Proofs.Ytamlgnhnmilbdaa
end
section
/- CreditActs: what is held of grants, by both; walked. -/
namespace Go.Proofs.Ytamlgnhnmilbdaa
open Go.RowKit
def heldI (zs : List Int) : Int := if fitB (total zs) = true then total zs else 0
def amts (gs : List Gr4) : List Int := gs.map (·.amount)
theorem amts_len (gs : List Gr4) : (amts gs).length = gs.length := List.length_map _
theorem gHeld_any (a : Option Addr) (c : Nat) (gs : List Gr4) (w : World) (h : GrAt w a gs) (hm : gs.length ≤ 1000) (hi : ints (amts gs)) :
    Calls Try.prog 53 #[.slice a gs.length c] w fun e w' => e = .returned (.int .i64 (heldI (amts gs))) ∧ Below w.heap.size w w' := by
  refine (GCred2.gHeld_calls a gs.length c w (fun v w' => v = .int .i64 (heldI (amts gs)) ∧ Below w.heap.size w w') ?_).mono (by rintro e w' ⟨v, rfl, rfl, h⟩; exact ⟨rfl, h⟩)
  unfold GCred2.gHeld_vc
  refine ⟨fun a3 n3 c3 x wx => ∃ i : Nat, x = i ∧ i ≤ gs.length ∧ i = n3 ∧ Own wx w.heap.size 3 1 (.slice a3 i c3) i ((amts (gs.take i)).map iV) ∧ Below w.heap.size w wx, fun _ _ _ x _ => gs.length - x.toNat, ⟨0, rfl, by omega, rfl, Own.nil _ _ _ _, Below.refl _ _⟩, ?_⟩
  rintro a3 n3 c3 x wx ⟨i, rfl, hil, rfl, hO, hb⟩
  refine br_dec (fun hlt => ?_) fun hge => ?_
  · have hil : i < gs.length := by omega
    have hbs := hb.size
    obtain ⟨b, off, ha, hc4⟩ := RowsAt.get (h.below hb) hil
    subst ha
    refine ⟨by omega, by omega, gs[i].grp, gs[i].units, gs[i].amount, gs[i].fin, by rw [Int.toNat_natCast]; exact hc4, newO_in fun w4 n4 b4 s4 w5 bs5 => newO_in fun w6 n6 b6 s6 => ?_⟩
    have hlt4 : ∀ k, (Value.slice a3 i c3).ownBlock = some k → k < wx.heap.size := fun k hk => (hO.lt k hk).2
    have z5 := bs5.2
    have O5 := (hO.below b4 (Nat.le_refl _)).keep (w' := w5) fun k hk => bs5.1.block k (by have := hlt4 k hk; omega) (by rw [List.mem_singleton]; have := hlt4 k hk; omega)
    have O6 := O5.below b6 (Nat.le_refl _)
    refine app_ints O6 (src_int n6 1) (by omega) (by omega) (fun g hg e => by rw [List.mem_singleton] at hg; subst hg; have := hlt4 _ e; omega) fun a7 c7 w7 o7 f7 _ => ?_
    have B6 : Below w.heap.size w w6 := (hb.trans ((box_below (Below.trans (Below.refl _ _) b4) (Nat.le_refl _) bs5).mono (by omega))).trans (b6.mono (by omega))
    have B7 := B6.trans (f7.below (b := w.heap.size) (fun k hk => (hO.lt k (by simpa using hk)).1) (by omega))
    rw [wr64 (by omega) (by omega)]
    refine ⟨⟨i + 1, by omega, by omega, rfl, ?_, B7⟩, by dsimp only; omega⟩
    unfold amts at o7 ⊢
    rw [List.take_add_one, List.getElem?_eq_getElem hil, List.map_append]
    exact o7
  · obtain rfl : i = gs.length := by omega
    rw [List.take_length] at hO
    have hs := aSum_any a3 c3 (amts gs) wx _ rfl hi (by rw [amts_len]; omega) hO.row
    rw [amts_len] at hs
    refine hs.mono ?_
    rintro e w7 ⟨rfl, rfl⟩
    exact ⟨keepG_nil _ _, _, _, rfl, rfl, hb⟩
theorem r16Held_any (a : Option Addr) (c : Nat) (gs : List Gr4) (w : World) (h : GrAt w a gs) (hm : gs.length ≤ 1000) (hi : ints (amts gs)) :
    Calls Try.prog 62 #[.slice a gs.length c] w fun e w' => e = .returned (.int .i64 (heldI (amts gs))) ∧ Below w.heap.size w w' := by
  refine (GCred2.rHeld_calls a gs.length c w (fun v w' => v = .int .i64 (heldI (amts gs)) ∧ Below w.heap.size w w') ?_).mono (by rintro e w' ⟨v, rfl, rfl, h⟩; exact ⟨rfl, h⟩)
  unfold GCred2.rHeld_vc
  refine ⟨fun a3 n3 c3 x wx => ∃ i : Nat, x = i ∧ i ≤ gs.length ∧ i = n3 ∧ Own wx w.heap.size 3 1 (.slice a3 i c3) i ((amts (gs.take i)).map iV) ∧ Below w.heap.size w wx, fun _ _ _ x _ => gs.length - x.toNat, ⟨0, rfl, by omega, rfl, Own.nil _ _ _ _, Below.refl _ _⟩, ?_⟩
  rintro a3 n3 c3 x wx ⟨i, rfl, hil, rfl, hO, hb⟩
  refine br_dec (fun hlt => ?_) fun hge => ?_
  · have hil : i < gs.length := by omega
    have hbs := hb.size
    obtain ⟨b, off, ha, hc4⟩ := RowsAt.get (h.below hb) hil
    subst ha
    refine ⟨by omega, by omega, gs[i].amount, by rw [Int.toNat_natCast]; exact cellsAt_get hc4 2 _ rfl, newO_in fun w6 n6 b6 s6 => ?_⟩
    have O6 := hO.below b6 (Nat.le_refl _)
    refine app_ints O6 (src_int n6 1) (by omega) (by omega) (by simp) fun a7 c7 w7 o7 f7 _ => ?_
    have B6 := hb.trans (b6.mono hb.size)
    have B7 := B6.trans (f7.below (b := w.heap.size) (fun k hk => (hO.lt k (by simpa using hk)).1) (by omega))
    rw [wr64 (by omega) (by omega)]
    refine ⟨⟨i + 1, by omega, by omega, rfl, ?_, B7⟩, by dsimp only; omega⟩
    unfold amts at o7 ⊢
    rw [List.take_add_one, List.getElem?_eq_getElem hil, List.map_append]
    exact o7
  · obtain rfl : i = gs.length := by omega
    rw [List.take_length] at hO
    have hs := rSum_any a3 c3 (amts gs) wx _ rfl hi (by rw [amts_len]; omega) hO.row
    rw [amts_len] at hs
    refine hs.mono ?_
    rintro e w7 ⟨rfl, b7⟩
    exact ⟨keepG_nil _ _, _, _, rfl, rfl, hb.trans (b7.mono hb.size)⟩
end Go.Proofs.Ytamlgnhnmilbdaa
end
section
/- CreditActs: what a table holds for a node; walked. -/
namespace Go.Proofs.Ytamlgnhnmilbdaa
open Go.RowKit
def nodeGs (es : List Ses) (x : Int) : List Gr4 := es.flatMap fun s => if s.node = x then s.gs else []
theorem nodeGs_len {es : List Ses} (h : ∀ s ∈ es, s.gs.length ≤ 4) (x : Int) : (nodeGs es x).length ≤ 4 * es.length := by
  induction es with
  | nil => simp [nodeGs]
  | cons s r ih =>
    have h1 := h s (by simp)
    have h2 := ih fun t ht => h t (by simp [ht])
    unfold nodeGs at *
    rw [List.flatMap_cons, List.length_append, List.length_cons]
    split
    · omega
    · simp only [List.length_nil]; omega
theorem nodeGs_take {es : List Ses} {i : Nat} (h : i < es.length) (x : Int) : nodeGs (es.take (i + 1)) x = nodeGs (es.take i) x ++ if es[i].node = x then es[i].gs else [] := by
  unfold nodeGs
  rw [List.take_add_one, List.getElem?_eq_getElem h, List.flatMap_append]
  simp
theorem held_any {w : World} {L : List Nat} {p : Nat} {pl la : Int} {es : List Ses} (h : TabAt w L p pl la es) (hl : es.length ≤ 100) (hg : ∀ s ∈ es, s.gs.length ≤ 4) (x : Int) (hi : ints (amts (nodeGs es x))) :
    Calls Try.prog 23 #[.pointer (some ⟨p, 0, none⟩), .int .i64 x] w fun e w' => e = .returned (.int .i64 (heldI (amts (nodeGs es x)))) ∧ Below w.heap.size w w' := by
  refine (GCred2.held_calls (some ⟨p, 0, none⟩) x w (fun v w' => v = .int .i64 (heldI (amts (nodeGs es x))) ∧ Below w.heap.size w w') ?_).mono (by rintro e w' ⟨v, rfl, rfl, h⟩; exact ⟨rfl, h⟩)
  unfold GCred2.held_vc
  obtain ⟨kv, xs, M, hr⟩ := h.raw w.heap.size
  obtain ⟨ka, kc, rfl⟩ := hr.own.isSlice
  have hlen := fun i => nodeGs_len (es := es.take i) (fun s hs => hg s (List.mem_of_mem_take hs)) x
  refine br_f rfl ⟨_, _, _, (tab_cell hr).2.2, fun a5 n5 c5 y wx => ∃ i : Nat, y = i ∧ i ≤ es.length ∧ (nodeGs (es.take i) x).length = n5 ∧ Own wx w.heap.size 115 4 (.slice a5 n5 c5) n5 ((nodeGs (es.take i) x).flatMap g4Cells) ∧ Below w.heap.size w wx, fun _ _ _ y _ => es.length - y.toNat, ⟨0, rfl, by omega, rfl, Own.nil _ _ _ _, Below.refl _ _⟩, ?_⟩
  rintro a5 n5 c5 y wx ⟨i, rfl, hil, rfl, hO, hb⟩
  refine br_dec (fun hlt => ?_) fun hge => ?_
  · have hil : i < es.length := by omega
    have hbs := hb.size
    have hw := hr.below sesR hb
    obtain ⟨cs, ⟨a', c', rfl, hgr, _⟩, b, off, rfl, _, hc⟩ := hw.els.cells sesR hw.own (List.getElem?_eq_getElem hil)
    refine ⟨by omega, by omega, _, _, _, _, _, _, _, by rw [Int.toNat_natCast]; exact hc, newO_in fun w4 n4 b4 s4 w5 bs5 => ?_⟩
    have hlt4 : ∀ k, (Value.slice a5 (nodeGs (es.take i) x).length c5).ownBlock = some k → w.heap.size ≤ k ∧ k < wx.heap.size := fun k hk => hO.lt k hk
    have z5 := bs5.2
    have O5 := (hO.below b4 (Nat.le_refl _)).keep (w' := w5) fun k hk => bs5.1.block k (by have := hlt4 k hk; omega) (by rw [List.mem_singleton]; have := hlt4 k hk; omega)
    have B5 : Below w.heap.size w w5 := hb.trans ((box_below b4 (Nat.le_refl _) bs5).mono hbs)
    have hx5 : Below wx.heap.size wx w5 := box_below b4 (Nat.le_refl _) bs5
    have hn := nodeGs_take hil x
    rw [wr64 (by omega) (by omega)]
    refine br_dec (fun he => ?_) fun he => ?_
    · rw [if_pos he] at hn
      have hl1 := hlen (i + 1)
      have hl0 := hlen i
      rw [List.length_take] at hl1 hl0
      have hg4 := hg _ (List.getElem_mem hil)
      refine ⟨es[i].gs.length, _, _, O5.base_le fun _ _ => Nat.zero_le _, gr_srcs Try.underlying31 (hgr.anywhere.below hx5), by unfold maxLen; omega, by omega, fun g hg2 e => by rw [List.mem_singleton] at hg2; subst hg2; have := hlt4 _ e; omega, ?_⟩
      intro a6 c6 w6 o6 g6 or6 _
      have far : ∀ k, (Value.slice a6 ((nodeGs (es.take i) x).length + es[i].gs.length) c6).ownBlock = some k → w.heap.size ≤ k := fun k hk => by
        rcases or6 with h1 | ⟨g, h1, hg2⟩
        · exact (hlt4 k (h1 ▸ hk)).1
        · rw [h1] at hk; injection hk with hk; omega
      refine ⟨⟨i + 1, by omega, by omega, by rw [hn, List.length_append], ?_, below_gr B5 B5.size g6 fun k hk => (hlt4 k hk).1⟩, by dsimp only; omega⟩
      rw [hn, List.flatMap_append]
      exact o6.base_le far
    · rw [if_neg he, List.append_nil] at hn
      exact ⟨⟨i + 1, by omega, by omega, by rw [hn], by rw [hn]; exact O5, B5⟩, by dsimp only; omega⟩
  · obtain rfl : i = es.length := by omega
    have hl0 := hlen es.length
    rw [List.take_length] at hO hl0 ⊢
    refine (gHeld_any a5 c5 (nodeGs es x) wx (gr_own hO).anywhere (by omega) hi).mono ?_
    rintro e w7 ⟨rfl, b7⟩
    exact ⟨keepG_nil _ _, _, rfl, rfl, hb.trans (b7.mono hb.size)⟩
end Go.Proofs.Ytamlgnhnmilbdaa
end
section
/- CreditActs: are both tables the same? walked. -/
namespace Go.Proofs.Ytamlgnhnmilbdaa
open Go.RowKit
/-- What is held for each node, of the first sessions. -/
structure HeldAt (w : World) (b0 g : Nat) (cs : Array Value) (es : List Ses) : Prop where
  bk : Bk w g cs 121
  size : cs.size = 33
  each : ∀ n : Nat, n < 33 → ∃ a c, cs[n]? = some (.slice a (nodeGs es n).length c) ∧ Own w b0 161 4 (.slice a (nodeGs es n).length c) (nodeGs es n).length ((nodeGs es n).flatMap g4Cells)
  apart : ∀ (n m : Nat) (v u : Value) (k : Nat), n < 33 → m < 33 → n ≠ m → cs[n]? = some v → cs[m]? = some u → v.ownBlock = some k → u.ownBlock ≠ some k
theorem HeldAt.below {w w' : World} {b0 g : Nat} {cs : Array Value} {es : List Ses} (h : HeldAt w b0 g cs es) (hb : Below w.heap.size w w') : HeldAt w' b0 g cs es :=
  ⟨h.bk.keep (hb.block g h.bk.lt), h.size, fun n hn => by
    obtain ⟨a, c, h1, h2⟩ := h.each n hn
    exact ⟨a, c, h1, h2.below hb (Nat.le_refl _)⟩, h.apart⟩
theorem HeldAt.keep {w w' : World} {b0 g : Nat} {cs : Array Value} {es : List Ses} (h : HeldAt w b0 g cs es) (hg : w'.heap[g]? = w.heap[g]?) (hk : ∀ (n : Nat) (v : Value) (k : Nat), cs[n]? = some v → v.ownBlock = some k → w'.heap[k]? = w.heap[k]?) : HeldAt w' b0 g cs es :=
  ⟨h.bk.keep hg, h.size, fun n hn => by
    obtain ⟨a, c, h1, h2⟩ := h.each n hn
    exact ⟨a, c, h1, h2.keep fun k hk2 => hk n _ k h1 hk2⟩, h.apart⟩
theorem held_start {w w2 : World} (n2 : w2.heap[w.heap.size]? = some (.cells (Array.replicate 33 (Value.slice none 0 0)) 121 (0, 0))) : HeldAt w2 w.heap.size w.heap.size (Array.replicate 33 (Value.slice none 0 0)) [] :=
  ⟨n2, by simp, fun n hn => ⟨none, 0, by simp [hn, nodeGs], Own.nil _ _ _ _⟩, fun n m v u k hn hm hne hv hu hk => by
    simp [hn] at hv
    subst hv
    simp [Value.ownBlock] at hk⟩
/-- One node's list grows; the slice is stored. -/
theorem HeldAt.turn {w w' : World} {b0 g : Nat} {cs : Array Value} {es : List Ses} {s : Ses} (h : HeldAt w b0 g cs es) {n : Nat} (hn : n < 33) (hsn : s.node = n) {v v' : Value} (hv : cs[n]? = some v) {a' : Option Addr} {c' : Nat} (hv' : v' = .slice a' (nodeGs (es ++ [s]) n).length c')
    (ho : Own w' b0 161 4 v' (nodeGs (es ++ [s]) n).length ((nodeGs (es ++ [s]) n).flatMap g4Cells)) (hg : w.grownBy w' v.ownBlock) (hor : v'.ownBlock = v.ownBlock ∨ ∃ k, v'.ownBlock = some k ∧ w.heap.size ≤ k) : HeldAt (w'.setCell ⟨g, n, none⟩ v') b0 g (cs.setIfInBounds n v') (es ++ [s]) := by
  obtain ⟨a0, c0, hv0, ho0⟩ := h.each n hn
  rw [hv] at hv0; injection hv0 with hv0
  have hne : v.ownBlock ≠ some g := by rw [hv0]; exact own_apart h.bk ho0 (by decide)
  have bk' := h.bk.keep (hg.block g h.bk.lt fun e => hne e.symm)
  have hne' : v'.ownBlock ≠ some g := own_apart bk' ho (by decide)
  have other : ∀ m : Nat, m < 33 → m ≠ n → nodeGs (es ++ [s]) m = nodeGs es m := fun m _ hmn => by
    unfold nodeGs
    rw [List.flatMap_append]
    simp [hsn]
    intro e; omega
  have keep : ∀ (m : Nat) (u : Value) (k : Nat), m < 33 → m ≠ n → cs[m]? = some u → u.ownBlock = some k → k < w.heap.size ∧ k ≠ g ∧ v.ownBlock ≠ some k := fun m u k hm hmn hu hk => by
    obtain ⟨a1, c1, h1, h2⟩ := h.each m hm
    rw [hu] at h1; injection h1 with h1; subst h1
    exact ⟨(h2.lt k hk).2, fun e => own_apart h.bk h2 (by decide) (e ▸ hk), fun e => h.apart n m v _ k hn hm (fun e2 => hmn e2.symm) hv hu e hk⟩
  refine ⟨bk'.setCell n v', by simpa using h.size, fun m hm => ?_, fun m q x y k hm hq hmq hx hy hk => ?_⟩
  · by_cases hmn : m = n
    · subst hmn
      refine ⟨a', c', by rw [Array.getElem?_setIfInBounds_self_of_lt (by rw [h.size]; exact hn), hv'], ?_⟩
      rw [← hv']
      exact ho.keep fun k hk => Below.heap_setCell _ _ _ _ (fun e : k = g => hne' (e ▸ hk))
    · obtain ⟨a1, c1, h1, h2⟩ := h.each m hm
      rw [other m hm hmn]
      refine ⟨a1, c1, by rw [Array.getElem?_setIfInBounds_ne (fun e => hmn e.symm)]; exact h1, h2.keep fun k hk => ?_⟩
      obtain ⟨k1, k2, k3⟩ := keep m _ k hm hmn h1 hk
      rw [Below.heap_setCell _ _ _ _ k2]
      exact hg.block k k1 fun e => k3 e.symm
  · have get : ∀ (m : Nat) (x : Value), m ≠ n → (cs.setIfInBounds n v')[m]? = some x → cs[m]? = some x := fun m x hmn hx => by rwa [Array.getElem?_setIfInBounds_ne (fun e => hmn e.symm)] at hx
    have getn : ∀ x : Value, (cs.setIfInBounds n v')[n]? = some x → x = v' := fun x hx => by
      rw [Array.getElem?_setIfInBounds_self_of_lt (by rw [h.size]; exact hn)] at hx
      injection hx with hx; exact hx.symm
    have new : ∀ k : Nat, v'.ownBlock = some k → v.ownBlock = some k ∨ w.heap.size ≤ k := fun k hk => by
      rcases hor with h1 | ⟨k2, h1, h2⟩
      · exact .inl (h1 ▸ hk)
      · rw [h1] at hk; injection hk with hk; exact .inr (by omega)
    by_cases hmn : m = n
    · subst hmn
      rw [getn x hx] at hk
      have hy' := get q y (fun e => hmq e.symm) hy
      intro hk2
      obtain ⟨k1, k2, k3⟩ := keep q y k hq (fun e => hmq e.symm) hy' hk2
      exact (new k hk).elim k3 fun h => by omega
    · have hx' := get m x hmn hx
      obtain ⟨k1, k2, k3⟩ := keep m x k hm hmn hx' hk
      by_cases hqn : q = n
      · subst hqn
        rw [getn y hy]
        intro hk2
        exact (new k hk2).elim k3 fun h => by omega
      · exact h.apart m q x y k hm hq hmq hx' (get q y hqn hy) hk
end Go.Proofs.Ytamlgnhnmilbdaa
end
