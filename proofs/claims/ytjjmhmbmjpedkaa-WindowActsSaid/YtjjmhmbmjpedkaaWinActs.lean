/- Acts on a window and the document's: the same answers. -/
import Derived.Test.YtjjmhmbmjpedkaaWinRef
import Derived.Test.YtjjmhmbmjpedkaaGWin
namespace Go.Proofs.Ytjjmhmbmjpedkaa
open Go.RowKit
theorem RefAt.app {w w4 w5 : World} {L : List Nat} {p m : Nat} {st : Bool} {es : List Ent} (h : RefAt w L p m st es) {n : Int} (hn : 0 ≤ n ∧ n ≤ 4611686018427387904) {q r : List UInt8} (hl : es.length < 1000) {a a' : Option Addr} {c c' : Nat} {W : World} (hW : Below w.heap.size w W)
    (hbk : Bk w p #[.int .i64 m, .bool st, .slice a es.length c] 61) (hown : Own w 0 116 3 (.slice a es.length c) es.length (rRow es)) (hne : (Value.slice a es.length c).ownBlock ≠ some p) (hmine : ∀ k, (Value.slice a es.length c).ownBlock = some k → k ∈ L)
    (ho : Own w4 0 116 3 (.slice a' (es.length + 1) c') (es.length + 1) (rRow es ++ rCells ⟨n, q, r⟩)) (hg : W.grownBy w4 (Value.slice a es.length c).ownBlock) (hor : (Value.slice a' (es.length + 1) c').ownBlock = (Value.slice a es.length c).ownBlock ∨ ∃ g, (Value.slice a' (es.length + 1) c').ownBlock = some g ∧ W.heap.size ≤ g)
    (hb5 : Bk w5 p #[.int .i64 m, .bool st, .slice a' (es.length + 1) c'] 61) (hf5 : Fr [p] w4 w5) : ∃ L', RefAt w5 L' p m st (es ++ [⟨n, q, r⟩]) ∧ Fr L w w5 ∧ Gr L L' w.heap.size := by
  have hpl := h.under p h.mem
  have hne' : (Value.slice a' (es.length + 1) c').ownBlock ≠ some p := fun e => by
    rcases hor with h1 | ⟨g, h1, h2⟩
    · exact hne (h1 ▸ e)
    · rw [h1] at e; injection e with e; have := hW.size; omega
  refine ⟨p :: (Value.slice a' (es.length + 1) c').ownBlock.toList, ⟨⟨a', c', ?_, ?_, ?_, ?_⟩, by simp, fun k hk => ?_, by simp; omega, h.m1, h.m2, fun e he => ?_⟩, ?_, ?_⟩
  · rw [List.length_append]; exact hb5
  · rw [List.length_append, rRow_app]
    exact ho.keep fun k hk => hf5.block k (ho.lt k hk).2 (by rw [List.mem_singleton]; rintro rfl; exact hne' hk)
  · rw [List.length_append]; exact hne'
  · rw [List.length_append]; intro k hk; exact List.mem_cons_of_mem _ (Option.mem_toList.2 hk)
  · rcases List.mem_cons.1 hk with rfl | hk
    · have := hg.size; have := hW.size; have := hf5.size; omega
    · have := (ho.lt k (Option.mem_toList.1 hk)).2; have := hf5.size; omega
  · rcases List.mem_append.1 he with he | he
    · exact h.num e he
    · rw [List.mem_singleton] at he; subst he; exact hn
  · exact ((Fr.ofBelow (L := L) hW).grown hg fun k hk => .inl (hmine k hk)).trans hf5 fun k hk => by rw [List.mem_singleton] at hk; subst hk; exact .inl h.mem
  · intro k hk
    rcases List.mem_cons.1 hk with rfl | hk
    · exact .inl h.mem
    · have hk := Option.mem_toList.1 hk
      rcases hor with e | ⟨g, e, hge⟩
      · exact .inl (hmine k (e ▸ hk))
      · rw [e] at hk; injection hk with hk; subst hk
        have := hW.size
        exact .inr (by omega)
theorem rDocKeep_any (p m : Nat) (st : Bool) (es : List Ent) (L : List Nat) (n : Int) (q r : List UInt8) (w : World) (h : RefAt w L p m st es) (hl : es.length < 1000) :
    Calls Try.prog 67 #[.pointer (some ⟨p, 0, none⟩), .int .i64 n, .string (strOf q), .string (strOf r)] w fun e w' => e = .returned (.int .i64 ((refWin m st es).keep n q r).1) ∧ ∃ L' es', RefAt w' L' p m st es' ∧ refWin m st es' = ((refWin m st es).keep n q r).2 ∧ es'.length ≤ es.length + 1 ∧ Fr L w w' ∧ Gr L L' w.heap.size := by
  refine (GWinActs.rKeep_calls _ n (strOf q) (strOf r) w (fun v w' => v = .int .i64 ((refWin m st es).keep n q r).1 ∧ ∃ L' es', RefAt w' L' p m st es' ∧ refWin m st es' = ((refWin m st es).keep n q r).2 ∧ es'.length ≤ es.length + 1 ∧ Fr L w w' ∧ Gr L L' w.heap.size) ?_).mono (by rintro e w' ⟨v, rfl, rfl, hb⟩; exact ⟨rfl, hb⟩)
  unfold GWinActs.rKeep_vc
  refine (rLook_any p m st es L n q w h).mono ?_
  rintro e w2 ⟨rfl, hb2⟩
  refine ⟨keepG_nil _ _, _, _, rfl, ?_⟩
  have same : ∀ k : Int, (refWin m st es).keep n q r = (k, refWin m st es) → (Value.int .i64 k = .int .i64 ((refWin m st es).keep n q r).1 ∧ ∃ L' es', RefAt w2 L' p m st es' ∧ refWin m st es' = ((refWin m st es).keep n q r).2 ∧ es'.length ≤ es.length + 1 ∧ Fr L w w2 ∧ Gr L L' w.heap.size) := fun k e => by
    rw [e]; exact ⟨rfl, L, es, h.below hb2, rfl, by omega, Fr.ofBelow hb2, Gr.refl _ _⟩
  refine br_dec (fun h0 => ?_) fun h0 => br_dec (fun h7 => ?_) fun h7 => br_dec (fun hq => ?_) fun hq => br_dec (fun hr => ?_) fun hr => ?_
  · exact same 8 (by unfold Win.keep; dsimp only; rw [if_pos h0])
  · exact same _ (by unfold Win.keep; dsimp only; rw [if_neg h0, if_pos h7])
  · rw [strOf_size] at hq
    exact same 5 (by unfold Win.keep; dsimp only; rw [if_neg h0, if_neg h7, if_pos (by omega)])
  · rw [strOf_size] at hr
    exact same 5 (by unfold Win.keep; dsimp only; rw [if_neg h0, if_neg h7, if_pos (by omega)])
  · rw [strOf_size] at hq hr
    have h7 : ((refWin m st es).look n q).2 = 7 := by omega
    have hk : (refWin m st es).keep n q r = (0, (refWin m st es).push n q r) := by unfold Win.keep; dsimp only; rw [if_neg h0, if_neg (by omega), if_neg (by omega)]
    have h2 := h.below hb2
    obtain ⟨⟨a, c, g1, g2, g3, g4⟩, _⟩ := id h2
    refine ⟨a, es.length, c, by rw [g1.cell]; rfl, ?_⟩
    refine newO_in fun w3 h3 b3 s3 => ?_
    have g1' := g1.keep (b3.block p g1.lt)
    refine ⟨1, rRow es, rCells ⟨n, q, r⟩, g2.below b3 (Nat.le_refl _), src_block Try.underlying59 (n := 1) (size := 3) h3 rfl rfl, by unfold maxLen; omega, by omega, by simp, ?_⟩
    intro a' c' w4 ho4 hg4 hor
    have g4b := g1'.keep (hg4.block p g1'.lt (fun e => g3 e.symm))
    refine stO_bk g4b (by simp) (by simp) fun w5 hb5 hf5 hs5 => ?_
    obtain ⟨L', hR, hF, hG⟩ := h2.app (n := n) (q := q) (r := r) (Win.look7 h7) hl b3 g1 g2 g3 g4 ho4 hg4 hor hb5 hf5
    rw [hk]
    refine ⟨rfl, L', _, hR, (refWin_push h.m1 st es n q r).symm, by simp, (Fr.ofBelow (L := L) hb2).trans hF (Gr.refl _ _), fun k hk => (hG k hk).imp id fun h => Nat.le_trans hb2.size h⟩
theorem aNumber_any (b1 b2 : Bool) (x : Int) (a3 a4 : Option Addr) (n3 c3 n4 c4 : Nat) (la : Int) (w : World) :
    Calls Try.prog 65 #[.agg #[.bool b1, .int .i64 x, .bool b2, .slice a3 n3 c3, .slice a4 n4 c4], .int .i64 la] w fun e w' => ∃ z : Int, e = .returned (.int .i64 z) ∧ Below w.heap.size w w' := by
  refine (GWinActs.aNumber_calls b1 x b2 a3 n3 c3 a4 n4 c4 la w (fun v w' => ∃ z : Int, v = .int .i64 z ∧ Below w.heap.size w w') ?_).mono (by rintro e w' ⟨v, rfl, z, rfl, hb⟩; exact ⟨z, rfl, hb⟩)
  unfold GWinActs.aNumber_vc
  refine newO_in fun w2 h2 b2' s2 => ?_
  cases b2 with
  | true => exact br_t rfl ⟨_, rfl, b2'⟩
  | false => exact br_f rfl ⟨by decide, by decide, by decide, _, rfl, b2'⟩
/-- A byte's copy of a row: 'append([]byte{}, x...)', its append alone. -/
theorem app_bytes {gs : List Nat} {w : World} {g : Nat} (hg : w.heap[g]? = some (.cells #[] 5 (0, 0))) (hgs : ∀ x ∈ gs, x ≠ g) {a : Option Addr} {c : Nat} {xs : List UInt8} (ha : RowAt w a (xs.map bV)) (hl : xs.length ≤ 100000000) {K : Nat → Option Addr → Nat → World → Prop}
    (hk : ∀ a' c' w', Own w' 0 5 1 (.slice a' (0 + xs.length) c') (0 + xs.length) (xs.map bV) → w.grownBy w' (some g) → ((Value.slice a' (0 + xs.length) c').ownBlock = some g ∨ ∃ k, (Value.slice a' (0 + xs.length) c').ownBlock = some k ∧ w.heap.size ≤ k) → K xs.length a' c' w') :
    appO Try.prog gs w 5 1 1 30 (some ⟨g, 0, none⟩) 0 0 (.slice a xs.length c) K := by
  have hs := Src.ofRow (P := Try.prog) (w := w) Try.underlying30 a c (xs.map bV) ha (fun u hu => by obtain ⟨x, _, rfl⟩ := List.mem_map.1 hu; rfl)
  rw [List.length_map] at hs
  exact ⟨xs.length, [], xs.map bV, own_empty 1 hg, hs, by unfold maxLen; omega, by omega, fun x hx e => by injection e with e; exact hgs x hx e.symm, fun a' c' w1 h1 h2 h3 => hk a' c' w1 h1 h2 h3⟩
end Go.Proofs.Ytjjmhmbmjpedkaa
