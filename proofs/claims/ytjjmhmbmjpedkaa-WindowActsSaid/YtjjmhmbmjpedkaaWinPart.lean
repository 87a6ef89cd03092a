/- A window in memory; Look, walked. -/
import Derived.Test.YtjjmhmbmjpedkaaWinPure
import Derived.Test.YtjjmhmbmjpedkaaCodecRef
import Derived.Test.YtjjmhmbmjpedkaaCodecRd
import Derived.Test.YtjjmhmbmjpedkaaLibRegion
namespace Go.Proofs.Ytjjmhmbmjpedkaa
open Go.RowKit
/-- Entries in memory: their cells, their bytes in blocks of M. -/
def EntsOk (w : World) (M : List Nat) (es : List Ent) (xs : List Value) : Prop :=
  xs.length = es.length * 3 ∧ ∀ (i : Nat) (e : Ent), es[i]? = some e → ∃ a c a' c', xs[i * 3]? = some (.int .i64 e.num) ∧ xs[i * 3 + 1]? = some (.slice a e.req.length c) ∧ xs[i * 3 + 2]? = some (.slice a' e.ans.length c') ∧
    In w M a e.req ∧ In w M a' e.ans ∧ e.req.length ≤ c ∧ e.ans.length ≤ c'
theorem EntsOk.nil (w : World) (M : List Nat) : EntsOk w M [] [] := ⟨rfl, fun i e h => by cases h⟩
theorem EntsOk.keep {w w' : World} {M : List Nat} {es : List Ent} {xs : List Value} (h : EntsOk w M es xs) (hk : ∀ k ∈ M, w'.heap[k]? = w.heap[k]?) : EntsOk w' M es xs :=
  ⟨h.1, fun i e he => by
    obtain ⟨a, c, a', c', h0, h1, h2, h3, h4, h5, h6⟩ := h.2 i e he
    exact ⟨a, c, a', c', h0, h1, h2, h3.keep hk, h4.keep hk, h5, h6⟩⟩
theorem In.mono {w : World} {M K : List Nat} {a : Option Addr} {bs : List UInt8} (h : In w M a bs) (hs : ∀ k ∈ M, k ∈ K) : In w K a bs := ⟨h.1, fun ad had hne => hs _ (h.2 ad had hne)⟩
theorem EntsOk.mono {w : World} {M K : List Nat} {es : List Ent} {xs : List Value} (h : EntsOk w M es xs) (hs : ∀ k ∈ M, k ∈ K) : EntsOk w K es xs :=
  ⟨h.1, fun i e he => by
    obtain ⟨a, c, a', c', h0, h1, h2, h3, h4, h5, h6⟩ := h.2 i e he
    exact ⟨a, c, a', c', h0, h1, h2, h3.mono hs, h4.mono hs, h5, h6⟩⟩
def cells3 (n : Int) (a : Option Addr) (m c : Nat) (a' : Option Addr) (m' c' : Nat) : List Value := [.int .i64 n, .slice a m c, .slice a' m' c']
theorem EntsOk.app {w : World} {M : List Nat} {es : List Ent} {xs : List Value} (h : EntsOk w M es xs) {e : Ent} {a a' : Option Addr} {c c' : Nat} (h3 : In w M a e.req) (h4 : In w M a' e.ans) (h5 : e.req.length ≤ c) (h6 : e.ans.length ≤ c') :
    EntsOk w M (es ++ [e]) (xs ++ cells3 e.num a e.req.length c a' e.ans.length c') := by
  refine ⟨by rw [List.length_append, List.length_append, h.1]; simp [cells3]; omega, fun i f hf => ?_⟩
  have hl := h.1
  by_cases hi : i < es.length
  · rw [List.getElem?_append_left hi] at hf
    obtain ⟨b, d, b', d', k0, k1, k2, k⟩ := h.2 i f hf
    have e3 : ∀ j, j < 3 → (xs ++ cells3 e.num a e.req.length c a' e.ans.length c')[i * 3 + j]? = xs[i * 3 + j]? := fun j hj => List.getElem?_append_left (by omega)
    refine ⟨b, d, b', d', ?_, ?_, ?_, k⟩
    · rw [← k0]; exact e3 0 (by omega)
    · rw [← k1]; exact e3 1 (by omega)
    · rw [← k2]; exact e3 2 (by omega)
  · have hlt : i < (es ++ [e]).length := (List.getElem?_eq_some_iff.1 hf).1
    rw [List.length_append, List.length_singleton] at hlt
    obtain rfl : i = es.length := by omega
    rw [List.getElem?_append_right (Nat.le_refl _), Nat.sub_self] at hf
    simp at hf
    subst hf
    have e3 : ∀ j, (xs ++ cells3 e.num a e.req.length c a' e.ans.length c')[es.length * 3 + j]? = (cells3 e.num a e.req.length c a' e.ans.length c')[j]? := fun j => by
      rw [List.getElem?_append_right (by omega)]; congr 1; omega
    exact ⟨a, c, a', c', e3 0, e3 1, e3 2, h3, h4, h5, h6⟩
theorem EntsOk.drop1 {w : World} {M : List Nat} {es : List Ent} {xs : List Value} (h : EntsOk w M es xs) (hne : 1 ≤ es.length) : EntsOk w M (es.drop 1) (xs.drop 3) := by
  refine ⟨by rw [List.length_drop, List.length_drop, h.1]; omega, fun i e he => ?_⟩
  rw [List.getElem?_drop] at he
  obtain ⟨b, d, b', d', k0, k1, k2, k⟩ := h.2 _ e he
  refine ⟨b, d, b', d', ?_, ?_, ?_, k⟩
  · rw [List.getElem?_drop, ← k0]; congr 1; omega
  · rw [List.getElem?_drop, ← k1]; congr 1; omega
  · rw [List.getElem?_drop, ← k2]; congr 1; omega
theorem strOf_toList (bs : List UInt8) : (strOf bs).toList = bs := ByteArray.toList_mk bs
theorem strOf_eqB (xs ys : List UInt8) : ((strOf xs).toList == (strOf ys).toList) = decide (xs = ys) := by
  rw [strOf_toList, strOf_toList]
  by_cases h : xs = ys <;> simp [h]
/-- A window. -/
structure WinAt (w : World) (L : List Nat) (p : Nat) (s : Win) : Prop where
  ex : ∃ (kv : Value) (xs : List Value) (M : List Nat), Bk w p #[.int .i64 s.most, .bool s.strict, .int .i64 s.last, kv] 93 ∧ Own w 0 96 3 kv s.ents.length xs ∧ EntsOk w M s.ents xs ∧
    (∀ k ∈ M, k ∈ L ∧ k ≠ p ∧ kv.ownBlock ≠ some k) ∧ ∀ k, kv.ownBlock = some k → k ∈ L
  mem : p ∈ L
  under : Under L w.heap.size
  ok : s.Ok
theorem WinAt.keep {w w' : World} {L : List Nat} {p : Nat} {s : Win} (h : WinAt w L p s) (hk : ∀ k ∈ L, w'.heap[k]? = w.heap[k]?) (hs : w.heap.size ≤ w'.heap.size) : WinAt w' L p s := by
  obtain ⟨⟨kv, xs, M, h1, h2, h3, h4, h5⟩, hm, hu, ho⟩ := h
  exact ⟨⟨kv, xs, M, h1.keep (hk p hm), h2.keep (fun k e => hk k (h5 k e)), h3.keep (fun k e => hk k (h4 k e).1), h4, h5⟩, hm, hu.mono hs, ho⟩
theorem WinAt.fr {w w' : World} {L M : List Nat} {p : Nat} {s : Win} (h : WinAt w L p s) (hf : Fr M w w') (ha : Apart L M) : WinAt w' L p s := h.keep (hf.keep ha h.under) hf.size
theorem WinAt.below {w w' : World} {L : List Nat} {p : Nat} {s : Win} (h : WinAt w L p s) (hb : Below w.heap.size w w') : WinAt w' L p s := h.keep (fun k hk => hb.block k (h.under k hk)) hb.size
/-- The cells of an entry. -/
theorem ent_cells {w : World} {M : List Nat} {es : List Ent} {xs : List Value} {b0 : Nat} {a : Option Addr} {n c : Nat} (hO : Own w b0 96 3 (.slice a n c) es.length xs) (hE : EntsOk w M es xs) {i : Nat} {e : Ent} (he : es[i]? = some e) :
    ∃ b off u cu v cv, a = some ⟨b, off, none⟩ ∧ w.cell? ⟨b, off + i * 3, none⟩ = some (.int .i64 e.num) ∧ w.cell? ⟨b, off + i * 3 + 1, none⟩ = some (.slice u e.req.length cu) ∧ w.cell? ⟨b, off + i * 3 + 2, none⟩ = some (.slice v e.ans.length cv) ∧
      In w M u e.req ∧ In w M v e.ans ∧ e.req.length ≤ cu ∧ e.ans.length ≤ cv := by
  obtain ⟨u, cu, v, cv, k0, k1, k2, k⟩ := hE.2 i e he
  have hlt : i < es.length := (List.getElem?_eq_some_iff.1 he).1
  rcases hO.2 with ⟨_, h0⟩ | ⟨g, off, cap, cur, hv, _⟩
  · omega
  · injection hv with h1 h2 h3
    subst h1; subst h2
    have hc := hO.cells g off c rfl
    exact ⟨g, off, u, cu, v, cv, rfl, hc _ _ k0, hc _ _ k1, hc _ _ k2, k⟩
set_option maxRecDepth 100000 in
set_option maxHeartbeats 2000000 in
theorem look1_any (z m : Int) (u v : Option Addr) (n1 c1 n2 c2 g : Nat) (w : World) (hg : w.cell? ⟨g, 0, none⟩ = some (.int .i64 m)) :
    Calls Try.prog 51 #[.agg #[.int .i64 z, .slice u n1 c1, .slice v n2 c2], .pointer (some ⟨g, 0, none⟩)] w fun e w' => e = .returned (.bool (z == m)) ∧ Below w.heap.size w w' := by
  have hg2 : (w.alloc (.cells #[.int .i64 z, .slice u n1 c1, .slice v n2 c2] 96)).cell? ⟨g, 0, none⟩ = some (.int .i64 m) := by
    rw [World.cell?_alloc_past _ _ _ (block_lt_of_cell hg)]; exact hg
  go_enter Try.func51, Try.ntmps51
  go_wp2
  go_ret
  exact ⟨rfl, Below_one _⟩
set_option maxRecDepth 100000 in
set_option maxHeartbeats 4000000 in
theorem idx_any (a : Option Addr) (c : Nat) (es : List Ent) (xs : List Value) (M : List Nat) (g : Nat) (m : Int) (b0 : Nat) (w : World) (hO : Own w b0 96 3 (.slice a es.length c) es.length xs) (hE : EntsOk w M es xs) (hl : es.length ≤ 1000) (hM : Under M w.heap.size) (hg : w.cell? ⟨g, 0, none⟩ = some (.int .i64 m)) :
    Calls Try.prog 50 #[.slice a es.length c, .func (.func 51) #[] #[.pointer (some ⟨g, 0, none⟩)]] w fun e w' => e = .returned (.int .i64 (entIdx es m 0)) ∧ Below w.heap.size w w' := by
  have HK : ∀ wx : World, Below w.heap.size w wx → Own wx b0 96 3 (.slice a es.length c) es.length xs ∧ EntsOk wx M es xs := fun wx hb => ⟨hO.below hb (Nat.le_refl _), hE.keep fun k hk => hb.block k (hM k hk)⟩
  have HC := fun (wx : World) (hb : Below w.heap.size w wx) (i : Nat) (hi : i < es.length) => Bx.mk (ent_cells (HK wx hb).1 (HK wx hb).2 (List.getElem?_eq_getElem hi))
  have HG := fun (wx : World) (hb : Below w.heap.size w wx) => (hb.cell (p := ⟨g, 0, none⟩) (block_lt_of_cell hg)).trans hg
  clear HK hO hE hM
  go_enter Try.func50, Try.ntmps50
  go_wp2_with fail
  go_loopw [5,8,9,10,11,12,13,14,15,16,17,18] (fun _ t8 _ _ _ _ _ _ _ _ _ _ wr => ∃ i : Nat, i ≤ es.length ∧ t8 = .int .i64 i ∧ Bx (∀ (j : Nat) (f : Ent), j < i → es[j]? = some f → f.num ≠ m) ∧ Below w.heap.size w wr) (fun _ t8 _ _ _ _ _ _ _ _ _ _ _ => es.length - (intOf t8).toNat)
  case atStart => exact ⟨0, by omega, rfl, ⟨fun j f hj => by omega⟩, Below.refl _ _⟩
  case round =>
    obtain ⟨i, hi, rfl, HN, hb⟩ := hrel
    have HB := Bx.mk hb
    by_cases hlt : i < es.length
    · obtain ⟨b, off, u, cu, v, cv, rfl, c0, c1, c2, _, _, _, _⟩ := (HC wr hb i hlt).out
      have cg := HG wr hb
      have HE := Bx.mk (List.getElem?_eq_getElem hlt)
      clear hb
      generalize es[i] = e at *
      have i0 : (0 : Int) ≤ (i : Int) := by omega
      have i1 : (i : Int) < (es.length : Int) := by omega
      have HI := Bx.mk hlt
      by_cases hz : e.num = m
      · have HQ := Bx.mk (show (e.num == m) = true by rw [hz]; exact beq_self_eq_true m)
        have HZ := Bx.mk hz
        clear hz
        go_wp2_with (go_at_call 51; refine (look1_any e.num m u v _ cu _ cv g _ cg).mono ?_; rintro r w1 ⟨rfl, hb1⟩; rw [HQ.out])
        go_ret
        exact ⟨by rw [entIdx_hit es m i e HE.out HZ.out HN.out 0, Int.zero_add]; rfl, HB.out.trans (hb1.mono HB.out.size)⟩
      · have HQ := Bx.mk (show (e.num == m) = false by rw [beq_eq_false_iff_ne]; exact hz)
        have HZ := Bx.mk hz
        clear hz
        go_wp2_with (go_at_call 51; refine (look1_any e.num m u v _ cu _ cv g _ cg).mono ?_; rintro r w1 ⟨rfl, hb1⟩; rw [HQ.out])
        have HB1 := Bx.mk (HB.out.trans (hb1.mono HB.out.size))
        have HN1 : ∀ (j : Nat) (f : Ent), j < i + 1 → es[j]? = some f → f.num ≠ m := fun j f hj hf => by
          by_cases hji : j = i
          · subst hji
            have := HE.out
            rw [hf] at this
            injection this with this
            subst this
            exact HZ.out
          · exact HN.out j f (by omega) hf
        have HN2 := Bx.mk HN1
        clear HN1 hb1
        go_roundw
        case rel => exact ⟨i + 1, by omega, by go_num, HN2, HB1.out⟩
        case measure => simp [intOf]; omega
    · have hE : entIdx es m 0 = -1 := entIdx_miss es m (fun j f hf => HN.out j f (by have := (List.getElem?_eq_some_iff.1 hf).1; omega) hf) 0
      have HE := Bx.mk hE
      clear hE
      go_wp2
      go_ret
      exact ⟨by rw [HE.out]; rfl, HB.out⟩
set_option maxRecDepth 100000 in
set_option maxHeartbeats 2000000 in
theorem bEqual_any (a a' : Option Addr) (c c' : Nat) (xs ys : List UInt8) (w : World) (h : RowAt w a (xs.map bV)) (h' : RowAt w a' (ys.map bV)) :
    Calls Try.prog 52 #[.slice a xs.length c, .slice a' ys.length c'] w fun e w' => e = .returned (.bool (decide (xs = ys))) ∧ w' = w := by
  have k1 := conv_str (P := Try.prog) 30 9 Try.underlying30 Try.underlying5 Try.underlying9 w a c xs h
  have k2 := conv_str (P := Try.prog) 30 9 Try.underlying30 Try.underlying5 Try.underlying9 w a' c' ys h'
  go_enter Try.func52, Try.ntmps52
  go_wp2
  go_ret
  refine ⟨?_, rfl⟩
  rw [← strOf_eqB]
  rfl
set_option maxRecDepth 100000 in
set_option maxHeartbeats 8000000 in
theorem wLook_any (p : Nat) (s : Win) (L : List Nat) (n : Int) (a : Option Addr) (c : Nat) (q : List UInt8) (w : World) (hw : WinAt w L p s) (hq : RowAt w a (q.map bV)) :
    Calls Try.prog 16 #[.pointer (some ⟨p, 0, none⟩), .int .i64 n, .slice a q.length c] w fun e w' => ∃ v, e = .returned (.tuple #[v, .int .i64 (s.look n q).2]) ∧ Own w' w.heap.size 5 1 v (s.look n q).1.length ((s.look n q).1.map bV) ∧ Below w.heap.size w w' := by
  obtain ⟨⟨kv, xs, M, h1, h2, h3, h4, h5⟩, hm, hu, ho⟩ := hw
  obtain ⟨kva, kvc, rfl⟩ := h2.isSlice
  obtain ⟨g, hg⟩ : ∃ g, g = w.heap.size := ⟨_, rfl⟩
  have HG := Bx.mk hg
  have b0 := Below_one (w := w) (.cells #[.int .i64 n] 3)
  have cg : (w.alloc (.cells #[.int .i64 n] 3)).cell? ⟨g, 0, none⟩ = some (.int .i64 n) := by rw [World.cell?_alloc_at _ _ _ _ hg]; rfl
  have CP : ∀ wx, Below w.heap.size w wx → wx.cell? ⟨p, 0, none⟩ = some (.int .i64 s.most) ∧ wx.cell? ⟨p, 1, none⟩ = some (.bool s.strict) ∧ wx.cell? ⟨p, 2, none⟩ = some (.int .i64 s.last) ∧ wx.cell? ⟨p, 3, none⟩ = some (.slice kva s.ents.length kvc) := fun wx hb => by
    have hB := h1.keep (hb.block p h1.lt)
    refine ⟨?_, ?_, ?_, ?_⟩ <;> rw [hB.cell] <;> rfl
  have EP : ∀ wx : World, Below w.heap.size w wx → Own wx 0 96 3 (.slice kva s.ents.length kvc) s.ents.length xs ∧ EntsOk wx M s.ents xs := fun wx hb => ⟨h2.below hb (Nat.le_refl _), h3.keep fun k hk => hb.block k (hu k (h4 k hk).1)⟩
  have QP : ∀ wx : World, Below w.heap.size w wx → Bx (RowAt wx a (q.map bV)) := fun wx hb => ⟨hq.below hb (Nat.le_refl _)⟩
  have HU := Bx.mk (show Under M w.heap.size from fun k hk => hu k (h4 k hk).1)
  have HS := Bx.mk ho
  clear h1 h2 h3 h4 h5 hm hu ho hq
  have HEnd : ∀ (wx : World) (m : Int), Below w.heap.size w wx → s.look n q = ([], m) → ∃ v, Ending.returned (.tuple #[.slice none 0 0, .int .i64 m]) = .returned (.tuple #[v, .int .i64 (s.look n q).2]) ∧ Own wx w.heap.size 5 1 v (s.look n q).1.length ((s.look n q).1.map bV) ∧ Below w.heap.size w wx := fun wx m hb he => by
    rw [he]
    exact ⟨_, rfl, Own.nil _ _ _ _, hb⟩
  go_enter Try.func16, Try.ntmps16
  by_cases hn0 : n < 0
  · have E := Bx.mk (show s.look n q = ([], 1) by unfold Win.look; rw [if_pos (.inl hn0)])
    go_wp2
    go_ret2
    exact HEnd _ 1 b0 E.out
  · by_cases hn1 : 4611686018427387904 < n
    · have E := Bx.mk (show s.look n q = ([], 1) by unfold Win.look; rw [if_pos (.inr hn1)])
      go_wp2
      go_ret2
      exact HEnd _ 1 b0 E.out
    · have HN := Bx.mk (show ¬ (n < 0 ∨ 4611686018427387904 < n) by omega)
      have B0 := Bx.mk b0
      obtain ⟨k0, k1, k2, k3⟩ := CP _ b0
      have HEP := Bx.mk (EP _ b0)
      have cp3 := fun (wx : World) (h : Below w.heap.size w wx) => (CP wx h).2.2.2
      go_wp2_with fail
      rw [← HG.out]
      refine (idx_any kva kvc s.ents xs M g n 0 (w.alloc (.cells #[.int .i64 n] 3)) HEP.out.1 HEP.out.2 ?_ (HU.out.mono (by simp)) cg).mono ?_
      · have := HS.out.le; have := HS.out.m2; omega
      rintro r w1 ⟨rfl, hb1⟩
      have cg1 : w1.cell? ⟨g, 0, none⟩ = some (.int .i64 n) := (hb1.cell (p := ⟨g, 0, none⟩) (block_lt_of_cell cg)).trans cg
      have hb1 := B0.out.trans (hb1.mono (by simp))
      obtain ⟨k0, k1, k2, k3⟩ := CP _ hb1
      have B1 := Bx.mk hb1
      have l1 := HS.out.l1
      have l2 := HS.out.l2
      have cg2 := cg1
      rw [HG.out] at cg2
      rcases entIdx_or s.ents n with ⟨hi, hf⟩ | ⟨k, e, hi, he, hf⟩
      · rw [hi]
        by_cases hlast : n ≤ s.last
        · have E := Bx.mk (show s.look n q = ([], 13) by unfold Win.look; rw [if_neg HN.out, hf]; dsimp only; rw [if_pos hlast])
          clear hf hi
          go_wp2
          all_goals go_region
          all_goals (try go_wp2)
          all_goals go_ret2
          all_goals exact HEnd _ 13 B1.out.drew E.out
        · cases hst : s.strict with
          | false =>
            have E := Bx.mk (show s.look n q = ([], 7) by unfold Win.look; rw [if_neg HN.out, hf]; dsimp only; rw [if_neg hlast, if_neg (by rw [hst]; simp)])
            rw [hst] at k1
            clear hf hi
            go_wp2
            all_goals go_region
            all_goals (try go_wp2)
            all_goals go_region
            all_goals (try go_wp2)
            all_goals go_ret2
            all_goals exact HEnd _ 7 B1.out.drew.drew E.out
          | true =>
            rw [hst] at k1
            by_cases hnx : n = s.last + 1
            · have E := Bx.mk (show s.look n q = ([], 7) by unfold Win.look; rw [if_neg HN.out, hf]; dsimp only; rw [if_neg hlast, if_neg (by rw [hst]; simp [hnx])])
              clear hf hi
              go_wp2
              all_goals go_region
              all_goals (try go_wp2)
              all_goals go_region
              all_goals (try go_wp2)
              all_goals go_ret2
              all_goals exact HEnd _ 7 B1.out.drew.drew E.out
            · have E := Bx.mk (show s.look n q = ([], 15) by unfold Win.look; rw [if_neg HN.out, hf]; dsimp only; rw [if_neg hlast, if_pos ⟨hst, hnx⟩])
              clear hf hi
              go_wp2
              all_goals go_region
              all_goals (try go_wp2)
              all_goals go_region
              all_goals (try go_wp2)
              all_goals go_ret2
              all_goals exact HEnd _ 15 B1.out.drew.drew E.out
      · rw [hi]
        have HE1 := EP w1 hb1
        obtain ⟨b, off, u, cu, v, cv, rfl, c0, c1, c2, iu, iv, lu, lv⟩ := ent_cells HE1.1 HE1.2 he
        have IU := Bx.mk iu.1; have IV := Bx.mk iv.1
        have hk : k < s.ents.length := (List.getElem?_eq_some_iff.1 he).1
        have j0 : (0 : Int) ≤ (k : Int) := by omega
        have j1 : (k : Int) < (s.ents.length : Int) := by omega
        have HA := Bx.mk (HS.out.each e (List.mem_of_getElem? he))
        have HF := Bx.mk hf
        clear HE1 iu iv he hi hf
        by_cases hq : e.req = q
        · have E := Bx.mk (show s.look n q = (e.ans, 0) by unfold Win.look; rw [if_neg HN.out, HF.out]; dsimp only; rw [if_pos hq])
          have HD := Bx.mk (decide_eq_true hq)
          clear hq
          go_wp2_with fail
          refine (bEqual_any u a cu c e.req q w1 IU.out (QP w1 B1.out).out).mono ?_
          rintro r w2 ⟨rfl, rfl⟩
          rw [HD.out]
          go_wp2_with fail
          refine (bClone_any v cv e.ans w2 IV.out (by have := HA.out.2.2.2; omega)).mono ?_
          rintro r w3 ⟨v', rfl, ho3, hb3⟩
          have HO3 := Bx.mk ho3; have HB3 := Bx.mk hb3
          clear ho3 hb3
          go_wp2
          go_ret2
          rw [E.out]
          exact ⟨_, rfl, HO3.out.base_le fun k hk => Nat.le_trans B1.out.size (HO3.out.lt k hk).1, B1.out.trans (HB3.out.mono B1.out.size)⟩
        · have E := Bx.mk (show s.look n q = ([], 14) by unfold Win.look; rw [if_neg HN.out, HF.out]; dsimp only; rw [if_neg hq])
          have HD := Bx.mk (decide_eq_false hq)
          clear hq
          go_wp2_with fail
          refine (bEqual_any u a cu c e.req q w1 IU.out (QP w1 B1.out).out).mono ?_
          rintro r w2 ⟨rfl, rfl⟩
          rw [HD.out]
          go_wp2
          go_ret2
          exact HEnd _ 14 B1.out E.out
end Go.Proofs.Ytjjmhmbmjpedkaa
