/- The document's window in memory: Last, Kept, Look, DocKeep. -/
import Derived.Test.YtjjmhmbmjpedkaaGWinActs
import Derived.Test.YtjjmhmbmjpedkaaWinLaw2
namespace Go.Proofs.Ytjjmhmbmjpedkaa
open Go.RowKit
def rCells (e : Ent) : List Value := [.int .i64 e.num, .string (strOf e.req), .string (strOf e.ans)]
def rRow (es : List Ent) : List Value := es.flatMap rCells
theorem rRow_len (es : List Ent) : (rRow es).length = es.length * 3 := by
  induction es with
  | nil => rfl
  | cons e r ih => simp only [rRow, List.flatMap_cons, List.length_append] at ih ⊢; rw [ih]; simp [rCells]; omega
theorem rRow_get : ∀ (es : List Ent) (i : Nat) (e : Ent) (j : Nat), es[i]? = some e → j < 3 → (rRow es)[i * 3 + j]? = (rCells e)[j]?
  | x :: r, 0, e, j, h, hj => by
    cases h
    rw [rRow, List.flatMap_cons, List.getElem?_append_left (by simp [rCells]; omega)]
    congr 1; omega
  | x :: r, i + 1, e, j, h, hj => by
    rw [rRow, List.flatMap_cons, List.getElem?_append_right (by simp [rCells]; omega)]
    have := rRow_get r i e j (by simpa using h) hj
    rw [← this, rRow]
    congr 1
    simp [rCells]; omega
theorem rRow_app (es : List Ent) (e : Ent) : rRow (es ++ [e]) = rRow es ++ rCells e := by simp [rRow]
def lastNum (es : List Ent) : Int := match es.getLast? with
  | some e => e.num
  | none => -1
theorem lastNum_app (es : List Ent) (e : Ent) : lastNum (es ++ [e]) = e.num := by simp [lastNum]
def refWin (m : Nat) (st : Bool) (es : List Ent) : Win := lastWin m st (lastNum es) es
theorem refWin_push {m : Nat} (hm : 1 ≤ m) (st : Bool) (es : List Ent) (z : Int) (q a : List UInt8) : (refWin m st es).push z q a = refWin m st (es ++ [Ent.mk z q a]) := by
  unfold refWin; rw [last_push hm, lastNum_app]
/-- The document's window, with all that was ever kept. -/
structure RefAt (w : World) (L : List Nat) (p m : Nat) (st : Bool) (es : List Ent) : Prop where
  ex : ∃ a c, Bk w p #[.int .i64 m, .bool st, .slice a es.length c] 61 ∧ Own w 0 116 3 (.slice a es.length c) es.length (rRow es) ∧ (Value.slice a es.length c).ownBlock ≠ some p ∧ ∀ k, (Value.slice a es.length c).ownBlock = some k → k ∈ L
  mem : p ∈ L
  under : Under L w.heap.size
  len : es.length ≤ 1000
  m1 : 1 ≤ m
  m2 : m ≤ 64
  num : ∀ e ∈ es, 0 ≤ e.num ∧ e.num ≤ 4611686018427387904
theorem RefAt.keep {w w' : World} {L : List Nat} {p m : Nat} {st : Bool} {es : List Ent} (h : RefAt w L p m st es) (hk : ∀ k ∈ L, w'.heap[k]? = w.heap[k]?) (hs : w.heap.size ≤ w'.heap.size) : RefAt w' L p m st es := by
  obtain ⟨⟨a, c, h1, h2, h3, h4⟩, hm, hu, hl, r1, r2, r3⟩ := h
  exact ⟨⟨a, c, h1.keep (hk p hm), h2.keep (fun k e => hk k (h4 k e)), h3, h4⟩, hm, hu.mono hs, hl, r1, r2, r3⟩
theorem RefAt.fr {w w' : World} {L M : List Nat} {p m : Nat} {st : Bool} {es : List Ent} (h : RefAt w L p m st es) (hf : Fr M w w') (ha : Apart L M) : RefAt w' L p m st es := h.keep (hf.keep ha h.under) hf.size
theorem RefAt.below {w w' : World} {L : List Nat} {p m : Nat} {st : Bool} {es : List Ent} (h : RefAt w L p m st es) (hb : Below w.heap.size w w') : RefAt w' L p m st es := h.keep (fun k hk => hb.block k (h.under k hk)) hb.size
theorem RefAt.last {w : World} {L : List Nat} {p m : Nat} {st : Bool} {es : List Ent} (h : RefAt w L p m st es) : -1 ≤ lastNum es ∧ lastNum es ≤ 4611686018427387904 := by
  unfold lastNum
  split
  · rename_i e he
    have := h.num e (List.mem_of_getLast? he); omega
  · omega
theorem ref_cell {w : World} {a : Option Addr} {c : Nat} {es : List Ent} (h : Own w 0 116 3 (.slice a es.length c) es.length (rRow es)) {i : Nat} {e : Ent} (he : es[i]? = some e) :
    ∃ b off, a = some ⟨b, off, none⟩ ∧ es.length ≤ c ∧ ∀ j, j < 3 → w.cell? ⟨b, off + i * 3 + j, none⟩ = (rCells e)[j]? := by
  have hlt := (List.getElem?_eq_some_iff.1 he).1
  rcases h.2 with ⟨_, h0⟩ | ⟨g, off, cap, cur, hv, _, _, hc, _⟩
  · omega
  · injection hv with h1 h2 h3
    subst h1; subst h3
    refine ⟨g, off, rfl, hc, fun j hj => ?_⟩
    have h4 := rRow_get es i e j he hj
    have hx : ∃ v, (rCells e)[j]? = some v := ⟨_, List.getElem?_eq_getElem (by simp [rCells]; omega)⟩
    obtain ⟨v, hv⟩ := hx
    rw [hv] at h4 ⊢
    rw [Nat.add_assoc]
    exact h.cells g off c rfl _ v h4
theorem rLast_any (p m : Nat) (st : Bool) (es : List Ent) (L : List Nat) (w : World) (h : RefAt w L p m st es) :
    Calls Try.prog 33 #[.pointer (some ⟨p, 0, none⟩)] w fun e w' => e = .returned (.int .i64 (lastNum es)) ∧ Below w.heap.size w w' := by
  refine (GWinActs.rLast_calls _ w (fun v w' => v = .int .i64 (lastNum es) ∧ Below w.heap.size w w') ?_).mono (by rintro e w' ⟨v, rfl, rfl, hb⟩; exact ⟨rfl, hb⟩)
  obtain ⟨⟨a, c, h1, h2, h3, h4⟩, hm, hu, hl, r1, r2, r3⟩ := h
  unfold GWinActs.rLast_vc
  refine ⟨a, es.length, c, by rw [h1.cell]; rfl, ?_⟩
  refine br_dec (fun h0 => ?_) fun h0 => ?_
  · have : es = [] := List.eq_nil_of_length_eq_zero (by omega)
    subst this
    exact ⟨rfl, Below.refl _ _⟩
  · refine drewO_in fun w2 hb2 _ => ?_
    have h1 := h1.keep (hb2.block p h1.lt)
    have h2 := h2.below hb2 (Nat.le_refl _)
    have hlt : es.length - 1 < es.length := by omega
    obtain ⟨b, off, rfl, _, hc⟩ := ref_cell h2 (List.getElem?_eq_getElem hlt)
    refine ⟨some ⟨b, off, none⟩, es.length, c, by rw [h1.cell]; rfl, some ⟨b, off, none⟩, es.length, c, by rw [h1.cell]; rfl, ?_⟩
    rw [wr64 (by omega) (by omega)]
    refine ⟨by omega, by omega, _, ?_, rfl, hb2⟩
    have := hc 0 (by omega)
    rw [show ((es.length : Int) - 1).toNat = es.length - 1 by omega]
    rw [show lastNum es = es[es.length - 1].num by
      unfold lastNum
      rw [List.getLast?_eq_getElem?, List.getElem?_eq_getElem hlt]]
    simpa [rCells] using this
theorem rKept_any (p m : Nat) (st : Bool) (es : List Ent) (L : List Nat) (w : World) (h : RefAt w L p m st es) :
    Calls Try.prog 34 #[.pointer (some ⟨p, 0, none⟩)] w fun e w' => (∃ a c, e = .returned (.slice a (es.drop (es.length - m)).length c) ∧ ∀ wx, Below w.heap.size w wx → ∀ (i : Nat) (x : Ent), (es.drop (es.length - m))[i]? = some x → ∃ b off, a = some ⟨b, off, none⟩ ∧ ∀ j, j < 3 → wx.cell? ⟨b, off + i * 3 + j, none⟩ = (rCells x)[j]?) ∧ Below w.heap.size w w' := by
  refine (GWinActs.rKept_calls _ w (fun v w' => (∃ a c, v = .slice a (es.drop (es.length - m)).length c ∧ ∀ wx, Below w.heap.size w wx → ∀ (i : Nat) (x : Ent), (es.drop (es.length - m))[i]? = some x → ∃ b off, a = some ⟨b, off, none⟩ ∧ ∀ j, j < 3 → wx.cell? ⟨b, off + i * 3 + j, none⟩ = (rCells x)[j]?) ∧ Below w.heap.size w w') ?_).mono (by rintro e w' ⟨v, rfl, ⟨a, c, rfl, h⟩, hb⟩; exact ⟨⟨a, c, rfl, h⟩, hb⟩)
  obtain ⟨⟨a, c, h1, h2, h3, h4⟩, hm, hu, hl, r1, r2, r3⟩ := h
  unfold GWinActs.rKept_vc
  refine drewO_in fun w2 hb2 _ => ?_
  have h1 := h1.keep (hb2.block p h1.lt)
  refine ⟨a, es.length, c, by rw [h1.cell]; rfl, a, es.length, c, by rw [h1.cell]; rfl, m, by rw [h1.cell]; rfl, ?_⟩
  have hk : max (IntKind.i64.wrap (((es.length : Nat) : Int) - (m : Int))) 0 = ((es.length - m : Nat) : Int) := by rw [wr64 (by omega) (by omega)]; omega
  rw [hk]
  refine ⟨by omega, by omega, ⟨_, _, by rw [List.length_drop, Int.toNat_natCast], fun wx hbx i x hx => ?_⟩, hb2⟩
  rw [List.getElem?_drop] at hx
  have h2 := h2.below hbx (Nat.le_refl _)
  obtain ⟨b, off, rfl, hc, hcell⟩ := ref_cell h2 hx
  have hlt := (List.getElem?_eq_some_iff.1 hx).1
  refine ⟨b, off + (es.length - m) * 3, ?_, fun j hj => ?_⟩
  · unfold sliceBase
    rw [if_neg (by omega)]
    simp [Addr.add_lit]
  · rw [← hcell j hj]
    congr 2
    omega
theorem find_first {l : List Ent} {z : Int} {i : Nat} {e : Ent} (he : l[i]? = some e) (hz : e.num = z) (hb : ∀ j x, j < i → l[j]? = some x → x.num ≠ z) : l.find? (fun e => decide (e.num = z)) = some e := by
  induction l generalizing i with
  | nil => cases he
  | cons y r ih =>
    cases i with
    | zero => injection he with he; subst he; rw [List.find?, decide_eq_true hz]
    | succ i =>
      rw [List.find?, decide_eq_false (hb 0 y (by omega) rfl)]
      exact ih (by simpa using he) fun j x hj hx => hb (j + 1) x (by omega) (by simpa using hx)
theorem rLook_any (p m : Nat) (st : Bool) (es : List Ent) (L : List Nat) (n : Int) (q : List UInt8) (w : World) (h : RefAt w L p m st es) :
    Calls Try.prog 66 #[.pointer (some ⟨p, 0, none⟩), .int .i64 n, .string (strOf q)] w fun e w' => e = .returned (.tuple #[.string (strOf ((refWin m st es).look n q).1), .int .i64 ((refWin m st es).look n q).2]) ∧ Below w.heap.size w w' := by
  refine (GWinActs.rLook_calls _ n (strOf q) w (fun v w' => v = .tuple #[.string (strOf ((refWin m st es).look n q).1), .int .i64 ((refWin m st es).look n q).2] ∧ Below w.heap.size w w') ?_).mono (by rintro e w' ⟨v, rfl, rfl, hb⟩; exact ⟨rfl, hb⟩)
  unfold GWinActs.rLook_vc
  have done : ∀ (r : List UInt8) (k : Int) (wx : World), (refWin m st es).look n q = (r, k) → Below w.heap.size w wx → (Value.tuple #[.string (strOf r), .int .i64 k] = .tuple #[.string (strOf ((refWin m st es).look n q).1), .int .i64 ((refWin m st es).look n q).2] ∧ Below w.heap.size w wx) := fun r k wx e hb => by rw [e]; exact ⟨rfl, hb⟩
  refine br_dec (fun h0 => ?_) fun h0 => br_dec (fun h1 => ?_) fun h1 => ?_
  · exact done [] 1 w (by unfold Win.look; rw [if_pos (.inl h0)]) (Below.refl _ _)
  · exact done [] 1 w (by unfold Win.look; rw [if_pos (.inr h1)]) (Below.refl _ _)
  have hin : ¬ (n < 0 ∨ 4611686018427387904 < n) := by omega
  refine (rKept_any p m st es L w h).mono ?_
  rintro e w2 ⟨⟨a, c, rfl, hcell⟩, hb2⟩
  refine ⟨keepG_nil _ _, _, _, _, rfl, ?_⟩
  have hlk := h.len
  have hkl : (es.drop (es.length - m)).length ≤ 1000 := by rw [List.length_drop]; omega
  refine ⟨fun x wx => ∃ i : Nat, x = i ∧ i ≤ (es.drop (es.length - m)).length ∧ Below w.heap.size w wx ∧ ∀ j x, j < i → (es.drop (es.length - m))[j]? = some x → x.num ≠ n, fun x _ => (es.drop (es.length - m)).length - x.toNat, ⟨0, rfl, by omega, hb2, fun j x hj => by omega⟩, ?_⟩
  rintro x wx ⟨i, rfl, hi, hbx, hno⟩
  refine br_dec (fun hlt => ?_) fun hge => ?_
  · have hil : i < (es.drop (es.length - m)).length := by omega
    have hx := List.getElem?_eq_getElem hil
    generalize (es.drop (es.length - m))[i] = x at hx
    obtain ⟨b, off, rfl, hc⟩ := hcell wx hbx i x hx
    have c0 : wx.cell? ⟨b, off + (i : Int).toNat * 3, none⟩ = some (.int .i64 x.num) := by have := hc 0 (by omega); simpa [rCells] using this
    have c1 : wx.cell? ⟨b, off + (i : Int).toNat * 3 + 1, none⟩ = some (.string (strOf x.req)) := by have := hc 1 (by omega); simpa [rCells] using this
    have c2 : wx.cell? ⟨b, off + (i : Int).toNat * 3 + 2, none⟩ = some (.string (strOf x.ans)) := by have := hc 2 (by omega); simpa [rCells] using this
    refine ⟨by omega, by omega, x.num, c0, ?_⟩
    refine br_dec (fun heq => ?_) fun hne => ?_
    · have hf := find_first hx heq hno
      refine ⟨by omega, by omega, strOf x.req, c1, br_dec (fun hq => ?_) fun hq => ?_⟩
      · refine ⟨by omega, by omega, strOf x.ans, c2, done _ _ _ ?_ hbx⟩
        unfold Win.look refWin lastWin
        rw [if_neg hin]; dsimp only; rw [hf]; dsimp only; rw [if_pos (strOf_inj hq)]
      · refine ⟨by omega, by omega, x.num, c0, br_y heq (done _ _ _ ?_ hbx)⟩
        unfold Win.look refWin lastWin
        rw [if_neg hin]; dsimp only; rw [hf]; dsimp only; rw [if_neg (fun e => hq (by rw [e]))]
    · refine ⟨by omega, by omega, x.num, c0, br_n hne ?_⟩
      rw [wr64 (by omega) (by omega)]
      refine ⟨⟨i + 1, by omega, by omega, hbx, fun j y hj hy => ?_⟩, by dsimp only; omega⟩
      by_cases hji : j = i
      · subst hji; rw [hx] at hy; injection hy with hy; rw [← hy]; exact hne
      · exact hno j y (by omega) hy
  · have hnf : (es.drop (es.length - m)).find? (fun e => decide (e.num = n)) = none := find_no fun x hx => by
      obtain ⟨j, hj⟩ := List.mem_iff_getElem?.1 hx
      exact hno j x (by have := (List.getElem?_eq_some_iff.1 hj).1; omega) hj
    have hlook : (refWin m st es).look n q = if n ≤ lastNum es then ([], 13) else if st = true ∧ n ≠ lastNum es + 1 then ([], 15) else ([], 7) := by
      unfold Win.look refWin lastWin
      rw [if_neg hin]; dsimp only; rw [hnf]
    refine (rLast_any p m st es L wx (h.below hbx)).mono ?_
    rintro e w4 ⟨rfl, hb4⟩
    have B4 := hbx.trans (hb4.mono hbx.size)
    refine ⟨keepG_nil _ _, _, rfl, br_dec (fun hle => ?_) fun hgt => ?_⟩
    · exact done [] 13 _ (by rw [hlook, if_pos hle]) B4
    · have h4 := h.below B4
      have hl4 := h4.last
      obtain ⟨⟨a', c', g1, _⟩, _⟩ := id h4
      refine ⟨st, by rw [g1.cell]; rfl, ?_⟩
      rw [if_neg hgt] at hlook
      cases st with
      | false => exact br_f rfl (done [] 7 _ (by rw [hlook]; simp) B4)
      | true =>
        refine br_t rfl ?_
        refine (rLast_any p m true es L w4 h4).mono ?_
        rintro e w5 ⟨rfl, hb5⟩
        have B5 := B4.trans (hb5.mono B4.size)
        refine ⟨keepG_nil _ _, _, rfl, ?_⟩
        rw [wr64 (by omega) (by omega)]
        refine br_dec (fun hne => ?_) fun hne => ?_
        · exact done [] 15 _ (by rw [hlook, if_pos ⟨rfl, hne⟩]) B5
        · exact done [] 7 _ (by rw [hlook, if_neg (fun e => hne e.2)]) B5
end Go.Proofs.Ytjjmhmbmjpedkaa
