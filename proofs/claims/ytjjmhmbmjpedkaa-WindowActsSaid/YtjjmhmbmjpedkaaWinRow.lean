/- Windows that keep rising numbers: what they know. Plain law, no program in sight. -/
import Derived.Test.YtjjmhmbmjpedkaaWinPure
namespace Go.Proofs.Ytjjmhmbmjpedkaa
theorem find_ent {l : List Ent} {e : Ent} (he : e ∈ l) {z : Int} (hz : e.num = z) (hu : ∀ x ∈ l, x.num = z → x = e) : l.find? (fun e => decide (e.num = z)) = some e := by
  induction l with
  | nil => cases he
  | cons y r ih =>
    by_cases hy : y.num = z
    · rw [List.find?, decide_eq_true hy]
      dsimp only
      rw [hu y (by simp) hy]
    · rw [List.find?, decide_eq_false hy]
      refine ih ?_ fun x hx => hu x (List.mem_cons_of_mem _ hx)
      rcases List.mem_cons.1 he with rfl | h
      · exact absurd hz hy
      · exact h
theorem find_no {l : List Ent} {z : Int} (h : ∀ x ∈ l, x.num ≠ z) : l.find? (fun e => decide (e.num = z)) = none := by
  rw [List.find?_eq_none]
  intro x hx
  simp only [decide_eq_true_eq]
  exact h x hx
/-- The window behind the rising numbers of a list, the last 'm' of them. -/
def lastWin (m : Nat) (st : Bool) (la : Int) (es : List Ent) : Win := ⟨m, st, la, es.drop (es.length - m)⟩
theorem last_push {m : Nat} (hm : 1 ≤ m) (st : Bool) (la : Int) (es : List Ent) (z : Int) (q a : List UInt8) : (lastWin m st la es).push z q a = lastWin m st z (es ++ [Ent.mk z q a]) := by
  have hd : es.drop (es.length - m) ++ [Ent.mk z q a] = (es ++ [Ent.mk z q a]).drop (es.length - m) := by rw [List.drop_append_of_le_length (by omega)]
  unfold Win.push lastWin
  dsimp only
  congr 1
  rw [hd]
  simp only [List.length_drop, List.length_append, List.length_singleton]
  by_cases h : (m : Int) < ((es.length + 1 - (es.length - m) : Nat) : Int)
  · rw [if_pos h, List.drop_drop]
    congr 1
    omega
  · rw [if_neg h]
    congr 1
    omega
/-- A number above the last one is new. -/
theorem last_miss {m : Nat} {st : Bool} {la : Int} {es : List Ent} (hle : ∀ x ∈ es, x.num ≤ la) {z : Int} (hz0 : 0 ≤ z) (hz1 : z ≤ 4611686018427387904) (hz : la < z) (q : List UInt8) :
    (lastWin m st la es).look z q = ([], if st = true ∧ z ≠ la + 1 then 15 else 7) := by
  unfold Win.look lastWin
  rw [if_neg (by omega)]
  dsimp only
  rw [find_no (fun x hx => by have := hle x (List.mem_of_mem_drop hx); omega)]
  dsimp only
  rw [if_neg (by omega)]
  split <;> rfl
theorem last_keep {m : Nat} (hm : 1 ≤ m) {st : Bool} {la : Int} {es : List Ent} (hle : ∀ x ∈ es, x.num ≤ la) {z : Int} (hz0 : 0 ≤ z) (hz1 : z ≤ 4611686018427387904) (hz : la < z) (hst : st = true → z = la + 1) (q a : List UInt8) (hq : q.length ≤ 65536) (ha : a.length ≤ 65536) :
    (lastWin m st la es).keep z q a = (0, lastWin m st z (es ++ [Ent.mk z q a])) := by
  unfold Win.keep
  have h0 : ¬ (st = true ∧ z ≠ la + 1) := fun h => h.2 (hst h.1)
  rw [last_miss hle hz0 hz1 hz, if_neg h0]
  dsimp only
  rw [if_neg (by decide), if_neg (by decide), if_neg (by omega), last_push hm]
/-- What is known of a number that isn't above the last one. -/
theorem last_known {m : Nat} {st : Bool} {la : Int} {es : List Ent} {i : Nat} {e : Ent} (he : es[i]? = some e) (hi : es.length - m ≤ i) (hu : ∀ x ∈ es, x.num = e.num → x = e) (h0 : 0 ≤ e.num) (h1 : e.num ≤ 4611686018427387904) (q : List UInt8) :
    (lastWin m st la es).look e.num q = if e.req = q then (e.ans, 0) else ([], 14) := by
  unfold Win.look lastWin
  rw [if_neg (by omega)]
  dsimp only
  have hm : e ∈ es.drop (es.length - m) := by
    rw [List.mem_iff_getElem?]
    exact ⟨i - (es.length - m), by rw [List.getElem?_drop, ← he]; congr 1; omega⟩
  rw [find_ent hm rfl fun x hx => hu x (List.mem_of_mem_drop hx)]
theorem last_stale {m : Nat} {st : Bool} {la : Int} {es : List Ent} {z : Int} (hn : ∀ x ∈ es.drop (es.length - m), x.num ≠ z) (h0 : 0 ≤ z) (h1 : z ≤ 4611686018427387904) (hz : z ≤ la) (q : List UInt8) : (lastWin m st la es).look z q = ([], 13) := by
  unfold Win.look lastWin
  rw [if_neg (by omega)]
  dsimp only
  rw [find_no hn]
  dsimp only
  rw [if_pos hz]
/-- The numbers from 0 on, each with its byte for a request. -/
def upTo (f : Nat → List UInt8) (n : Nat) : List Ent := (List.range n).map fun (j : Nat) => Ent.mk (j : Int) [UInt8.ofNat j] (f j)
theorem upTo_len (f : Nat → List UInt8) (n : Nat) : (upTo f n).length = n := by simp [upTo]
theorem upTo_succ (f : Nat → List UInt8) (n : Nat) : upTo f (n + 1) = upTo f n ++ [Ent.mk n [UInt8.ofNat n] (f n)] := by simp [upTo, List.range_succ]
theorem upTo_get (f : Nat → List UInt8) {n j : Nat} (h : j < n) : (upTo f n)[j]? = some (Ent.mk j [UInt8.ofNat j] (f j)) := by simp [upTo, h]
theorem upTo_num (f : Nat → List UInt8) (n : Nat) : ∀ x ∈ upTo f n, ∃ j : Nat, j < n ∧ x = Ent.mk j [UInt8.ofNat j] (f j) := by
  intro x hx
  simp only [upTo, List.mem_map, List.mem_range] at hx
  obtain ⟨j, hj, rfl⟩ := hx
  exact ⟨j, hj, rfl⟩
/-- A strict window behind n Keeps. -/
def known (m : Nat) (f : Nat → List UInt8) (n : Nat) : Win := lastWin m true ((n : Int) - 1) (upTo f n)
theorem known_keep {m : Nat} (hm : 1 ≤ m) (f : Nat → List UInt8) (n : Nat) (hn : n ≤ 1000) (hf : (f n).length ≤ 65536) : (known m f n).keep n [UInt8.ofNat n] (f n) = (0, known m f (n + 1)) := by
  unfold known
  rw [last_keep hm (fun x hx => by obtain ⟨j, hj, rfl⟩ := upTo_num f n x hx; dsimp only; omega) (by omega) (by omega) (by omega) (fun _ => by omega) _ _ (by simp) hf, upTo_succ]
  congr 3
  omega
theorem known_look {m : Nat} (f : Nat → List UInt8) (n j : Nat) (hn : n ≤ 1000) (hj : j < n) : (known m f n).look j [UInt8.ofNat j] = if n - m ≤ j then (f j, 0) else ([], 13) := by
  unfold known
  by_cases h : n - m ≤ j
  · rw [if_pos h]
    have := last_known (m := m) (st := true) (la := (n : Int) - 1) (upTo_get f hj) (by rw [upTo_len]; exact h) (fun x hx hxe => by
      obtain ⟨k, hk, rfl⟩ := upTo_num f n x hx
      dsimp only at hxe
      obtain rfl : k = j := by omega
      rfl) (by dsimp only; omega) (by dsimp only; omega) [UInt8.ofNat j]
    dsimp only at this
    rw [this, if_pos rfl]
  · rw [if_neg h]
    refine last_stale (fun x hx => ?_) (by omega) (by omega) (by omega) _
    rw [List.mem_iff_getElem?] at hx
    obtain ⟨k, hk⟩ := hx
    rw [List.getElem?_drop, upTo_len] at hk
    by_cases hlt : n - m + k < n
    · rw [upTo_get f hlt] at hk
      injection hk with hk
      rw [← hk]
      dsimp only
      omega
    · rw [List.getElem?_eq_none (by rw [upTo_len]; omega)] at hk
      cases hk
theorem known_far {m : Nat} (f : Nat → List UInt8) (n : Nat) (z : Int) (q : List UInt8) (hz0 : (n : Int) ≤ z) (hz1 : z ≤ 4611686018427387904) : (known m f n).look z q = ([], if z = n then 7 else 15) := by
  unfold known
  rw [last_miss (fun x hx => by obtain ⟨j, hj, rfl⟩ := upTo_num f n x hx; dsimp only; omega) (by omega) hz1 (by omega)]
  congr 1
  by_cases h : z = n
  · rw [if_pos h, if_neg (by rintro ⟨_, h2⟩; omega)]
  · rw [if_neg h, if_pos ⟨rfl, by omega⟩]
end Go.Proofs.Ytjjmhmbmjpedkaa
