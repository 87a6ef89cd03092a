/- The four laws of crc, walked. -/
import Derived.Test.YtjjmhmbmjpedkaaCrcSums2
import Derived.Test.YtjjmhmbmjpedkaaCrcRef
import Derived.Test.YtjjmhmbmjpedkaaCrcFew
namespace Go.Proofs.Ytjjmhmbmjpedkaa
open Go.RowKit
theorem few_length (ps : List (List UInt8)) (most size : Nat) : (few ps most size).length ≤ most := by unfold few; simp; omega
theorem few_flat (ps : List (List UInt8)) (most size : Nat) : (few ps most size).flatten.length ≤ most * size := by
  unfold few
  have h : ∀ l : List (List UInt8), ((l.map (·.take size)).flatten).length ≤ l.length * size := by
    intro l
    induction l with
    | nil => simp
    | cons x l ih => simp only [List.map_cons, List.flatten_cons, List.length_append, List.length_take, List.length_cons, Nat.add_mul]; omega
  refine Nat.le_trans (h _) (Nat.mul_le_mul_right _ ?_)
  simp; omega
theorem slice_row {w : World} {a : Option Addr} {bs : List UInt8} (h : RowAt w a (bs.map bV)) (n : Nat) : RowAt w a ((bs.take n).map bV) := by rw [List.map_take]; exact h.take n
theorem parts1 {w : World} {a : Option Addr} {c : Nat} {xs : List UInt8} (E : TypeId) (hr : RowAt w a (xs.map bV)) (h1 : xs.length ≤ c) (h2 : xs.length ≤ 500) : PartsAt (w.alloc (.cells #[.slice a xs.length c] E)) (some ⟨w.heap.size, 0, none⟩) [xs] :=
  .ofWhole [(a, c)] _ (al_new rfl) rfl (zip1 ⟨hr.alloc _, h1, by unfold maxLen; omega⟩)
theorem parts2 {w : World} {a b : Option Addr} {c d : Nat} {xs ys : List UInt8} (E : TypeId) (hr : RowAt w a (xs.map bV)) (h1 : xs.length ≤ c) (h2 : xs.length ≤ 500) (hs : RowAt w b (ys.map bV)) (k1 : ys.length ≤ d) (k2 : ys.length ≤ 500) :
    PartsAt (w.alloc (.cells #[.slice a xs.length c, .slice b ys.length d] E)) (some ⟨w.heap.size, 0, none⟩) [xs, ys] :=
  .ofWhole [(a, c), (b, d)] _ (al_new rfl) rfl (zip2 ⟨hr.alloc _, h1, by unfold maxLen; omega⟩ ⟨hs.alloc _, k1, by unfold maxLen; omega⟩)
theorem len_one : ([([] : List UInt8)]).length ≤ maxLen := by decide
theorem len1 (xs : List UInt8) : [xs].length ≤ maxLen := by unfold maxLen; simp
theorem len2 (xs ys : List UInt8) : [xs, ys].length ≤ maxLen := by unfold maxLen; simp
theorem crcP_one (n : Nat) (a : List UInt8) : crcP n [a] = more n a := rfl
theorem crcP_two (n : Nat) (a b : List UInt8) : crcP n [a, b] = more (more n a) b := rfl
end Go.Proofs.Ytjjmhmbmjpedkaa
