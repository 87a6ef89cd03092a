/- Few parts. -/
import Derived.Test.YtjjmhmbmjpedkaaCrcAll
import Derived.Test.YtjjmhmbmjpedkaaLibRegion
namespace Go.Proofs.Ytjjmhmbmjpedkaa
open Go.RowKit
theorem Try.infoBytes : (Try.prog.info? 30).map (fun i => (i.zero, i.size, i.bytes)) = some (some (.slice none 0 0), 1, 24) := by kernel_rfl
/-- What 'Few' comes to. -/
def few (ps : List (List UInt8)) (most size : Nat) : List (List UInt8) := (ps.take most).map (·.take size)
/-- Rows that lie in memory from 'base' on, each of its own make. -/
theorem few_len (ps : List (List UInt8)) (most size k : Nat) (h : k ≤ ps.length) (h2 : k ≤ most) : (few (ps.take k) most size).length = k := by
  unfold few; simp; omega
theorem few_snoc (ps : List (List UInt8)) (most size k : Nat) (h : k < ps.length) (h2 : k < most) : few (ps.take (k + 1)) most size = few (ps.take k) most size ++ [ps[k].take size] := by
  unfold few
  rw [List.take_take, List.take_take, Nat.min_eq_right (by omega), Nat.min_eq_right (by omega), List.take_succ_eq_append_getElem h, List.map_append]; rfl
/-- What 'Few' hands back, as parts. -/
theorem parts_of {w : World} {base : Nat} {t7 : Value} {ps : List (List UInt8)} {vs : List (Option Addr × Nat)} (hl : vs.length = ps.length) (ho : Own w base 30 1 t7 ps.length ((vs.zip ps).map fun (v, p) => .slice v.1 p.length v.2))
    (hr : ∀ v p, (v, p) ∈ vs.zip ps → Own w base 5 1 (.slice v.1 p.length v.2) p.length (p.map bV)) : ∃ a c, t7 = .slice a ps.length c ∧ PartsAt w a ps := by
  obtain ⟨a, c, rfl, hrow, _⟩ := ho.row1
  exact ⟨a, c, rfl, vs, hrow, hl, fun v p hm => ⟨(hr v p hm).row, (hr v p hm).cap⟩⟩
end Go.Proofs.Ytjjmhmbmjpedkaa
