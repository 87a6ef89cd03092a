/- All parts behind each other, as a string; few parts. -/
import Derived.Test.YtjjmhmbmjpedkaaCrcMore
import Derived.Test.YtjjmhmbmjpedkaaLibOwn
namespace Go.Proofs.Ytjjmhmbmjpedkaa
open Go.RowKit
theorem Try.infoU8 : (Try.prog.info? 5).map (fun i => (i.zero, i.size, i.bytes)) = some (some (.int .u8 0), 1, 1) := by kernel_rfl
theorem take_flat (ps : List (List UInt8)) (k : Nat) (h : k < ps.length) : (ps.take (k + 1)).flatten = (ps.take k).flatten ++ ps[k] := by
  rw [List.take_succ_eq_append_getElem h, List.flatten_append]; simp
theorem take_flat_le (ps : List (List UInt8)) (k : Nat) : (ps.take k).flatten.length ≤ ps.flatten.length := by
  conv => rhs; rw [← List.take_append_drop k ps]
  rw [List.flatten_append, List.length_append]; omega
end Go.Proofs.Ytjjmhmbmjpedkaa
