/- How many bits: by the shelf's contract. -/
import Derived.Shelf.Lay
import Derived.Shelf.LaySoft
import Derived.Shelf.Small.Bits
import Derived.Lib.ItoaNum
import Derived.Test.YtlgdapgocbmcfaaProg
namespace Go.Proofs.Ytlgdapgocbmcfaa
open Go.Shelf
shelf_lay Lays.n129 Nm 129 at Try as Try.lays129
theorem Len64_any (x : Int) (w : World) (h0 : 0 ≤ x) (h1 : x ≤ 18446744073709551615) :
    Calls Try.prog 77 #[.int .u64 x] w fun e w' => e = .returned (.int .i64 (Lib.bitLen x.toNat)) ∧ w' = w := Any.bits_Len64 Try.lays129 x w h0 h1
end Go.Proofs.Ytlgdapgocbmcfaa
