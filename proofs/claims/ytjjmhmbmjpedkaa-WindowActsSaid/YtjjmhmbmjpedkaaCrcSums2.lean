/- The known text has its sum. -/
import Derived.Test.YtjjmhmbmjpedkaaCrcMore
namespace Go.Proofs.Ytjjmhmbmjpedkaa
open Go.RowKit
theorem known_sum : crcP 0 [[49, 50, 51, 52], [53, 54, 55, 56, 57]] = 3421780262 := by decide +kernel
end Go.Proofs.Ytjjmhmbmjpedkaa
