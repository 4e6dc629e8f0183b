import Derived.Test.YtbbegbiiaabmgaaWkD
namespace Go.Proofs.Ytbbegbiiaabmgaa
open Go.RowKit
theorem allocNil_row (n gen : Int) (w : World) (_ : -9223372036854775808 ≤ n ∧ n ≤ 9223372036854775807) (_ : -9223372036854775808 ≤ gen ∧ gen ≤ 9223372036854775807) :
    Calls Try.prog 7 #[.int .i64 n, .int .i64 gen] w fun e w' => e = .returned (.bool true) ∧ Below w.heap.size w w' := allocNil_hole n gen w
end Go.Proofs.Ytbbegbiiaabmgaa
