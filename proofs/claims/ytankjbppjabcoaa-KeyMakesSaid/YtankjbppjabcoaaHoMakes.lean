import Derived.Test.YtankjbppjabcoaaFrame
import Derived.Test.YtankjbppjabcoaaWkF
namespace Go.Proofs.Ytankjbppjabcoaa
open Go.RowKit Ky
theorem keyMakes_hole (k : K) (w : World) (hs : k.name.length ≤ 140737488351232) (_ : I64 k.ino) (_ : I64 k.index) :
    Calls Try.prog 3 #[kv k] w fun e w' => e = .returned (.bool true) ∧ Below w.heap.size w w' := keyMakes_walk k w hs
end Go.Proofs.Ytankjbppjabcoaa
