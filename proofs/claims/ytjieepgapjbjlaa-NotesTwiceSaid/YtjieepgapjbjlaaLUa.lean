/- NotesTwice: its walk in the real world. -/
import Derived.Test.YtjieepgapjbjlaaLU
import Derived.Test.YtjieepgapjbjlaaL1
namespace Go.Proofs.Ytjieepgapjbjlaa.G
open Go.Gv Go.Deep Go.RowKit
set_option linter.unusedVariables false
theorem twice_walk {W : World} {A : Option Addr} {k c : Nat} {turns : List Turn} {A' : Option Addr} {k' c' : Nat} {more : List Turn} {n f t : Int} (hs : SlA kTurn [] (GH.old W) A k c turns) (hm : SlA kTurn [] (GH.old W) A' k' c' more) :
    Calls Try.prog 6 #[.int .i64 n, .int .i64 f, .int .i64 t, .slice A k c, .slice A' k' c'] W fun e w' => e = .returned (.bool true) ∧ Below W.heap.size W w' :=
  law_of (twice_ok hs hm fun _ => rfl)
end Go.Proofs.Ytjieepgapjbjlaa.G
