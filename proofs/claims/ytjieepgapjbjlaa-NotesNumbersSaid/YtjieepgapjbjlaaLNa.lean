/- NotesNumbers: its walk in the real world. -/
import Derived.Test.YtjieepgapjbjlaaLN
import Derived.Test.YtjieepgapjbjlaaL1
namespace Go.Proofs.Ytjieepgapjbjlaa.G
open Go.Gv Go.Deep Go.RowKit
set_option linter.unusedVariables false
theorem numbers_walk {W : World} {A : Option Addr} {k c : Nat} {sw : List Bool} (hs : SlA kBool [] (GH.old W) A k c sw) :
    Calls Try.prog 7 #[.slice A k c] W fun e w' => e = .returned (.bool true) ∧ Below W.heap.size W w' :=
  law_of (numbers_ok hs fun _ => rfl)
end Go.Proofs.Ytjieepgapjbjlaa.G
