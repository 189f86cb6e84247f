/- NotesFollow: its walk in the real world. -/
import Derived.Test.YtjieepgapjbjlaaLF
import Derived.Test.YtjieepgapjbjlaaL1
namespace Go.Proofs.Ytjieepgapjbjlaa.G
open Go.Gv Go.Deep Go.RowKit
set_option linter.unusedVariables false
theorem follows_walk {W : World} {A : Option Addr} {k c : Nat} {turns : List Turn} {n f t : Int} (hs : SlA kTurn [] (GH.old W) A k c turns) :
    Calls Try.prog 5 #[.int .i64 n, .int .i64 f, .int .i64 t, .slice A k c] W fun e w' => e = .returned (.bool true) ∧ Below W.heap.size W w' :=
  law_of (follows_ok hs fun _ => rfl)
end Go.Proofs.Ytjieepgapjbjlaa.G
