/- NotesSweeps: its walk in the real world. -/
import Derived.Test.YtjieepgapjbjlaaLW
import Derived.Test.YtjieepgapjbjlaaL1
namespace Go.Proofs.Ytjieepgapjbjlaa.G
open Go.Gv Go.Deep Go.RowKit
set_option linter.unusedVariables false
theorem sweeps_walk {W : World} {A : Option Addr} {n c : Nat} {ranges : List Int} {A1 : Option Addr} {n1 c1 : Nat} {shut : List Int} {A2 : Option Addr} {n2 c2 : Nat} {now : List Turn} (hr : SlA kInt [] (GH.old W) A n c ranges) (hs : SlA kInt [] (GH.old W) A1 n1 c1 shut) (hn : SlA kTurn [] (GH.old W) A2 n2 c2 now) (hb : shut.length * 8 ≤ reachBytes) :
    Calls Try.prog 9 #[.slice A n c, .slice A1 n1 c1, .slice A2 n2 c2] W fun e w' => e = .returned (.bool true) ∧ Below W.heap.size W w' :=
  law_of (sweeps_ok hr hs hn (by have := reachBytes_lt; omega) fun _ => rfl)
end Go.Proofs.Ytjieepgapjbjlaa.G
