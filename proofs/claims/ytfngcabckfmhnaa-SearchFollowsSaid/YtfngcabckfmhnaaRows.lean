/-
  No cell of these rows narrows 'for every input' (looked for: loops, veiled, ifaces, maps, wideKeys, modest, calm, conditions, laid).
  DERIVED. THE GIVEN ROWS OF THIS SEAT. 8 by the template 'for every input the law returns true; each argument reads behind the call as it read before'; 0 by the template 'total and deterministic' (their statements: YtfngcabckfmhnaaTotals.lean).
  GIVEN WITH THE SEED: the statements are not yours to turn. If you find one false, say at which input.
  Laid BY PROGRAM, IN A SANDBOX (cutbox-rows.mjs): the forced cells as the released guide's own fill.sh prints them over the translation 10e7462fc08f1a2c… (all of the seat's roots in one cut). By AI agents, Wed Nov 11 2026. No macro, syntax, notation, axiom, sorry.
-/
import Derived.Test.YtfngcabckfmhnaaChecked
import GoSem.Claim
import GoSem.ClaimJoined
import GoSem.ClaimMapViews
import Derived.JoinedTies
import Derived.KernelRfl
namespace Go.Proofs.Ytfngcabckfmhnaa
/- THE CELL 'sum', in the pinned program and in every row, IS THE sha256 OF THE DUMP (.gsa) THAT YtfngcabckfmhnaaProg.lean LOADS. Nothing in Lean hashes anything: it is a label: what it is worth is what the hold of that sum in a sandbox is worth. -/
noncomputable def Try.pinned : Pinned := { name := "ytfngcabckfmhnaa", sum := "10e7462fc08f1a2c7b8bb5a354315baeea003502b6bb6dd8a047cfe9a6639495", checked := Try.checked }
namespace Rows
def none {H : Type} : Left H := { results := [], args := [] }

/-- 'jotterlaw24.SearchNext': WHATEVER THE INPUT: true; the input reads as it did. -/
def searchNextSpec : ChangeSpec := { name := "searchNext", fn := fun _ => fun
  | [d1, d2, d3] => { results := [.lit (.bool true)], args := [d1, d2, d3] }
  | _ => none }
def searchNextRow : OpenClaim := { program := "ytfngcabckfmhnaa", sum := "10e7462fc08f1a2c7b8bb5a354315baeea003502b6bb6dd8a047cfe9a6639495", func := "jotter/jotterlaw24.SearchNext", spec := "searchNext", apart := false }
def SearchNextSaid : Prop := searchNextRow.holds Try.pinned (OpenSpec.ofChange searchNextSpec)

/-- ITS FALSE NEIGHBOUR: 'it returns false'. Refute it at one input. -/
def searchNextWrong : ChangeSpec := { name := "searchNext", fn := fun _ => fun
  | [d1, d2, d3] => { results := [.lit (.bool false)], args := [d1, d2, d3] }
  | _ => none }
def SearchNextWrongFalsely : Prop := searchNextRow.holds Try.pinned (OpenSpec.ofChange searchNextWrong)

/-- 'jotterlaw24.SearchBack': WHATEVER THE INPUT: true; the input reads as it did. -/
def searchBackSpec : ChangeSpec := { name := "searchBack", fn := fun _ => fun
  | [d1, d2, d3] => { results := [.lit (.bool true)], args := [d1, d2, d3] }
  | _ => none }
def searchBackRow : OpenClaim := { program := "ytfngcabckfmhnaa", sum := "10e7462fc08f1a2c7b8bb5a354315baeea003502b6bb6dd8a047cfe9a6639495", func := "jotter/jotterlaw24.SearchBack", spec := "searchBack", unfollowed := true, recurses := true, apart := false }
def SearchBackSaid : Prop := searchBackRow.holds Try.pinned (OpenSpec.ofChange searchBackSpec)

/-- ITS FALSE NEIGHBOUR: 'it returns false'. Refute it at one input. -/
def searchBackWrong : ChangeSpec := { name := "searchBack", fn := fun _ => fun
  | [d1, d2, d3] => { results := [.lit (.bool false)], args := [d1, d2, d3] }
  | _ => none }
def SearchBackWrongFalsely : Prop := searchBackRow.holds Try.pinned (OpenSpec.ofChange searchBackWrong)

/-- 'jotterlaw24.SearchSwaps': WHATEVER THE INPUT: true; the input reads as it did. -/
def searchSwapsSpec : ChangeSpec := { name := "searchSwaps", fn := fun _ => fun
  | [d1, d2, d3] => { results := [.lit (.bool true)], args := [d1, d2, d3] }
  | _ => none }
def searchSwapsRow : OpenClaim := { program := "ytfngcabckfmhnaa", sum := "10e7462fc08f1a2c7b8bb5a354315baeea003502b6bb6dd8a047cfe9a6639495", func := "jotter/jotterlaw24.SearchSwaps", spec := "searchSwaps", unfollowed := true, recurses := true, apart := false }
def SearchSwapsSaid : Prop := searchSwapsRow.holds Try.pinned (OpenSpec.ofChange searchSwapsSpec)

/-- ITS FALSE NEIGHBOUR: 'it returns false'. Refute it at one input. -/
def searchSwapsWrong : ChangeSpec := { name := "searchSwaps", fn := fun _ => fun
  | [d1, d2, d3] => { results := [.lit (.bool false)], args := [d1, d2, d3] }
  | _ => none }
def SearchSwapsWrongFalsely : Prop := searchSwapsRow.holds Try.pinned (OpenSpec.ofChange searchSwapsWrong)

/-- 'jotterlaw24.SearchRefuses': WHATEVER THE INPUT: true; the input reads as it did. -/
def searchRefusesSpec : ChangeSpec := { name := "searchRefuses", fn := fun _ => fun
  | [d1, d2] => { results := [.lit (.bool true)], args := [d1, d2] }
  | _ => none }
def searchRefusesRow : OpenClaim := { program := "ytfngcabckfmhnaa", sum := "10e7462fc08f1a2c7b8bb5a354315baeea003502b6bb6dd8a047cfe9a6639495", func := "jotter/jotterlaw24.SearchRefuses", spec := "searchRefuses", unfollowed := true, recurses := true, apart := false }
def SearchRefusesSaid : Prop := searchRefusesRow.holds Try.pinned (OpenSpec.ofChange searchRefusesSpec)

/-- ITS FALSE NEIGHBOUR: 'it returns false'. Refute it at one input. -/
def searchRefusesWrong : ChangeSpec := { name := "searchRefuses", fn := fun _ => fun
  | [d1, d2] => { results := [.lit (.bool false)], args := [d1, d2] }
  | _ => none }
def SearchRefusesWrongFalsely : Prop := searchRefusesRow.holds Try.pinned (OpenSpec.ofChange searchRefusesWrong)

/-- 'jotterlaw24.SearchWords': WHATEVER THE INPUT: true; the input reads as it did. -/
def searchWordsSpec : ChangeSpec := { name := "searchWords", fn := fun _ => fun
  | [d] => { results := [.lit (.bool true)], args := [d] }
  | _ => none }
def searchWordsRow : OpenClaim := { program := "ytfngcabckfmhnaa", sum := "10e7462fc08f1a2c7b8bb5a354315baeea003502b6bb6dd8a047cfe9a6639495", func := "jotter/jotterlaw24.SearchWords", spec := "searchWords", recurses := true, apart := false }
def SearchWordsSaid : Prop := searchWordsRow.holds Try.pinned (OpenSpec.ofChange searchWordsSpec)

/-- ITS FALSE NEIGHBOUR: 'it returns false'. Refute it at one input. -/
def searchWordsWrong : ChangeSpec := { name := "searchWords", fn := fun _ => fun
  | [d] => { results := [.lit (.bool false)], args := [d] }
  | _ => none }
def SearchWordsWrongFalsely : Prop := searchWordsRow.holds Try.pinned (OpenSpec.ofChange searchWordsWrong)

/-- 'jotterlaw24.SearchFollows': WHATEVER THE INPUT: true; the input reads as it did. -/
def searchFollowsSpec : ChangeSpec := { name := "searchFollows", fn := fun _ => fun
  | [d1, d2, d3] => { results := [.lit (.bool true)], args := [d1, d2, d3] }
  | _ => none }
def searchFollowsRow : OpenClaim := { program := "ytfngcabckfmhnaa", sum := "10e7462fc08f1a2c7b8bb5a354315baeea003502b6bb6dd8a047cfe9a6639495", func := "jotter/jotterlaw24.SearchFollows", spec := "searchFollows", recurses := true, apart := false }
def SearchFollowsSaid : Prop := searchFollowsRow.holds Try.pinned (OpenSpec.ofChange searchFollowsSpec)

/-- ITS FALSE NEIGHBOUR: 'it returns false'. Refute it at one input. -/
def searchFollowsWrong : ChangeSpec := { name := "searchFollows", fn := fun _ => fun
  | [d1, d2, d3] => { results := [.lit (.bool false)], args := [d1, d2, d3] }
  | _ => none }
def SearchFollowsWrongFalsely : Prop := searchFollowsRow.holds Try.pinned (OpenSpec.ofChange searchFollowsWrong)

/-- 'jotterlaw24.SearchPlays': WHATEVER THE INPUT: true; the input reads as it did. -/
def searchPlaysSpec : ChangeSpec := { name := "searchPlays", fn := fun _ => fun
  | [d1, d2, d3] => { results := [.lit (.bool true)], args := [d1, d2, d3] }
  | _ => none }
def searchPlaysRow : OpenClaim := { program := "ytfngcabckfmhnaa", sum := "10e7462fc08f1a2c7b8bb5a354315baeea003502b6bb6dd8a047cfe9a6639495", func := "jotter/jotterlaw24.SearchPlays", spec := "searchPlays", unfollowed := true, recurses := true, apart := false }
def SearchPlaysSaid : Prop := searchPlaysRow.holds Try.pinned (OpenSpec.ofChange searchPlaysSpec)

/-- ITS FALSE NEIGHBOUR: 'it returns false'. Refute it at one input. -/
def searchPlaysWrong : ChangeSpec := { name := "searchPlays", fn := fun _ => fun
  | [d1, d2, d3] => { results := [.lit (.bool false)], args := [d1, d2, d3] }
  | _ => none }
def SearchPlaysWrongFalsely : Prop := searchPlaysRow.holds Try.pinned (OpenSpec.ofChange searchPlaysWrong)

/-- 'jotterlaw24.SearchFresh': WHATEVER THE INPUT: true; the input reads as it did. -/
def searchFreshSpec : ChangeSpec := { name := "searchFresh", fn := fun _ => fun
  | [d1, d2] => { results := [.lit (.bool true)], args := [d1, d2] }
  | _ => none }
def searchFreshRow : OpenClaim := { program := "ytfngcabckfmhnaa", sum := "10e7462fc08f1a2c7b8bb5a354315baeea003502b6bb6dd8a047cfe9a6639495", func := "jotter/jotterlaw24.SearchFresh", spec := "searchFresh", unfollowed := true, recurses := true, apart := false }
def SearchFreshSaid : Prop := searchFreshRow.holds Try.pinned (OpenSpec.ofChange searchFreshSpec)

/-- ITS FALSE NEIGHBOUR: 'it returns false'. Refute it at one input. -/
def searchFreshWrong : ChangeSpec := { name := "searchFresh", fn := fun _ => fun
  | [d1, d2] => { results := [.lit (.bool false)], args := [d1, d2] }
  | _ => none }
def SearchFreshWrongFalsely : Prop := searchFreshRow.holds Try.pinned (OpenSpec.ofChange searchFreshWrong)

/- THE SECOND FORM. 'bulk': how many values and letters a reading holds, each counted each time it is reached (what is shared counts as often as it is met; a slice's spare places count too). A statement '..UptoSaid' is the law's where the arguments, and the package variables that the reading takes, are together of bulk at most 1048576: NARROWER than '..Said'. Prove '..Said' where nothing that the law and all that it calls make is longer than what came in: it says more and counts as full. Else prove '..UptoSaid'. A law counts once. -/
mutual
def uptoBulk {H : Type} : DataW H → Nat
  | .lit (.string bytes) => bytes.length + 1
  | .lit _ => 1
  | .nil => 1
  | .ptr d => uptoBulk d + 1
  | .slice elems spare => uptoBulkAll elems + uptoBulkAll spare + 1
  | .agg parts => uptoBulkAll parts + 1
  | .iface _ d => uptoBulk d + 1
  | .map entries => uptoBulkEntries entries + 1
  | .held _ => 1
def uptoBulkAll {H : Type} : List (DataW H) → Nat
  | [] => 0
  | d :: r => uptoBulk d + uptoBulkAll r
def uptoBulkEntries {H : Type} : List (Lit × DataW H) → Nat
  | [] => 0
  | x :: r => uptoBulkEntry x + uptoBulkEntries r
def uptoBulkEntry {H : Type} : Lit × DataW H → Nat
  | (.string bytes, d) => bytes.length + uptoBulk d + 1
  | (_, d) => uptoBulk d + 1
 end
def uptoSmall : (H : Type) → List (DataW H) → Bool := fun _ ds => decide (uptoBulkAll ds ≤ 1048576)
def OpenSpec.upto (s : _root_.Go.ChangeSpec) : _root_.Go.OpenSpec := { _root_.Go.OpenSpec.ofChange s with cond := some uptoSmall }

/-- 'jotterlaw24.SearchNext', WHERE WHAT IT READS IS OF BULK AT MOST 1048576: true; the input reads as it did. -/
def searchNextUptoRow : OpenClaim := { program := "ytfngcabckfmhnaa", sum := "10e7462fc08f1a2c7b8bb5a354315baeea003502b6bb6dd8a047cfe9a6639495", func := "jotter/jotterlaw24.SearchNext", spec := "searchNext", apart := false, narrowed := true }
def SearchNextUptoSaid : Prop := searchNextUptoRow.holds Try.pinned (OpenSpec.upto searchNextSpec)

/-- 'jotterlaw24.SearchBack', WHERE WHAT IT READS IS OF BULK AT MOST 1048576: true; the input reads as it did. -/
def searchBackUptoRow : OpenClaim := { program := "ytfngcabckfmhnaa", sum := "10e7462fc08f1a2c7b8bb5a354315baeea003502b6bb6dd8a047cfe9a6639495", func := "jotter/jotterlaw24.SearchBack", spec := "searchBack", unfollowed := true, recurses := true, apart := false, narrowed := true }
def SearchBackUptoSaid : Prop := searchBackUptoRow.holds Try.pinned (OpenSpec.upto searchBackSpec)

/-- 'jotterlaw24.SearchSwaps', WHERE WHAT IT READS IS OF BULK AT MOST 1048576: true; the input reads as it did. -/
def searchSwapsUptoRow : OpenClaim := { program := "ytfngcabckfmhnaa", sum := "10e7462fc08f1a2c7b8bb5a354315baeea003502b6bb6dd8a047cfe9a6639495", func := "jotter/jotterlaw24.SearchSwaps", spec := "searchSwaps", unfollowed := true, recurses := true, apart := false, narrowed := true }
def SearchSwapsUptoSaid : Prop := searchSwapsUptoRow.holds Try.pinned (OpenSpec.upto searchSwapsSpec)

/-- 'jotterlaw24.SearchRefuses', WHERE WHAT IT READS IS OF BULK AT MOST 1048576: true; the input reads as it did. -/
def searchRefusesUptoRow : OpenClaim := { program := "ytfngcabckfmhnaa", sum := "10e7462fc08f1a2c7b8bb5a354315baeea003502b6bb6dd8a047cfe9a6639495", func := "jotter/jotterlaw24.SearchRefuses", spec := "searchRefuses", unfollowed := true, recurses := true, apart := false, narrowed := true }
def SearchRefusesUptoSaid : Prop := searchRefusesUptoRow.holds Try.pinned (OpenSpec.upto searchRefusesSpec)

/-- 'jotterlaw24.SearchWords', WHERE WHAT IT READS IS OF BULK AT MOST 1048576: true; the input reads as it did. -/
def searchWordsUptoRow : OpenClaim := { program := "ytfngcabckfmhnaa", sum := "10e7462fc08f1a2c7b8bb5a354315baeea003502b6bb6dd8a047cfe9a6639495", func := "jotter/jotterlaw24.SearchWords", spec := "searchWords", recurses := true, apart := false, narrowed := true }
def SearchWordsUptoSaid : Prop := searchWordsUptoRow.holds Try.pinned (OpenSpec.upto searchWordsSpec)

/-- 'jotterlaw24.SearchFollows', WHERE WHAT IT READS IS OF BULK AT MOST 1048576: true; the input reads as it did. -/
def searchFollowsUptoRow : OpenClaim := { program := "ytfngcabckfmhnaa", sum := "10e7462fc08f1a2c7b8bb5a354315baeea003502b6bb6dd8a047cfe9a6639495", func := "jotter/jotterlaw24.SearchFollows", spec := "searchFollows", recurses := true, apart := false, narrowed := true }
def SearchFollowsUptoSaid : Prop := searchFollowsUptoRow.holds Try.pinned (OpenSpec.upto searchFollowsSpec)

/-- 'jotterlaw24.SearchPlays', WHERE WHAT IT READS IS OF BULK AT MOST 1048576: true; the input reads as it did. -/
def searchPlaysUptoRow : OpenClaim := { program := "ytfngcabckfmhnaa", sum := "10e7462fc08f1a2c7b8bb5a354315baeea003502b6bb6dd8a047cfe9a6639495", func := "jotter/jotterlaw24.SearchPlays", spec := "searchPlays", unfollowed := true, recurses := true, apart := false, narrowed := true }
def SearchPlaysUptoSaid : Prop := searchPlaysUptoRow.holds Try.pinned (OpenSpec.upto searchPlaysSpec)

/-- 'jotterlaw24.SearchFresh', WHERE WHAT IT READS IS OF BULK AT MOST 1048576: true; the input reads as it did. -/
def searchFreshUptoRow : OpenClaim := { program := "ytfngcabckfmhnaa", sum := "10e7462fc08f1a2c7b8bb5a354315baeea003502b6bb6dd8a047cfe9a6639495", func := "jotter/jotterlaw24.SearchFresh", spec := "searchFresh", unfollowed := true, recurses := true, apart := false, narrowed := true }
def SearchFreshUptoSaid : Prop := searchFreshUptoRow.holds Try.pinned (OpenSpec.upto searchFreshSpec)

end Rows
end Go.Proofs.Ytfngcabckfmhnaa
