/-
  No cell of these rows narrows 'for every input' (looked for: loops, veiled, ifaces, maps, wideKeys, modest, calm, conditions, laid).
  DERIVED. THE GIVEN ROWS OF THIS SEAT. 7 by the template 'for every input the law returns true; each argument reads behind the call as it read before'; 0 by the template 'total and deterministic' (their statements: YtjieepgapjbjlaaTotals.lean).
  GIVEN WITH THE SEED: the statements are not yours to turn. If you find one false, say at which input.
  Laid BY PROGRAM, IN A SANDBOX (cutbox-rows.mjs): the forced cells as the released guide's own fill.sh prints them over the translation 2d7b20c66e4979b6… (all of the seat's roots in one cut). By AI agents, Wed Nov 11 2026. No macro, syntax, notation, axiom, sorry.
-/
import Derived.Test.YtjieepgapjbjlaaChecked
import GoSem.Claim
import GoSem.ClaimJoined
import GoSem.ClaimMapViews
import Derived.JoinedTies
import Derived.KernelRfl
namespace Go.Proofs.Ytjieepgapjbjlaa
/- THE CELL 'sum', in the pinned program and in every row, IS THE sha256 OF THE DUMP (.gsa) THAT YtjieepgapjbjlaaProg.lean LOADS. Nothing in Lean hashes anything: it is a label: what it is worth is what the hold of that sum in a sandbox is worth. -/
noncomputable def Try.pinned : Pinned := { name := "ytjieepgapjbjlaa", sum := "2d7b20c66e4979b6f2664948888446de1d4dbf2c75d12e22e985c440c14306f6", checked := Try.checked }
namespace Rows
def none {H : Type} : Left H := { results := [], args := [] }

/-- 'jotterlaw23.NotesNames': WHATEVER THE INPUT: true; the input reads as it did. -/
def notesNamesSpec : ChangeSpec := { name := "notesNames", fn := fun _ => fun
  | [] => { results := [.lit (.bool true)], args := [] }
  | _ => none }
def notesNamesRow : OpenClaim := { program := "ytjieepgapjbjlaa", sum := "2d7b20c66e4979b6f2664948888446de1d4dbf2c75d12e22e985c440c14306f6", func := "jotter/jotterlaw23.NotesNames", spec := "notesNames", apart := false }
def NotesNamesSaid : Prop := notesNamesRow.holds Try.pinned (OpenSpec.ofChange notesNamesSpec)

/-- ITS FALSE NEIGHBOUR: 'it returns false'. Refute it at one input. -/
def notesNamesWrong : ChangeSpec := { name := "notesNames", fn := fun _ => fun
  | [] => { results := [.lit (.bool false)], args := [] }
  | _ => none }
def NotesNamesWrongFalsely : Prop := notesNamesRow.holds Try.pinned (OpenSpec.ofChange notesNamesWrong)

/-- 'jotterlaw23.NotesTalks': WHATEVER THE INPUT: true; the input reads as it did. -/
def notesTalksSpec : ChangeSpec := { name := "notesTalks", fn := fun _ => fun
  | [d1, d2] => { results := [.lit (.bool true)], args := [d1, d2] }
  | _ => none }
def notesTalksRow : OpenClaim := { program := "ytjieepgapjbjlaa", sum := "2d7b20c66e4979b6f2664948888446de1d4dbf2c75d12e22e985c440c14306f6", func := "jotter/jotterlaw23.NotesTalks", spec := "notesTalks", apart := false }
def NotesTalksSaid : Prop := notesTalksRow.holds Try.pinned (OpenSpec.ofChange notesTalksSpec)

/-- ITS FALSE NEIGHBOUR: 'it returns false'. Refute it at one input. -/
def notesTalksWrong : ChangeSpec := { name := "notesTalks", fn := fun _ => fun
  | [d1, d2] => { results := [.lit (.bool false)], args := [d1, d2] }
  | _ => none }
def NotesTalksWrongFalsely : Prop := notesTalksRow.holds Try.pinned (OpenSpec.ofChange notesTalksWrong)

/-- 'jotterlaw23.NotesFollow': WHATEVER THE INPUT: true; the input reads as it did. -/
def notesFollowSpec : ChangeSpec := { name := "notesFollow", fn := fun _ => fun
  | [d1, d2, d3, d4] => { results := [.lit (.bool true)], args := [d1, d2, d3, d4] }
  | _ => none }
def notesFollowRow : OpenClaim := { program := "ytjieepgapjbjlaa", sum := "2d7b20c66e4979b6f2664948888446de1d4dbf2c75d12e22e985c440c14306f6", func := "jotter/jotterlaw23.NotesFollow", spec := "notesFollow", apart := false }
def NotesFollowSaid : Prop := notesFollowRow.holds Try.pinned (OpenSpec.ofChange notesFollowSpec)

/-- ITS FALSE NEIGHBOUR: 'it returns false'. Refute it at one input. -/
def notesFollowWrong : ChangeSpec := { name := "notesFollow", fn := fun _ => fun
  | [d1, d2, d3, d4] => { results := [.lit (.bool false)], args := [d1, d2, d3, d4] }
  | _ => none }
def NotesFollowWrongFalsely : Prop := notesFollowRow.holds Try.pinned (OpenSpec.ofChange notesFollowWrong)

/-- 'jotterlaw23.NotesTwice': WHATEVER THE INPUT: true; the input reads as it did. -/
def notesTwiceSpec : ChangeSpec := { name := "notesTwice", fn := fun _ => fun
  | [d1, d2, d3, d4, d5] => { results := [.lit (.bool true)], args := [d1, d2, d3, d4, d5] }
  | _ => none }
def notesTwiceRow : OpenClaim := { program := "ytjieepgapjbjlaa", sum := "2d7b20c66e4979b6f2664948888446de1d4dbf2c75d12e22e985c440c14306f6", func := "jotter/jotterlaw23.NotesTwice", spec := "notesTwice", apart := false }
def NotesTwiceSaid : Prop := notesTwiceRow.holds Try.pinned (OpenSpec.ofChange notesTwiceSpec)

/-- ITS FALSE NEIGHBOUR: 'it returns false'. Refute it at one input. -/
def notesTwiceWrong : ChangeSpec := { name := "notesTwice", fn := fun _ => fun
  | [d1, d2, d3, d4, d5] => { results := [.lit (.bool false)], args := [d1, d2, d3, d4, d5] }
  | _ => none }
def NotesTwiceWrongFalsely : Prop := notesTwiceRow.holds Try.pinned (OpenSpec.ofChange notesTwiceWrong)

/-- 'jotterlaw23.NotesNumbers': WHATEVER THE INPUT: true; the input reads as it did. -/
def notesNumbersSpec : ChangeSpec := { name := "notesNumbers", fn := fun _ => fun
  | [d] => { results := [.lit (.bool true)], args := [d] }
  | _ => none }
def notesNumbersRow : OpenClaim := { program := "ytjieepgapjbjlaa", sum := "2d7b20c66e4979b6f2664948888446de1d4dbf2c75d12e22e985c440c14306f6", func := "jotter/jotterlaw23.NotesNumbers", spec := "notesNumbers", recurses := true, apart := false }
def NotesNumbersSaid : Prop := notesNumbersRow.holds Try.pinned (OpenSpec.ofChange notesNumbersSpec)

/-- ITS FALSE NEIGHBOUR: 'it returns false'. Refute it at one input. -/
def notesNumbersWrong : ChangeSpec := { name := "notesNumbers", fn := fun _ => fun
  | [d] => { results := [.lit (.bool false)], args := [d] }
  | _ => none }
def NotesNumbersWrongFalsely : Prop := notesNumbersRow.holds Try.pinned (OpenSpec.ofChange notesNumbersWrong)

/-- 'jotterlaw23.NotesPlays': WHATEVER THE INPUT: true; the input reads as it did. -/
def notesPlaysSpec : ChangeSpec := { name := "notesPlays", fn := fun _ => fun
  | [d] => { results := [.lit (.bool true)], args := [d] }
  | _ => none }
def notesPlaysRow : OpenClaim := { program := "ytjieepgapjbjlaa", sum := "2d7b20c66e4979b6f2664948888446de1d4dbf2c75d12e22e985c440c14306f6", func := "jotter/jotterlaw23.NotesPlays", spec := "notesPlays", recurses := true, apart := false }
def NotesPlaysSaid : Prop := notesPlaysRow.holds Try.pinned (OpenSpec.ofChange notesPlaysSpec)

/-- ITS FALSE NEIGHBOUR: 'it returns false'. Refute it at one input. -/
def notesPlaysWrong : ChangeSpec := { name := "notesPlays", fn := fun _ => fun
  | [d] => { results := [.lit (.bool false)], args := [d] }
  | _ => none }
def NotesPlaysWrongFalsely : Prop := notesPlaysRow.holds Try.pinned (OpenSpec.ofChange notesPlaysWrong)

/-- 'jotterlaw23.NotesSweeps': WHATEVER THE INPUT: true; the input reads as it did. -/
def notesSweepsSpec : ChangeSpec := { name := "notesSweeps", fn := fun _ => fun
  | [d1, d2, d3] => { results := [.lit (.bool true)], args := [d1, d2, d3] }
  | _ => none }
def notesSweepsRow : OpenClaim := { program := "ytjieepgapjbjlaa", sum := "2d7b20c66e4979b6f2664948888446de1d4dbf2c75d12e22e985c440c14306f6", func := "jotter/jotterlaw23.NotesSweeps", spec := "notesSweeps", recurses := true, apart := false }
def NotesSweepsSaid : Prop := notesSweepsRow.holds Try.pinned (OpenSpec.ofChange notesSweepsSpec)

/-- ITS FALSE NEIGHBOUR: 'it returns false'. Refute it at one input. -/
def notesSweepsWrong : ChangeSpec := { name := "notesSweeps", fn := fun _ => fun
  | [d1, d2, d3] => { results := [.lit (.bool false)], args := [d1, d2, d3] }
  | _ => none }
def NotesSweepsWrongFalsely : Prop := notesSweepsRow.holds Try.pinned (OpenSpec.ofChange notesSweepsWrong)

/- THE SECOND FORM. 'bulk': how many values and letters a reading holds, each counted each time it is reached (what is shared counts as often as it is met; a slice's spare places count too). A statement '..UptoSaid' is the law's where the arguments, and the package variables that the reading takes, are together of bulk at most 1048576: NARROWER than '..Said'. Prove '..Said' where nothing that the law and all that it calls make is longer than what came in: it says more and counts as full. Else prove '..UptoSaid'. A law counts once. -/
mutual
def uptoBulk {H : Type} : DataW H → Nat
  | .lit (.string bytes) => bytes.length + 1
  | .lit _ => 1
  | .nil => 1
  | .ptr d => uptoBulk d + 1
  | .slice elems spare => uptoBulkAll elems + uptoBulkAll spare + 1
  | .agg parts => uptoBulkAll parts + 1
  | .iface _ d => uptoBulk d + 1
  | .map entries => uptoBulkEntries entries + 1
  | .held _ => 1
def uptoBulkAll {H : Type} : List (DataW H) → Nat
  | [] => 0
  | d :: r => uptoBulk d + uptoBulkAll r
def uptoBulkEntries {H : Type} : List (Lit × DataW H) → Nat
  | [] => 0
  | x :: r => uptoBulkEntry x + uptoBulkEntries r
def uptoBulkEntry {H : Type} : Lit × DataW H → Nat
  | (.string bytes, d) => bytes.length + uptoBulk d + 1
  | (_, d) => uptoBulk d + 1
 end
def uptoSmall : (H : Type) → List (DataW H) → Bool := fun _ ds => decide (uptoBulkAll ds ≤ 1048576)
def OpenSpec.upto (s : _root_.Go.ChangeSpec) : _root_.Go.OpenSpec := { _root_.Go.OpenSpec.ofChange s with cond := some uptoSmall }

/-- 'jotterlaw23.NotesNames', WHERE WHAT IT READS IS OF BULK AT MOST 1048576: true; the input reads as it did. -/
def notesNamesUptoRow : OpenClaim := { program := "ytjieepgapjbjlaa", sum := "2d7b20c66e4979b6f2664948888446de1d4dbf2c75d12e22e985c440c14306f6", func := "jotter/jotterlaw23.NotesNames", spec := "notesNames", apart := false, narrowed := true }
def NotesNamesUptoSaid : Prop := notesNamesUptoRow.holds Try.pinned (OpenSpec.upto notesNamesSpec)

/-- 'jotterlaw23.NotesTalks', WHERE WHAT IT READS IS OF BULK AT MOST 1048576: true; the input reads as it did. -/
def notesTalksUptoRow : OpenClaim := { program := "ytjieepgapjbjlaa", sum := "2d7b20c66e4979b6f2664948888446de1d4dbf2c75d12e22e985c440c14306f6", func := "jotter/jotterlaw23.NotesTalks", spec := "notesTalks", apart := false, narrowed := true }
def NotesTalksUptoSaid : Prop := notesTalksUptoRow.holds Try.pinned (OpenSpec.upto notesTalksSpec)

/-- 'jotterlaw23.NotesFollow', WHERE WHAT IT READS IS OF BULK AT MOST 1048576: true; the input reads as it did. -/
def notesFollowUptoRow : OpenClaim := { program := "ytjieepgapjbjlaa", sum := "2d7b20c66e4979b6f2664948888446de1d4dbf2c75d12e22e985c440c14306f6", func := "jotter/jotterlaw23.NotesFollow", spec := "notesFollow", apart := false, narrowed := true }
def NotesFollowUptoSaid : Prop := notesFollowUptoRow.holds Try.pinned (OpenSpec.upto notesFollowSpec)

/-- 'jotterlaw23.NotesTwice', WHERE WHAT IT READS IS OF BULK AT MOST 1048576: true; the input reads as it did. -/
def notesTwiceUptoRow : OpenClaim := { program := "ytjieepgapjbjlaa", sum := "2d7b20c66e4979b6f2664948888446de1d4dbf2c75d12e22e985c440c14306f6", func := "jotter/jotterlaw23.NotesTwice", spec := "notesTwice", apart := false, narrowed := true }
def NotesTwiceUptoSaid : Prop := notesTwiceUptoRow.holds Try.pinned (OpenSpec.upto notesTwiceSpec)

/-- 'jotterlaw23.NotesNumbers', WHERE WHAT IT READS IS OF BULK AT MOST 1048576: true; the input reads as it did. -/
def notesNumbersUptoRow : OpenClaim := { program := "ytjieepgapjbjlaa", sum := "2d7b20c66e4979b6f2664948888446de1d4dbf2c75d12e22e985c440c14306f6", func := "jotter/jotterlaw23.NotesNumbers", spec := "notesNumbers", recurses := true, apart := false, narrowed := true }
def NotesNumbersUptoSaid : Prop := notesNumbersUptoRow.holds Try.pinned (OpenSpec.upto notesNumbersSpec)

/-- 'jotterlaw23.NotesPlays', WHERE WHAT IT READS IS OF BULK AT MOST 1048576: true; the input reads as it did. -/
def notesPlaysUptoRow : OpenClaim := { program := "ytjieepgapjbjlaa", sum := "2d7b20c66e4979b6f2664948888446de1d4dbf2c75d12e22e985c440c14306f6", func := "jotter/jotterlaw23.NotesPlays", spec := "notesPlays", recurses := true, apart := false, narrowed := true }
def NotesPlaysUptoSaid : Prop := notesPlaysUptoRow.holds Try.pinned (OpenSpec.upto notesPlaysSpec)

/-- 'jotterlaw23.NotesSweeps', WHERE WHAT IT READS IS OF BULK AT MOST 1048576: true; the input reads as it did. -/
def notesSweepsUptoRow : OpenClaim := { program := "ytjieepgapjbjlaa", sum := "2d7b20c66e4979b6f2664948888446de1d4dbf2c75d12e22e985c440c14306f6", func := "jotter/jotterlaw23.NotesSweeps", spec := "notesSweeps", recurses := true, apart := false, narrowed := true }
def NotesSweepsUptoSaid : Prop := notesSweepsUptoRow.holds Try.pinned (OpenSpec.upto notesSweepsSpec)

end Rows
end Go.Proofs.Ytjieepgapjbjlaa
