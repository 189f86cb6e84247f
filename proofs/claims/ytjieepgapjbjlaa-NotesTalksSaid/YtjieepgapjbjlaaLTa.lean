/- NotesTalks: what is handed in, opened. -/
import Derived.Test.YtjieepgapjbjlaaLT
import Derived.Test.YtjieepgapjbjlaaL0
namespace Go.Proofs.Ytjieepgapjbjlaa.G
open Go.Gv Go.Deep Go.RowKit Go.ChangeShapes Go.WideShapes
set_option linter.unusedVariables false
set_option maxRecDepth 100000
instance : Inhabited Reply := ⟨⟨0, ByteArray.empty⟩⟩
theorem u23 : pr.underlying 23 = some (.slice 31) := by kernel_rfl
theorem u31 : two pr 31 = some ((0, 3), (1, 9)) := by kernel_rfl
theorem u3 : pr.underlying 3 = some (.int .i64) := by kernel_rfl
theorem u9 : pr.underlying 9 = some .string := by kernel_rfl
theorem c31 : pr.cellsOf 31 = 2 := by kernel_rfl
theorem c3 : pr.cellsOf 3 = 1 := by kernel_rfl
theorem c9 : pr.cellsOf 9 = 1 := by kernel_rfl
theorem b31 : pr.bytesOf 31 = 24 := by kernel_rfl

theorem open_replies {H : Type} {enc : TypeId × Value → H} {W : World} {base : Nat} {sp : Nat → Bool} {held : Bool} {A : Option Addr} {n c : Nat} {x : DataW H} {p : List MemPlace}
    (h : DataW.Trod enc pr W base sp held 23 (.slice A n c) x p) (hw : ∀ k ∈ x.weights pr 23, k ≤ reachBytes) :
    ∃ xs : List Reply, SlA kReply [] (GH.old W) A n c xs ∧ xs.length * 24 ≤ reachBytes := by
  obtain ⟨f0, f1, hu, o0, o1, t0, t1⟩ := two_fields u31
  have := open_pairs (d := kReply) rfl u23 hu c31 o0 o1 (by rw [t0]; exact c3) (by rw [t1]; exact c9) h hw (by rw [b31]; omega) fun m v0 v1 D0 D1 h0 h1 => by
    rw [t0] at h0
    rw [t1] at h1
    obtain ⟨k, hk, _⟩ := DataW.trod_int u3 h0
    obtain ⟨s, hs, _⟩ := DataW.trod_string u9 h1
    simp only [List.cons.injEq, and_true] at hk hs
    exact ⟨⟨k, s⟩, by rw [hk, hs]; rfl⟩
  rwa [b31] at this

theorem talks_walk {W : World} {A : Option Addr} {n c : Nat} {said : List Reply} {shut : Int} (hs : SlA kReply [] (GH.old W) A n c said) (hb : said.length * 24 ≤ reachBytes) :
    Calls Try.prog 4 #[.slice A n c, .int .i64 shut] W fun e w' => e = .returned (.bool true) ∧ Below W.heap.size W w' :=
  law_of (talks_ok hs (by have := reachBytes_lt; omega) fun _ => rfl)
end Go.Proofs.Ytjieepgapjbjlaa.G
