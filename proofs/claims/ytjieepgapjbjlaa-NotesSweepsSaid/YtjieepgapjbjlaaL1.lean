/- Slices of turns, as they are handed in. -/
import Derived.Test.YtjieepgapjbjlaaNF
import Derived.Test.YtjieepgapjbjlaaL0
namespace Go.Proofs.Ytjieepgapjbjlaa.G
open Go.Gv Go.Deep Go.RowKit Go.ChangeShapes Go.WideShapes
set_option linter.unusedVariables false
set_option maxRecDepth 100000
instance : Inhabited Turn := ⟨⟨false, 0⟩⟩
theorem u40 : pr.underlying 40 = some (.slice 50) := by kernel_rfl
theorem u50 : two pr 50 = some ((0, 4), (1, 3)) := by kernel_rfl
theorem ui3 : pr.underlying 3 = some (.int .i64) := by kernel_rfl
theorem ub4 : pr.underlying 4 = some .bool := by kernel_rfl
theorem c50 : pr.cellsOf 50 = 2 := by kernel_rfl
theorem ci3 : pr.cellsOf 3 = 1 := by kernel_rfl
theorem cb4 : pr.cellsOf 4 = 1 := by kernel_rfl
theorem b50 : pr.bytesOf 50 = 16 := by kernel_rfl
theorem u46 : pr.underlying 46 = some (.slice 4) := by kernel_rfl
theorem u75 : pr.underlying 75 = some (.slice 3) := by kernel_rfl
theorem b4 : pr.bytesOf 4 = 1 := by kernel_rfl
theorem b3 : pr.bytesOf 3 = 8 := by kernel_rfl

theorem open_turns {H : Type} {enc : TypeId × Value → H} {W : World} {base : Nat} {sp : Nat → Bool} {held : Bool} {A : Option Addr} {n c : Nat} {x : DataW H} {p : List MemPlace}
    (h : DataW.Trod enc pr W base sp held 40 (.slice A n c) x p) (hw : ∀ k ∈ x.weights pr 40, k ≤ reachBytes) :
    ∃ xs : List Turn, SlA kTurn [] (GH.old W) A n c xs ∧ xs.length * 16 ≤ reachBytes := by
  obtain ⟨f0, f1, hu, o0, o1, t0, t1⟩ := two_fields u50
  have := open_pairs (d := kTurn) rfl u40 hu c50 o0 o1 (by rw [t0]; exact cb4) (by rw [t1]; exact ci3) h hw (by rw [b50]; omega) fun m v0 v1 D0 D1 h0 h1 => by
    rw [t0] at h0
    rw [t1] at h1
    obtain ⟨b, hb, _⟩ := DataW.trod_bool ub4 h0
    obtain ⟨k, hk, _⟩ := DataW.trod_int ui3 h1
    simp only [List.cons.injEq, and_true] at hk hb
    exact ⟨⟨b, k⟩, by rw [hk, hb]; rfl⟩
  rwa [b50] at this

theorem open_bools {H : Type} {enc : TypeId × Value → H} {W : World} {base : Nat} {sp : Nat → Bool} {held : Bool} {A : Option Addr} {n c : Nat} {x : DataW H} {p : List MemPlace}
    (h : DataW.Trod enc pr W base sp held 46 (.slice A n c) x p) (hw : ∀ k ∈ x.weights pr 46, k ≤ reachBytes) :
    ∃ xs : List Bool, SlA kBool [] (GH.old W) A n c xs ∧ xs.length ≤ reachBytes := by
  have := open_ones (d := kBool) rfl u46 cb4 h hw (by rw [b4]; omega) fun m v0 D0 h0 => by
    obtain ⟨b, hb, _⟩ := DataW.trod_bool ub4 h0
    simp only [List.cons.injEq, and_true] at hb
    exact ⟨b, by rw [hb]; rfl⟩
  simpa only [b4, Nat.mul_one] using this

theorem open_ints {H : Type} {enc : TypeId × Value → H} {W : World} {base : Nat} {sp : Nat → Bool} {held : Bool} {A : Option Addr} {n c : Nat} {x : DataW H} {p : List MemPlace}
    (h : DataW.Trod enc pr W base sp held 75 (.slice A n c) x p) (hw : ∀ k ∈ x.weights pr 75, k ≤ reachBytes) :
    ∃ xs : List Int, SlA kInt [] (GH.old W) A n c xs ∧ xs.length * 8 ≤ reachBytes := by
  have := open_ones (d := kInt) rfl u75 ci3 h hw (by rw [b3]; omega) fun m v0 D0 h0 => by
    obtain ⟨b, hb, _⟩ := DataW.trod_int ui3 h0
    simp only [List.cons.injEq, and_true] at hb
    exact ⟨b, by rw [hb]; rfl⟩
  rwa [b3] at this
end Go.Proofs.Ytjieepgapjbjlaa.G
