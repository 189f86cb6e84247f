/- SearchFollows: its arguments opened. -/
import Derived.Test.YtfngcabckfmhnaaX2
import Derived.SizedLaws
import Derived.WideShapes
import Derived.Deep.Slices
import Derived.Deep.SlicePairs
namespace Go.Proofs.Ytfngcabckfmhnaa.B
open Go.Deep Go.RowKit Go.Proofs.YtfngcabckfmhnaaW.PrintWords Go.Proofs.YtfngcabckfmhnaaW.PrintLast Go.Proofs.YtfngcabckfmhnaaW.PrintMore Go.Proofs.Ytfngcabckfmhnaa.PA
set_option linter.unusedVariables false
set_option linter.unusedSimpArgs false
theorem cells64 : Try.prog.cellsOf 64 = 3 := by kernel_rfl
theorem cells3' : Try.prog.cellsOf 3 = 1 := by kernel_rfl
theorem cells4' : Try.prog.cellsOf 4 = 1 := by kernel_rfl
theorem cells5' : Try.prog.cellsOf 5 = 1 := by kernel_rfl
theorem cells9' : Try.prog.cellsOf 9 = 1 := by kernel_rfl
set_option maxRecDepth 100000 in
theorem open_steps {H : Type} {enc : TypeId × Value → H} {W : World} {base : Nat} {sp : Nat → Bool} {held : Bool} {A : Option Addr} {n c : Nat} {d : DataW H} {p : List MemPlace} (h : DataW.Trod enc Try.prog W base sp held 61 (.slice A n c) d p) :
    ∃ f, StepsAt W A n f ∧ n ≤ 9223372036854775807 := by
  obtain ⟨fuel, hf⟩ := h
  rcases open_slice Try.underlying61 hf with ⟨hcs, _⟩ | ⟨a, len, cap, m, k, D, Pl, hcs, hb, hl, hm, hmm, hx, hall⟩
  · simp [Value.cells] at hcs
    obtain ⟨rfl, rfl, rfl⟩ := hcs
    exact ⟨fun _ => (false, 0, 0), fun i hi => absurd hi (Nat.not_lt_zero _), by omega⟩
  · simp [Value.cells] at hcs
    obtain ⟨rfl, rfl, rfl⟩ := hcs
    have hlm : n ≤ m := by rw [hmm]; split <;> omega
    have each : ∀ i, i < n → ∃ q : Bool × Int × Int, W.cell? (a.add (i * 3)) = some (.bool q.1) ∧ W.cell? ⟨(a.add (i * 3)).block, (a.add (i * 3)).off + 1, none⟩ = some (.int .i64 q.2.1) ∧ W.cell? ⟨(a.add (i * 3)).block, (a.add (i * 3)).off + 2, none⟩ = some (.int .u8 q.2.2) ∧ 0 ≤ q.2.2 ∧ q.2.2 ≤ 255 := by
      intro i hi
      obtain ⟨cs', h1, h2⟩ := hall i (by omega)
      rw [cells64] at h1
      obtain ⟨_, hlen, hcell⟩ := World.cells?_some h1
      obtain ⟨xs, k', hk, hxy, _, hxl, hf⟩ := DataW.trod_struct Try.underlying64 h2
      match xs, hxl, cs', hlen with
      | [y0, y1, y2], _, [v0, v1, v2], _ =>
        have g0 := hf 0 _ rfl
        have g1 := hf 1 _ rfl
        have g2 := hf 2 _ rfl
        obtain ⟨b, hb0, _⟩ := DataW.trod_bool Try.underlying4 g0
        obtain ⟨x, hx1, _, _⟩ := DataW.trod_int Try.underlying3 g1
        obtain ⟨u, hu2, _, hw⟩ := DataW.trod_int Try.underlying5 g2
        have hb1 : List.take (Try.prog.cellsOf 4) (List.drop 0 [v0, v1, v2]) = [.bool b] := hb0
        have hx2 : List.take (Try.prog.cellsOf 3) (List.drop 1 [v0, v1, v2]) = [.int .i64 x] := hx1
        have hu3 : List.take (Try.prog.cellsOf 5) (List.drop 2 [v0, v1, v2]) = [.int .u8 u] := hu2
        rw [cells4'] at hb1
        rw [cells3'] at hx2
        rw [cells5'] at hu3
        have e0 := hcell 0 (by omega)
        have e1 := hcell 1 (by omega)
        have e2 := hcell 2 (by omega)
        rw [Go.Deep.add_add] at e0 e1 e2
        rw [add_field _ _ 1 (by omega)] at e1
        rw [add_field _ _ 2 (by omega)] at e2
        have z0 : v0 = .bool b := by
          have : [v0] = [.bool b] := hb1
          simpa using this
        have z1 : v1 = .int .i64 x := by
          have : [v1] = [.int .i64 x] := hx2
          simpa using this
        have z2 : v2 = .int .u8 u := by
          have : [v2] = [.int .u8 u] := hu3
          simpa using this
        have hu : 0 ≤ u ∧ u ≤ 255 := by simpa [Lit.wf, IntKind.min, IntKind.max, IntKind.signed, IntKind.bits] using hw
        exact ⟨(b, x, u), by rw [show i * 3 = i * 3 + 0 from rfl, e0, z0]; rfl, by rw [e1, z1]; rfl, by rw [e2, z2]; rfl, hu⟩
    obtain ⟨q, hq⟩ := choose_lt each
    exact ⟨q, fun i hi => ⟨a, rfl, hq i hi⟩, by unfold maxLen at hm; omega⟩
theorem all_weights {H : Type} {P : Program} {e : TypeId} {l : List (DataW H)} {n : Nat} : ∀ {d : DataW H}, d ∈ l → n ∈ d.weights P e → n ∈ DataW.weightsAll P e l := by
  induction l with
  | nil => intro d h; cases h
  | cons a l ih =>
    intro d h hn
    rw [DataW.weightsAll, List.mem_append]
    rcases List.mem_cons.1 h with rfl | h
    · exact .inl hn
    · exact .inr (ih h hn)
theorem slice_weights {H : Type} {P : Program} {t e : TypeId} {es sp : List (DataW H)} {n : Nat} (ht : P.underlying t = some (.slice e)) (h : n ∈ DataW.weightsAll P e es) : n ∈ DataW.weights P t (.slice es sp) := by
  simp only [DataW.weights, ht]
  exact List.mem_cons_of_mem _ (List.mem_append_left _ h)
set_option maxRecDepth 100000 in
theorem open_strs {H : Type} {enc : TypeId × Value → H} {W : World} {base : Nat} {sp : Nat → Bool} {held : Bool} {A : Option Addr} {n c : Nat} {d : DataW H} {p : List MemPlace} (h : DataW.Trod enc Try.prog W base sp held 55 (.slice A n c) d p)
    (hw : ∀ k ∈ d.weights Try.prog 55, k ≤ reachBytes) : ∃ f, StrsAt W A n f ∧ n ≤ 9223372036854775807 := by
  obtain ⟨fuel, hf⟩ := h
  rcases open_slice Try.underlying55 hf with ⟨hcs, _⟩ | ⟨a, len, cap, m, k, D, Pl, hcs, hb, hl, hm, hmm, hx, hall⟩
  · simp [Value.cells] at hcs
    obtain ⟨rfl, rfl, rfl⟩ := hcs
    exact ⟨fun _ => ByteArray.empty, fun i hi => absurd hi (Nat.not_lt_zero _), by omega⟩
  · simp [Value.cells] at hcs
    obtain ⟨rfl, rfl, rfl⟩ := hcs
    have hlm : n ≤ m := by rw [hmm]; split <;> omega
    injection hx with hx _
    have each : ∀ i, i < n → ∃ q : ByteArray, W.cell? (a.add i) = some (.string q) ∧ q.size ≤ 140737488351232 := by
      intro i hi
      obtain ⟨cs', h1, h2⟩ := hall i (by omega)
      rw [cells9'] at h1
      obtain ⟨_, hlen, hcell⟩ := World.cells?_some h1
      obtain ⟨s, hs, hxs, _⟩ := DataW.trod_string Try.underlying9 h2
      have e0 := hcell 0 (by omega)
      rw [Nat.mul_one, Go.Deep.add_add, Nat.add_zero, hs] at e0
      refine ⟨s, by rw [e0]; rfl, ?_⟩
      have hD : D i = .lit (.string s.data.toList) := congrArg Prod.fst hxs
      have := hw s.size (by
        rw [hx]
        refine slice_weights Try.underlying55 (all_weights (d := D i) (List.mem_map.2 ⟨i, List.mem_range.2 hi, rfl⟩) ?_)
        rw [hD]
        simp [DataW.weights])
      exact this
    obtain ⟨q, hq⟩ := choose_lt (α := ByteArray) each
    exact ⟨q, fun i hi => ⟨a, rfl, hq i hi⟩, by unfold maxLen at hm; omega⟩
end Go.Proofs.Ytfngcabckfmhnaa.B
