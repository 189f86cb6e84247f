/- SearchRefuses: the law's arguments opened; the walks joined. -/
import Derived.Test.YtfngcabckfmhnaaR1
import Derived.Test.YtfngcabckfmhnaaR2
import Derived.Test.YtfngcabckfmhnaaR3
import Derived.SizedLaws
import Derived.WideShapes
import Derived.Lib.SmallJoins
namespace Go.Proofs.Ytfngcabckfmhnaa.B
open Go.RowKit Go.Proofs.YtfngcabckfmhnaaW.PrintWords Go.Proofs.YtfngcabckfmhnaaW.PrintLast Go.Proofs.YtfngcabckfmhnaaW.PrintMore Go.Proofs.Ytfngcabckfmhnaa.PA
set_option linter.unusedVariables false
set_option linter.unusedSimpArgs false
theorem cell_int {P : Program} {w : World} {r : Reach} {base : Nat} {u : TypeId} {k : IntKind} {v : Value} (hu : P.underlying u = some (.int k)) (h : Cell.okWide P w r base u v) : ∃ n, v = .int k n ∧ k.has n := by
  unfold Cell.okWide at h
  rw [hu] at h
  have h2 : Cell.ok P w r base u v := by
    cases v <;> exact h
  unfold Cell.ok at h2
  rw [hu] at h2
  cases v <;> first | exact h2.elim | (obtain ⟨rfl, hn⟩ := h2; exact ⟨_, rfl, hn⟩)
theorem cell_str {P : Program} {w : World} {r : Reach} {base : Nat} {u : TypeId} {v : Value} (hu : P.underlying u = some .string) (h : Cell.okWide P w r base u v) : ∃ s, v = .string s := by
  unfold Cell.okWide at h
  rw [hu] at h
  have h2 : Cell.ok P w r base u v := by
    cases v <;> exact h
  unfold Cell.ok at h2
  rw [hu] at h2
  cases v <;> first | exact h2.elim | exact ⟨_, rfl⟩
theorem has_u8 {n : Int} (h : IntKind.u8.has n) : 0 ≤ n ∧ n ≤ 255 := h
theorem arr3 {α : Type} {cs : Array α} (h : cs.size = 3) : ∃ c0 c1 c2, cs = #[c0, c1, c2] := by
  obtain ⟨l⟩ := cs
  match l, h with
  | [c0, c1, c2], _ => exact ⟨c0, c1, c2, rfl⟩
theorem arr5 {α : Type} {cs : Array α} (h : cs.size = 5) : ∃ c0 c1 c2 c3 c4, cs = #[c0, c1, c2, c3, c4] := by
  obtain ⟨l⟩ := cs
  match l, h with
  | [c0, c1, c2, c3, c4], _ => exact ⟨c0, c1, c2, c3, c4, rfl⟩
theorem okWide_agg {P : Program} {w : World} {r : Reach} {base : Nat} {t : TypeId} {fs : Array Field} {v : Value} {ts : List TypeId} (hu : P.underlying t = some (.struct fs)) (ht : P.cellTypes P.depth t = some ts) (h : Value.okWide P w r base t v) :
    ∃ cs, v = .agg cs ∧ cs.size = P.cellsOf t ∧ ∀ i v, cs[i]? = some v → ∃ u, ts[i % ts.length]? = some u ∧ Cell.okWide P w r base u v := by
  simp only [Value.okWide, hu] at h
  obtain ⟨cs, h1, h2, ts', h3, _, h4⟩ := h
  rw [ht] at h3
  cases h3
  exact ⟨cs, h1, h2, h4⟩
theorem weights_agg {H : Type} {P : Program} {t : TypeId} {fs : Array Field} {parts : List (DataW H)} {n : Nat} (hu : P.underlying t = some (.struct fs)) (h : n ∈ DataW.weightsEach P (fs.toList.map (·.type)) parts) : n ∈ DataW.weights P t (.agg parts) := by
  simp only [DataW.weights, hu]
  exact h
theorem types46 : Try.prog.cellTypes Try.prog.depth 46 = some [3, 3, 5, 3, 3] := by kernel_rfl
theorem cells46 : Try.prog.cellsOf 46 = 5 := by kernel_rfl
theorem types52 : Try.prog.cellTypes Try.prog.depth 52 = some [9, 3, 5] := by kernel_rfl
theorem cells52 : Try.prog.cellsOf 52 = 3 := by kernel_rfl
set_option maxRecDepth 100000 in
theorem open_op {W : World} {base : Nat} {v : Value} (h : Value.okWide Try.prog W .any base 46 v) : ∃ K P C CL SQ, v = .agg #[.int .i64 K, .int .i64 P, .int .u8 C, .int .i64 CL, .int .i64 SQ] ∧ 0 ≤ C ∧ C ≤ 255 := by
  obtain ⟨cs, rfl, hsz, hall⟩ := okWide_agg Try.underlying46 types46 h
  obtain ⟨c0, c1, c2, c3, c4, rfl⟩ := arr5 (hsz.trans cells46)
  obtain ⟨u, hu, h0⟩ := hall 0 c0 rfl
  cases hu
  obtain ⟨u, hu, h1⟩ := hall 1 c1 rfl
  cases hu
  obtain ⟨u, hu, h2⟩ := hall 2 c2 rfl
  cases hu
  obtain ⟨u, hu, h3⟩ := hall 3 c3 rfl
  cases hu
  obtain ⟨u, hu, h4⟩ := hall 4 c4 rfl
  cases hu
  obtain ⟨K, rfl, _⟩ := cell_int Try.underlying3 h0
  obtain ⟨P, rfl, _⟩ := cell_int Try.underlying3 h1
  obtain ⟨C, rfl, hC⟩ := cell_int Try.underlying5 h2
  obtain ⟨CL, rfl, _⟩ := cell_int Try.underlying3 h3
  obtain ⟨SQ, rfl, _⟩ := cell_int Try.underlying3 h4
  exact ⟨K, P, C, CL, SQ, rfl, has_u8 hC⟩
set_option maxRecDepth 100000 in
theorem open_ask {W : World} {base : Nat} {v : Value} (h : Value.okWide Try.prog W .any base 52 v) : ∃ T N B, v = .agg #[.string T, .int .i64 N, .int .u8 B] ∧ 0 ≤ B ∧ B ≤ 255 := by
  obtain ⟨cs, rfl, hsz, hall⟩ := okWide_agg Try.underlying52 types52 h
  obtain ⟨c0, c1, c2, rfl⟩ := arr3 (hsz.trans cells52)
  obtain ⟨u, hu, h0⟩ := hall 0 c0 rfl
  cases hu
  obtain ⟨u, hu, h1⟩ := hall 1 c1 rfl
  cases hu
  obtain ⟨u, hu, h2⟩ := hall 2 c2 rfl
  cases hu
  obtain ⟨T, rfl⟩ := cell_str Try.underlying9 h0
  obtain ⟨N, rfl, _⟩ := cell_int Try.underlying3 h1
  obtain ⟨B, rfl, hB⟩ := cell_int Try.underlying5 h2
  exact ⟨T, N, B, rfl, has_u8 hB⟩
set_option maxRecDepth 100000 in
theorem ask_size {H : Type} {enc : TypeId × Value → H} {W : World} {base : Nat} {sp : Nat → Bool} {held : Bool} {T : ByteArray} {N B : Int} {d : DataW H} {p : List MemPlace} (h : DataW.Trod enc Try.prog W base sp held 52 (.agg #[.string T, .int .i64 N, .int .u8 B]) d p)
    (hw : ∀ n ∈ d.weights Try.prog 52, n ≤ reachBytes) : T.size ≤ 140737488351232 := by
  obtain ⟨fuel, hf⟩ := h
  obtain ⟨xs, n, _, hx0, hl, hlen, hall⟩ := DataW.trod_struct Try.underlying52 hf
  injection hx0 with hx0 _
  subst hx0
  obtain ⟨x0, r0, rfl⟩ : ∃ x0 r0, xs = x0 :: r0 := by
    cases xs with
    | nil => cases hlen
    | cons a l => exact ⟨a, l, rfl⟩
  have h0 := hall 0 _ rfl
  obtain ⟨s, hs, hx, _⟩ := DataW.trod_string Try.underlying9 h0
  obtain rfl : T = s := by
    have e : [Value.string T] = [Value.string s] := hs
    injection e with e _
    injection e
  have hm := hw T.size (weights_agg Try.underlying52 (by
    show T.size ∈ DataW.weightsEach Try.prog [9, 3, 5] (List.map (fun x => x.fst) (x0 :: r0))
    simp only [List.map_cons, DataW.weightsEach, List.mem_append]
    left
    have hx' : x0 = (.lit (.string T.data.toList), []) := hx
    rw [hx']
    simp [DataW.weights]))
  exact hm
theorem refuses_walk (T : ByteArray) (N B K P C CL SQ : Int) (w : World) (hT : T.size ≤ 140737488351232) (hB : 0 ≤ B ∧ B ≤ 255) (hC : 0 ≤ C ∧ C ≤ 255) :
    Calls Try.prog 6 #[.agg #[.string T, .int .i64 N, .int .u8 B], .agg #[.int .i64 K, .int .i64 P, .int .u8 C, .int .i64 CL, .int .i64 SQ]] w (TrueAns w) := by
  obtain ⟨m, hm, hf⟩ := into_pure N 70 (by omega) (by omega)
  rcases Nat.eq_zero_or_pos m with h | h
  · exact refuses_zero T N B K P C CL SQ w hT hB hC m hf h
  · by_cases h64 : m ≤ 64
    · exact refuses_mid T N B K P C CL SQ w hT hB hC m hf ⟨h, h64⟩
    · exact refuses_long T N B K P C CL SQ w hT hB hC m hf ⟨by omega, hm⟩
end Go.Proofs.Ytfngcabckfmhnaa.B
