/- From a law's contract to its calls; what is handed in, as the ghost machine reads it. -/
import Derived.Test.YtjieepgapjbjlaaND
import Derived.SizedLaws
import Derived.WideShapes
import Derived.Below
import Derived.Deep.Slices
import Derived.Deep.SlicePairs
namespace Go.Proofs.Ytjieepgapjbjlaa.G
open Go.Gv Go.Deep Go.RowKit Go.ChangeShapes Go.WideShapes
set_option linter.unusedVariables false
set_option linter.unusedSimpArgs false
set_option maxRecDepth 100000

theorem law_of {f : FuncId} {args : List Value} {W : World} (hc : GC pr f args (GH.old W) (fun v _ => v = .bool true)) :
    Calls pr f args.toArray W fun e w' => e = .returned (.bool true) ∧ Below W.heap.size W w' :=
  (hc _ _ W W (R.old W)).mono fun e w' ⟨v, h', he, hr, hv⟩ => ⟨by rw [he, hv], ⟨hr.os, hr.tape, hr.output, hr.size, fun k hk => (hr.keep k hk).2⟩⟩

theorem cs_split {α : Type} (d : Kind α) {xs : List α} {q : Nat} {v : Value} (h : (d.cs xs)[q]? = some v) : ∃ i, ∃ hi : i < xs.length, ∃ j, q = i * d.k + j ∧ (d.enc xs[i])[j]? = some v := by
  induction xs generalizing q with
  | nil => simp [Kind.cs] at h
  | cons x xs ih =>
    rw [Kind.cs_cons] at h
    by_cases hq : q < (d.enc x).length
    · rw [List.getElem?_append_left hq] at h
      exact ⟨0, by simp, q, by simp, h⟩
    · rw [List.getElem?_append_right (by omega)] at h
      obtain ⟨i, hi, j, hj, hv⟩ := ih h
      refine ⟨i + 1, by simpa using hi, j, ?_, by simpa using hv⟩
      rw [d.len] at hj hq
      rw [Nat.add_mul]
      omega

/-- What is handed in, read off the world's cells. -/
theorem sla_old {α : Type} {d : Kind α} (hk : 0 < d.k) {W : World} {A : Option Addr} {n c : Nat} (f : Nat → α)
    (hr : n = 0 ∨ ∃ a, A = some a ∧ n ≤ c ∧ n ≤ 140737488355328 ∧ ∀ i, i < n → ∀ j v, (d.enc (f i))[j]? = some v → W.cell? (a.add (i * d.k + j)) = some v) : SlA d [] (GH.old W) A n c ((List.range n).map f) := by
  refine ⟨by simp, fun hne => ?_⟩
  have hn : 0 < n := by
    cases n with
    | zero => exact absurd rfl hne
    | succ n => omega
  rcases hr with h0 | ⟨a, rfl, hc, hs, hcell⟩
  · omega
  have hsp : a.spot = none := by
    have h1 : 0 < (d.enc (f 0)).length := by rw [d.len]; exact hk
    have h2 := hcell 0 hn 0 _ (List.getElem?_eq_getElem h1)
    rw [Nat.zero_mul, Nat.add_zero] at h2
    unfold Addr.add at h2
    rw [if_pos rfl] at h2
    unfold World.cell? at h2
    cases hx : a.spot with
    | none => rfl
    | some s =>
      rw [hx] at h2
      split at h2 <;> simp at h2
  refine ⟨⟨by simp, hc, hs, fun p hp => ?_, fun e => by simp at e, fun p hp => ?_⟩, fun p hp _ => by simp⟩
  · simp only [Option.some.injEq] at hp; subst hp; exact hsp
  · simp only [Option.some.injEq] at hp
    subst hp
    refine old_rds hsp (d.cs_all _) fun q v hv => ?_
    obtain ⟨i, hi, j, rfl, hv'⟩ := cs_split d hv
    simp only [List.length_map, List.length_range] at hi
    have := hcell i hi j v (by simpa using hv')
    rwa [addr_add hsp] at this

/-- The fields of a struct of two: their places and types. -/
def two (P : Program) (t : TypeId) : Option ((Nat × Nat) × (Nat × Nat)) :=
  match P.underlying t with
  | some (.struct fs) => match fs.toList with
    | [f0, f1] => some ((f0.offset, f0.type), (f1.offset, f1.type))
    | _ => none
  | _ => none

theorem two_fields {P : Program} {t : TypeId} {a b c d : Nat} (h : two P t = some ((a, b), (c, d))) : ∃ f0 f1 : Field, P.underlying t = some (.struct #[f0, f1]) ∧ f0.offset = a ∧ f1.offset = c ∧ f0.type = b ∧ f1.type = d := by
  unfold two at h
  split at h
  · rename_i fs hfs
    split at h
    · rename_i f0 f1 hl
      simp only [Option.some.injEq, Prod.mk.injEq] at h
      obtain ⟨⟨h1, h2⟩, h3, h4⟩ := h
      refine ⟨f0, f1, ?_, h1, h3, h2, h4⟩
      rw [hfs]
      congr 2
      exact Array.toList_inj.mp (by rw [hl])
    · exact absurd h (by simp)
  · exact absurd h (by simp)

/-- A slice of pairs of cells. -/
theorem open_pairs {α : Type} [Inhabited α] {d : Kind α} (hk : d.k = 2) {H : Type} {enc : TypeId × Value → H} {W : World} {base : Nat} {sp : Nat → Bool} {held : Bool} {A : Option Addr} {n c : Nat} {x : DataW H} {p : List MemPlace} {t e : TypeId} {f0 f1 : Field}
    (ht : pr.underlying t = some (.slice e)) (he : pr.underlying e = some (.struct #[f0, f1])) (ce : pr.cellsOf e = 2) (o0 : f0.offset = 0) (o1 : f1.offset = 1) (c0 : pr.cellsOf f0.type = 1) (c1 : pr.cellsOf f1.type = 1)
    (h : DataW.Trod enc pr W base sp held t (.slice A n c) x p) (hw : ∀ k ∈ x.weights pr t, k ≤ reachBytes) (hb : 1 ≤ pr.bytesOf e)
    (each : ∀ m v0 v1 (D0 D1 : DataW H × List MemPlace), DataW.trod enc pr W base sp held m f0.type [v0] = some D0 → DataW.trod enc pr W base sp held m f1.type [v1] = some D1 → ∃ y : α, d.enc y = [v0, v1]) :
    ∃ xs : List α, SlA d [] (GH.old W) A n c xs ∧ xs.length * pr.bytesOf e ≤ reachBytes := by
  obtain ⟨fuel, hf⟩ := h
  rcases open_slice_pairs ht he ce o0 o1 c0 c1 hf with ⟨hcs, _⟩ | ⟨a, len, cap, m, k, V0, V1, D0, D1, P0, P1, hcs, hbk, hl, hm, hmm, hx, hall⟩
  · simp [Value.cells] at hcs
    obtain ⟨rfl, rfl, rfl⟩ := hcs
    exact ⟨[], ⟨rfl, fun h => absurd rfl h⟩, by simp⟩
  · simp [Value.cells] at hcs
    obtain ⟨rfl, rfl, rfl⟩ := hcs
    have hlm : n ≤ m := by rw [hmm]; split <;> omega
    have hx' : ∀ i, i < n → ∃ y : α, d.enc y = [V0 i, V1 i] := fun i hi => by
      obtain ⟨_, _, h2, h3⟩ := hall i (by omega)
      exact each _ _ _ _ _ h2 h3
    obtain ⟨f, hf'⟩ := choose_lt hx'
    have hwt : n * pr.bytesOf e ≤ reachBytes := by
      injection hx with hx _
      have := hw _ (by rw [hx]; simp only [DataW.weights, ht]; exact List.mem_cons_self)
      simp only [List.length_map, List.length_range] at this
      have h2 : n * pr.bytesOf e ≤ (n + (m - n)) * pr.bytesOf e := Nat.mul_le_mul_right _ (by omega)
      omega
    refine ⟨(List.range n).map f, sla_old (by omega) f ?_, by simpa using hwt⟩
    refine .inr ⟨a, rfl, hl, ?_, fun i hi j v hv => ?_⟩
    · have h3 : n * 1 ≤ n * pr.bytesOf e := Nat.mul_le_mul_left _ hb
      have := reachBytes_lt
      omega
    · rw [hf' i hi] at hv
      obtain ⟨h0, h1, _⟩ := hall i (by omega)
      rw [hk]
      match j, hv with
      | 0, hv => simp only [List.getElem?_cons_zero, Option.some.injEq] at hv; subst hv; exact h0
      | 1, hv => simp only [List.getElem?_cons_succ, List.getElem?_cons_zero, Option.some.injEq] at hv; subst hv; exact h1
      | j + 2, hv => simp at hv

theorem open_ones {α : Type} [Inhabited α] {d : Kind α} (hk : d.k = 1) {H : Type} {enc : TypeId × Value → H} {W : World} {base : Nat} {sp : Nat → Bool} {held : Bool} {A : Option Addr} {n c : Nat} {x : DataW H} {p : List MemPlace} {t e : TypeId}
    (ht : pr.underlying t = some (.slice e)) (ce : pr.cellsOf e = 1)
    (h : DataW.Trod enc pr W base sp held t (.slice A n c) x p) (hw : ∀ k ∈ x.weights pr t, k ≤ reachBytes) (hb : 1 ≤ pr.bytesOf e)
    (each : ∀ m v0 (D0 : DataW H × List MemPlace), DataW.trod enc pr W base sp held m e [v0] = some D0 → ∃ y : α, d.enc y = [v0]) :
    ∃ xs : List α, SlA d [] (GH.old W) A n c xs ∧ xs.length * pr.bytesOf e ≤ reachBytes := by
  obtain ⟨fuel, hf⟩ := h
  rcases open_slice1 ht ce hf with ⟨hcs, _⟩ | ⟨a, len, cap, m, k, V0, D0, P0, hcs, hbk, hl, hm, hmm, hx, hall⟩
  · simp [Value.cells] at hcs
    obtain ⟨rfl, rfl, rfl⟩ := hcs
    exact ⟨[], ⟨rfl, fun h => absurd rfl h⟩, by simp⟩
  · simp [Value.cells] at hcs
    obtain ⟨rfl, rfl, rfl⟩ := hcs
    have hlm : n ≤ m := by rw [hmm]; split <;> omega
    have hx' : ∀ i, i < n → ∃ y : α, d.enc y = [V0 i] := fun i hi => by
      obtain ⟨_, h2⟩ := hall i (by omega)
      exact each _ _ _ h2
    obtain ⟨f, hf'⟩ := choose_lt hx'
    have hwt : n * pr.bytesOf e ≤ reachBytes := by
      injection hx with hx _
      have := hw _ (by rw [hx]; simp only [DataW.weights, ht]; exact List.mem_cons_self)
      simp only [List.length_map, List.length_range] at this
      have h2 : n * pr.bytesOf e ≤ (n + (m - n)) * pr.bytesOf e := Nat.mul_le_mul_right _ (by omega)
      omega
    refine ⟨(List.range n).map f, sla_old (by omega) f ?_, by simpa using hwt⟩
    refine .inr ⟨a, rfl, hl, ?_, fun i hi j v hv => ?_⟩
    · have h3 : n * 1 ≤ n * pr.bytesOf e := Nat.mul_le_mul_left _ hb
      have := reachBytes_lt
      omega
    · rw [hf' i hi] at hv
      obtain ⟨h0, _⟩ := hall i (by omega)
      rw [hk, Nat.mul_one]
      match j, hv with
      | 0, hv => simp only [List.getElem?_cons_zero, Option.some.injEq] at hv; subst hv; exact h0
      | j + 1, hv => simp at hv
end Go.Proofs.Ytjieepgapjbjlaa.G
