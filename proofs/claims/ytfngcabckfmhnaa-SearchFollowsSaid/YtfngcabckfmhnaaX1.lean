/- SearchFollows: its arguments, and the plain laws that its walk needs. -/
import Derived.Test.YtfngcabckfmhnaaM3
import Derived.Test.YtfngcabckfmhnaaW1
import Derived.Test.YtfngcabckfmhnaaR0
import Derived.Test.YtfngcabckfmhnaaH3
import Derived.Test.YtfngcabckfmhnaaV3
namespace Go.Proofs.Ytfngcabckfmhnaa.B
open Go.RowKit Go.Proofs.YtfngcabckfmhnaaW.PrintWords Go.Proofs.YtfngcabckfmhnaaW.PrintLast Go.Proofs.YtfngcabckfmhnaaW.PrintMore Go.Proofs.Ytfngcabckfmhnaa.PA
set_option linter.unusedVariables false
set_option linter.unusedSimpArgs false

/-- A row of steps, as memory holds it. -/
def StepsAt (W : World) (A : Option Addr) (n : Nat) (f : Nat → Bool × Int × Int) : Prop := ∀ i, i < n → ∃ ad, A = some ad ∧ W.cell? (ad.add (i * 3)) = some (.bool (f i).1) ∧
  W.cell? ⟨(ad.add (i * 3)).block, (ad.add (i * 3)).off + 1, none⟩ = some (.int .i64 (f i).2.1) ∧ W.cell? ⟨(ad.add (i * 3)).block, (ad.add (i * 3)).off + 2, none⟩ = some (.int .u8 (f i).2.2) ∧ 0 ≤ (f i).2.2 ∧ (f i).2.2 ≤ 255
/-- A row of strings. -/
def StrsAt (W : World) (A : Option Addr) (n : Nat) (f : Nat → ByteArray) : Prop := ∀ i, i < n → ∃ ad, A = some ad ∧ W.cell? (ad.add i) = some (.string (f i)) ∧ (f i).size ≤ 140737488351232
theorem into_at (a : Int) (n : Nat) (h : 0 < n) (hn : n ≤ 100000) : ∃ m : Nat, m < n ∧ jotterlaw24_into.f a (n : Int) = some (m : Int) := into_pure a n h hn
theorem made_pure (b : Bool) (m c : Int) (n : Nat) (hn : n ≤ 2000) (hc : 0 ≤ c ∧ c ≤ 255) : ∃ K P C : Int, jotterlaw24_made.f 1 b m c n = some (K, P, C, 64, 64) ∧ fit n K P C 64 64 = 0 ∧ 0 ≤ C ∧ C ≤ 255 := by
  have del : ∀ x : Bool, x = true → 0 < n → ∃ K P C : Int, jotterlaw24_made.j0 1 n x b m c = some (K, P, C, 64, 64) ∧ fit n K P C 64 64 = 0 ∧ 0 ≤ C ∧ C ≤ 255 := fun x hx hp => by
    obtain ⟨p, hp1, hp2⟩ := into_at m n hp (by omega)
    refine ⟨2, p, 0, ?_, fit_del (by omega) (by omega) (by omega) (by omega), by omega, by omega⟩
    simp only [jotterlaw24_made.j0]
    rw [if_pos hx, hp2]
    rfl
  have ins : ∀ x : Bool, x = false → ∃ K P C : Int, jotterlaw24_made.j0 1 n x b m c = some (K, P, C, 64, 64) ∧ fit n K P C 64 64 = 0 ∧ 0 ≤ C ∧ C ≤ 255 := fun x hx => by
    obtain ⟨p, hp1, hp2⟩ := into_at m (n + 1) (by omega) (by omega)
    have hm : Int.tmod c 95 = c % 95 := Int.tmod_eq_emod_of_nonneg hc.1
    refine ⟨1, p, (32 + Int.tmod c 95) % 256, ?_, fit_ins (by omega) (by omega) (by rw [hm]; omega) (by omega) (by omega), by rw [hm]; omega, by rw [hm]; omega⟩
    simp only [jotterlaw24_made.j0]
    rw [if_neg (by rw [hx]; decide), w64 (by omega) (by omega), show (n : Int) + 1 = ((n + 1 : Nat) : Int) by omega, hp2]
    rfl
  unfold jotterlaw24_made.f
  cases b with
  | false => rw [if_neg (by decide)]; exact ins false rfl
  | true =>
    rw [if_pos rfl]
    by_cases h : 0 < n
    · exact del _ (decide_eq_true (by omega)) h
    · exact ins _ (decide_eq_false (by omega))
theorem ints_loop (l : List Int) (hl : l.length ≤ 100000) (d : Nat) : ∀ k i : Nat, i + d = l.length → d < k → jotterlaw24_ints.l0 k l l i = some true := by
  induction d with
  | zero =>
    intro k i hi hk
    obtain ⟨k, rfl⟩ : ∃ m, k = m + 1 := ⟨k - 1, by omega⟩
    simp only [jotterlaw24_ints.l0]
    rw [if_neg (by omega)]
  | succ d ih =>
    intro k i hi hk
    obtain ⟨k, rfl⟩ : ∃ m, k = m + 1 := ⟨k - 1, by omega⟩
    simp only [jotterlaw24_ints.l0]
    rw [if_pos (by omega), if_pos (by omega), if_pos (by omega), if_pos trivial, w64 (x := (i : Int) + 1) (by omega) (by omega)]
    exact ih k (i + 1) (by omega) (by omega)
theorem ints_pure (l : List Int) (hl : l.length ≤ 100000) : ∃ k, jotterlaw24_ints.f k l l = some true :=
  ⟨l.length + 1, by unfold jotterlaw24_ints.f; rw [if_pos rfl]; exact ints_loop l hl l.length _ 0 (by omega) (by omega)⟩
theorem words_loop (l : List ByteArray) (hl : l.length ≤ 100000) (d : Nat) : ∀ k i : Nat, i + d = l.length → d < k → jotterlaw24_words.l0 k l l i = some true := by
  induction d with
  | zero =>
    intro k i hi hk
    obtain ⟨k, rfl⟩ : ∃ m, k = m + 1 := ⟨k - 1, by omega⟩
    simp only [jotterlaw24_words.l0]
    rw [if_neg (by omega)]
  | succ d ih =>
    intro k i hi hk
    obtain ⟨k, rfl⟩ : ∃ m, k = m + 1 := ⟨k - 1, by omega⟩
    simp only [jotterlaw24_words.l0]
    rw [if_pos (by omega), if_pos (by omega), if_pos (by omega), if_pos trivial, w64 (x := (i : Int) + 1) (by omega) (by omega)]
    exact ih k (i + 1) (by omega) (by omega)
theorem words_pure (l : List ByteArray) (hl : l.length ≤ 100000) : ∃ k, jotterlaw24_words.f k l l = some true :=
  ⟨l.length + 1, by unfold jotterlaw24_words.f; rw [if_pos rfl]; exact words_loop l hl l.length _ 0 (by omega) (by omega)⟩
theorem places_len (s p : ByteArray) : (places s p).length ≤ s.size := by
  unfold places
  have := List.length_filter_le (mt s p) (List.range' 0 s.size)
  rw [List.length_range'] at this
  exact this
/-- Between two rounds. -/
structure Inv3 (w wr : World) (g : Nat) (v : Value) (d : List S76) (r : Option Nat) (ps : List (List Int)) (i : Nat) : Prop where
  e : Kd.R k76 76 wr w.heap.size (fun _ => True) v d
  x : Idx wr g r ps
  f : fl ps = d.map (·.f0)
  b : Below w.heap.size w wr
  hg : w.heap.size ≤ g
  r : ∀ k, r = some k → w.heap.size ≤ k
  n : ps.length ≤ 1001 + i
  dl : d.length ≤ 1000 + i
theorem Inv3.step {w wr W' : World} {g : Nat} {v : Value} {d : List S76} {r : Option Nat} {ps : List (List Int)} {i : Nat} (h : Inv3 w wr g v d r ps i) (hb : Below wr.heap.size wr W') : Inv3 w W' g v d r ps i :=
  ⟨Kd.R_below h.e hb, h.x.below hb, h.f, below_then h.b h.b.size hb, h.hg, h.r, h.n, h.dl⟩
theorem app_len {d : List S76} {k p c cl s : Int} (h : fit d.length k p c cl s = 0) : (app d k p c cl s).length ≤ d.length + 1 := by
  obtain ⟨_, _, _, _, hp, h1, h2⟩ := fit_zero h
  unfold app
  split
  · have := h1 (by assumption)
    simp
    omega
  · split
    · simp
      omega
    · omega
end Go.Proofs.Ytfngcabckfmhnaa.B
